/-
  Walks of key, told, find, end, deep.
-/
import Derived.Test.YtkajknicgabdkaaW4
import Derived.Test.YtkajknicgabdkaaC1
namespace Go.Proofs.Ytkajknicgabdkaa
open Go.RowKit
section
variable {w : World} {b : Nat} {h : Han} {T : TS} {R : Ending → World → Prop}

def Node.key (n : Node) : K := (n.s.ls, n.s.la)
theorem Tree.c_seg (H : Tree w b h T) {i : Int} (hi : T.ok i) :
    w.cell? ⟨h.g, i.toNat * 10, none⟩ = some (.int .i64 (T.nd i).s.ls) ∧ w.cell? ⟨h.g, i.toNat * 10 + 1, none⟩ = some (.int .i64 (T.nd i).s.la) ∧ w.cell? ⟨h.g, i.toNat * 10 + 2, none⟩ = some (.int .i64 (T.nd i).s.hs) ∧
    w.cell? ⟨h.g, i.toNat * 10 + 3, none⟩ = some (.int .i64 (T.nd i).s.ha) ∧ w.cell? ⟨h.g, i.toNat * 10 + 4, none⟩ = some (.int .i64 (T.nd i).s.v) :=
  ⟨H.c_pl hi 0 (by decide), H.c_pl hi 1 (by decide), H.c_pl hi 2 (by decide), H.c_pl hi 3 (by decide), H.c_pl hi 4 (by decide)⟩

theorem key_k {i : Int} (H : Tree w b h T) (hi : T.ok i) (hk : ∀ w', Below w.heap.size w w' → R (.returned (.agg #[.int .i64 (T.nd i).s.ls, .int .i64 (T.nd i).s.la])) w') :
    Calls Try.prog 55 #[.pointer (some ⟨h.t, 0, none⟩), .int .i64 i] w R := by
  have HK := Lib.hid hk
  clear hk
  obtain ⟨c0, c1, -, -, -⟩ := H.c_seg hi
  have hg : h.g < w.heap.size := World.block_lt_of_cell? _ _ c0
  have H' := H.alloc (.cells #[.int .i64 0, .int .i64 0] 32)
  go_enter Try.func55, Try.ntmps55
  go_wp2_with (go_at_call 36; refine at_k H' hi ?_)
  refine bodyPost_ret (v := .agg #[.int .i64 (T.nd i).s.ls, .int .i64 (T.nd i).s.la]) (by simp [results, Try.results55, go_sem]) rfl (HK.out _ ?_)
  (repeat (first | exact Below.refl _ _ | refine Below.setCell ?_ (by first | omega | (simp; done) | (simp; omega)) _ | refine Below.drew ?_ | refine Below.alloc ?_ (by first | omega | (simp; done) | (simp; omega)) _ | (refine Below.trans ?_ (Below.mono (by assumption) (by first | omega | (simp; done) | (simp; omega))))))

abbrev Seg.val (s : Seg) : Value := .agg #[.int .i64 s.ls, .int .i64 s.la, .int .i64 s.hs, .int .i64 s.ha, .int .i64 s.v]
def toldS (T : TS) (i : Int) : Seg × Bool := if i = -1 then (Seg.zero, false) else ((T.nd i).s, true)
theorem told_k {i : Int} (H : Tree w b h T) (hi : i = -1 ∨ T.ok i) (hk : ∀ w', Below w.heap.size w w' → R (.returned (.tuple #[.agg #[.int .i64 (toldS T i).1.ls, .int .i64 (toldS T i).1.la, .int .i64 (toldS T i).1.hs, .int .i64 (toldS T i).1.ha, .int .i64 (toldS T i).1.v], .bool (toldS T i).2])) w') :
    Calls Try.prog 68 #[.pointer (some ⟨h.t, 0, none⟩), .int .i64 i] w R := by
  have HK := Lib.hid hk
  clear hk
  rcases hi with rfl | hi
  · go_enter Try.func68, Try.ntmps68
    go_wp2
    refine bodyPost_ret (v := .tuple #[.agg #[.int .i64 0, .int .i64 0, .int .i64 0, .int .i64 0, .int .i64 0], .bool false]) (by simp [results, Try.results68, go_sem]) rfl (HK.out _ ?_)
    (repeat (first | exact Below.refl _ _ | refine Below.setCell ?_ (by first | omega | (simp; done) | (simp; omega)) _ | refine Below.drew ?_ | refine Below.alloc ?_ (by first | omega | (simp; done) | (simp; omega)) _ | (refine Below.trans ?_ (Below.mono (by assumption) (by first | omega | (simp; done) | (simp; omega))))))
  · have hne : i ≠ -1 := by have := hi.1; omega
    have hn : (i == -1) = false := beq_eq_false_iff_ne.2 hne
    have hT : toldS T i = ((T.nd i).s, true) := by simp [toldS, hne]
    rw [hT] at HK
    clear hT hne
    obtain ⟨c0, c1, c2, c3, c4⟩ := H.c_seg hi
    have hg : h.g < w.heap.size := World.block_lt_of_cell? _ _ c0
    have H' := H.alloc (.cells #[.int .i64 0, .int .i64 0, .int .i64 0, .int .i64 0, .int .i64 0] 36)
    go_enter Try.func68, Try.ntmps68
    go_wp2_with (go_at_call 36; refine at_k H' hi ?_)
    refine bodyPost_ret (v := .tuple #[(T.nd i).s.val, .bool true]) (by simp [results, Try.results68, go_sem]) rfl (HK.out _ ?_)
    (repeat (first | exact Below.refl _ _ | refine Below.setCell ?_ (by first | omega | (simp; done) | (simp; omega)) _ | refine Below.drew ?_ | refine Below.alloc ?_ (by first | omega | (simp; done) | (simp; omega)) _ | (refine Below.trans ?_ (Below.mono (by assumption) (by first | omega | (simp; done) | (simp; omega))))))

/-- The way down to a key: at, parent, side. -/
inductive Find (T : TS) (c : K) : Nat → Int → Int → Bool → Int → Int → Bool → Prop
  | none {p : Int} {s : Bool} : Find T c 0 (-1) p s (-1) p s
  | hit {i p : Int} {s : Bool} (hi : T.ok i) (hc : cmpC c (T.nd i).key = 0) : Find T c 0 i p s i p s
  | less {n : Nat} {i j p : Int} {s : Bool} {ra rp : Int} {rs : Bool} (hi : T.ok i) (hc : cmpC c (T.nd i).key < 0) (hj : (T.nd i).l = j) (rest : Find T c n j i false ra rp rs) : Find T c (n + 1) i p s ra rp rs
  | more {n : Nat} {i j p : Int} {s : Bool} {ra rp : Int} {rs : Bool} (hi : T.ok i) (hc : 0 < cmpC c (T.nd i).key) (hj : (T.nd i).r = j) (rest : Find T c n j i true ra rp rs) : Find T c (n + 1) i p s ra rp rs

set_option maxHeartbeats 2000000 in
set_option maxRecDepth 100000 in
theorem find_k {s a : Int} {n : Nat} {ra rp : Int} {rs : Bool} (H : Tree w b h T) (hr : Find T (s, a) n T.root (-1) false ra rp rs)
    (hk : ∀ w', Below w.heap.size w w' → R (.returned (.tuple #[.int .i64 ra, .int .i64 rp, .int .i64 (sideI rs)])) w') :
    Calls Try.prog 35 #[.pointer (some ⟨h.t, 0, none⟩), .agg #[.int .i64 s, .int .i64 a]] w R := by
  have HK := Lib.hid hk
  clear hk
  have hroot := (H.alloc (.cells #[.int .i64 s, .int .i64 a] 32)).c_root
  have HF := Lib.hid hr
  clear hr
  go_enter Try.func35, Try.ntmps35
  go_wp2_with fail
  go_loopg [7, 8, 9] n (fun k v7 v8 v9 wr => ∃ (i p : Int) (x : Bool), v7 = .int .i64 i ∧ v8 = .int .i64 p ∧ v9 = .int .i64 (sideI x) ∧ Below w.heap.size w wr ∧
    wr.cell? ⟨w.heap.size, 0, none⟩ = some (.int .i64 s) ∧ wr.cell? ⟨w.heap.size, 1, none⟩ = some (.int .i64 a) ∧ w.heap.size < wr.heap.size ∧ Find T (s, a) k i p x ra rp rs)
  case atStart => exact ⟨T.root, -1, false, rfl, rfl, rfl, (Below.refl _ _).alloc (Nat.le_refl _) _, by simp, by simp, by simp, HF.out⟩
  case round =>
    clear HF
    obtain ⟨i, p, x, rfl, rfl, rfl, hB, h0, h1, hlt, hf⟩ := hrel
    have H1 := H.below hB
    cases hf with
    | none =>
      go_wp2
      exact HK.out _ hB
    | hit hi hc =>
      have hni : (ra != -1) = true := by have := hi.1; rw [bne_iff_ne]; omega
      have hcc : (cmpC (s, a) ((T.nd ra).s.ls, (T.nd ra).s.la) == 0) = true := beq_iff_eq.2 hc
      clear hc
      go_wp2_with fail
      refine wp_region_qb (by kernel_rfl) (by kernel_rfl) ?_
      repeat (first | (with_reducible refine wpQuiet_step (fun K hK => ?_); go_simp; first | (with_reducible refine hK _ ?_; clear hK K) | (apply Exists.intro; with_reducible refine ⟨fun W hW => ?_, hK _ ?_⟩; (first | (go_at_call 55; refine key_k (H1.below hW) hi (fun w1 hb => ⟨rfl, ?_⟩); exact bstep hW hb (by simp)) | (go_at_call 48; refine Compare_k _ _ _ _ (fun w1 hb => ⟨rfl, ?_⟩); exact bstep hW hb (by simp)) | ((try obtain ⟨hc, hf⟩ := bcell hW); (try go_simp); first | done | exact ⟨rfl, rfl⟩ | rfl)); clear hK K)) | (with_reducible refine wpQ_skip (by with_unfolding_all rfl) ?_))
      refine wpQuiet_nil ?_
      intro w1 hb
      have H2 := H1.below hb
      have hB2 := hB.trans (hb.mono hB.size)
      go_wp2
      exact HK.out _ hB2
    | @less n _ j _ _ _ _ _ hi hc hj rest =>
      have hcc : (cmpC (s, a) ((T.nd i).s.ls, (T.nd i).s.la) == 0) = false := beq_eq_false_iff_ne.2 (by have := hc; unfold Node.key at this; omega)
      have hcd : decide (0 < cmpC (s, a) ((T.nd i).s.ls, (T.nd i).s.la)) = false := decide_eq_false (by have := hc; unfold Node.key at this; omega)
      clear hc
      have hni : (i != -1) = true := by have := hi.1; rw [bne_iff_ne]; omega
      go_wp2_with fail
      refine wp_region_qb (by kernel_rfl) (by kernel_rfl) ?_
      repeat (first | (with_reducible refine wpQuiet_step (fun K hK => ?_); go_simp; first | (with_reducible refine hK _ ?_; clear hK K) | (apply Exists.intro; with_reducible refine ⟨fun W hW => ?_, hK _ ?_⟩; (first | (go_at_call 55; refine key_k (H1.below hW) hi (fun w1 hb => ⟨rfl, ?_⟩); exact bstep hW hb (by simp)) | (go_at_call 48; refine Compare_k _ _ _ _ (fun w1 hb => ⟨rfl, ?_⟩); exact bstep hW hb (by simp)) | ((try obtain ⟨hc, hf⟩ := bcell hW); (try go_simp); first | done | exact ⟨rfl, rfl⟩ | rfl)); clear hK K)) | (with_reducible refine wpQ_skip (by with_unfolding_all rfl) ?_))
      refine wpQuiet_nil ?_
      intro w1 hb
      have H2 := H1.below hb
      have hB2 := hB.trans (hb.mono hB.size)
      have hx := Tree.c_l H2 hi
      rw [hj] at hx
      have hR := Lib.hid rest
      clear rest hj H1
      go_wp2_with (go_at_call 36; refine at_k (by assumption) (by assumption) ?_)
      have hz' := hB2.size
      go_roundg n
      case measure => omega
      case rel => exact ⟨_, _, false, rfl, rfl, rfl, hB2, by rw [(bcell hb).1 _ _ hlt]; exact h0, by rw [(bcell hb).1 _ _ hlt]; exact h1, by have := hb.size; omega, hR.out⟩
    | @more n _ j _ _ _ _ _ hi hc hj rest =>
      have hcc : (cmpC (s, a) ((T.nd i).s.ls, (T.nd i).s.la) == 0) = false := beq_eq_false_iff_ne.2 (by have := hc; unfold Node.key at this; omega)
      have hcd : decide (0 < cmpC (s, a) ((T.nd i).s.ls, (T.nd i).s.la)) = true := decide_eq_true hc
      clear hc
      have hni : (i != -1) = true := by have := hi.1; rw [bne_iff_ne]; omega
      go_wp2_with fail
      refine wp_region_qb (by kernel_rfl) (by kernel_rfl) ?_
      repeat (first | (with_reducible refine wpQuiet_step (fun K hK => ?_); go_simp; first | (with_reducible refine hK _ ?_; clear hK K) | (apply Exists.intro; with_reducible refine ⟨fun W hW => ?_, hK _ ?_⟩; (first | (go_at_call 55; refine key_k (H1.below hW) hi (fun w1 hb => ⟨rfl, ?_⟩); exact bstep hW hb (by simp)) | (go_at_call 48; refine Compare_k _ _ _ _ (fun w1 hb => ⟨rfl, ?_⟩); exact bstep hW hb (by simp)) | ((try obtain ⟨hc, hf⟩ := bcell hW); (try go_simp); first | done | exact ⟨rfl, rfl⟩ | rfl)); clear hK K)) | (with_reducible refine wpQ_skip (by with_unfolding_all rfl) ?_))
      refine wpQuiet_nil ?_
      intro w1 hb
      have H2 := H1.below hb
      have hB2 := hB.trans (hb.mono hB.size)
      have hx := Tree.c_r H2 hi
      rw [hj] at hx
      have hR := Lib.hid rest
      clear rest hj H1
      go_wp2_with (go_at_call 36; refine at_k (by assumption) (by assumption) ?_)
      have hz' := hB2.size
      go_roundg n
      case measure => omega
      case rel => exact ⟨_, _, true, rfl, rfl, rfl, hB2, by rw [(bcell hb).1 _ _ hlt]; exact h0, by rw [(bcell hb).1 _ _ hlt]; exact h1, by have := hb.size; omega, hR.out⟩
end
end Go.Proofs.Ytkajknicgabdkaa

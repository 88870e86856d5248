/-
  Walk of the tree's Delete.
-/
import Derived.Test.YtkajknicgabdkaaW5
import Derived.Test.YtkajknicgabdkaaW7
import Derived.Test.YtkajknicgabdkaaWc
import Derived.Deep.CutBlock
namespace Go.Proofs.Ytkajknicgabdkaa
open Go.RowKit
section
variable {w : World} {b : Nat} {h : Han} {T : TS} {R : Ending → World → Prop}
inductive DelA (T : TS) (i : Int) : TS → Int → Prop
  | l (hl : (T.nd i).l = -1) : DelA T i T i
  | r (hl : (T.nd i).l ≠ -1) (hr : (T.nd i).r = -1) : DelA T i T i
  | both {n : Nat} {nx : Int} (hl : (T.nd i).l ≠ -1) (hr : (T.nd i).r ≠ -1) (he : End T false n (T.nd i).r nx) (hnx : T.ok nx) : DelA T i (T.setSeg i (T.nd nx).s) nx
def TS.freed (T : TS) (i : Int) : TS := { T with ps := T.ps.set i.toNat Place.zero, free := T.free ++ [i] }
inductive DelF (T : TS) (red : Bool) (kid p : Int) : TS → Prop
  | red (hr : red = true) : DelF T red kid p T
  | kid (hr : red = false) (hk : T.ok kid) (hkr : T.isRed kid = true) : DelF T red kid p (T.setRed kid false)
  | sink {m : Nat} {T' : TS} (hr : red = false) (hk : kid = -1 ∨ T.ok kid) (hkr : T.isRed kid = false) (hs : Sink m T kid p T') : DelF T red kid p T'

theorem Delete_none {c : K} {n : Nat} {p : Int} {d : Bool} (H : Tree w b h T) (hf : Find T (canon c) n T.root (-1) false (-1) p d)
    (hk : ∀ w', Below w.heap.size w w' → R (.returned (.bool false)) w') :
    Calls Try.prog 13 #[.pointer (some ⟨h.t, 0, none⟩), .agg #[.int .i64 c.1, .int .i64 c.2]] w R := by
  have HK := Lib.hid hk
  clear hk
  have bx : (w.alloc (.cells #[.int .i64 c.1, .int .i64 c.2] 32)).heap[w.heap.size]? = _ := heap_alloc_new _ _
  have hB0 : Below w.heap.size w (w.alloc (.cells #[.int .i64 c.1, .int .i64 c.2] 32)) := (Below.refl _ _).alloc (Nat.le_refl _) _
  have HFi := Lib.hid hf
  clear hf
  go_enter Try.func13, Try.ntmps13
  go_upto_region 2 with (first | (go_at_call 39; refine Canon_k _ _ (fun w1 hb1 => ?_); have HB1 := Lib.hid (bstep hB0 hb1 rfl); clear hb1) | (go_at_call 35; refine find_k (H.below HB1.out) HFi.out (fun w2 hb2 => ?_); have HB2 := Lib.hid (bstep HB1.out hb2 rfl); clear hb2))
  have H2 := H.below HB2.out
  clear HFi bx hB0 HB1
  go_wp2
  exact HK.out _ HB2.out
theorem sink_k {i p : Int} {n t : Nat} {T' : TS} (H : Tree w b h T) (ht : h.t = t) (hr : Sink n T i p T') (hk : ∀ w', Tree w' b h T' → Fr h.inn w w' → R (.returned (.tuple #[])) w') :
    Calls Try.prog 44 #[.pointer (some ⟨t, 0, none⟩), .int .i64 i, .int .i64 p] w R := by
  subst ht
  exact (sink_calls H hr).mono fun _ w' ⟨h1, h2, h3⟩ => by subst h1; exact hk w' h2 h3
set_option maxHeartbeats 4000000 in
set_option maxRecDepth 100000 in
theorem Delete_k {c : K} {n : Nat} {p i j kid : Int} {d : Bool} {T1 T2 T' : TS} (H : Tree w b h T) (hf : Find T (canon c) n T.root (-1) false i p d) (hi : T.ok i) (hA : DelA T i T1 j) (hj : T1.ok j)
    (hkid : kid = if (T1.nd j).l = -1 then (T1.nd j).r else (T1.nd j).l) (hk1 : kid = -1 ∨ T1.ok kid) (hp1 : (T1.nd j).p = -1 ∨ T1.ok (T1.nd j).p)
    (h2 : T2 = hangT T1 kid (T1.nd j).p j) (hj2 : T2.ok j) (hfl : T2.free.length + 1 ≤ T2.ps.length) (hF : DelF (T2.freed j) (T1.nd j).red kid (T1.nd j).p T')
    (hk : ∀ w' h', Tree w' b h' T' → Out h h' w w' → R (.returned (.bool true)) w') :
    Calls Try.prog 13 #[.pointer (some ⟨h.t, 0, none⟩), .agg #[.int .i64 c.1, .int .i64 c.2]] w R := by
  have hne : (i == -1) = false := by have := hi.1; rw [beq_eq_false_iff_ne]; omega
  have HK := Lib.hid hk
  clear hk
  have bx : (w.alloc (.cells #[.int .i64 c.1, .int .i64 c.2] 32)).heap[w.heap.size]? = _ := heap_alloc_new _ _
  have hB0 : Below w.heap.size w (w.alloc (.cells #[.int .i64 c.1, .int .i64 c.2] 32)) := (Below.refl _ _).alloc (Nat.le_refl _) _
  have HFi := Lib.hid hf
  clear hf
  go_enter Try.func13, Try.ntmps13
  go_upto_region 2 with (first | (go_at_call 39; refine Canon_k _ _ (fun w1 hb1 => ?_); have HB1 := Lib.hid (bstep hB0 hb1 rfl); clear hb1) | (go_at_call 35; refine find_k (H.below HB1.out) HFi.out (fun w2 hb2 => ?_); have HB2 := Lib.hid (bstep HB1.out hb2 rfl); clear hb2))
  have H2 := H.below HB2.out
  clear HFi bx hB0 HB1
  have yl := H2.c_l hi
  have yr := H2.c_r hi
  obtain ⟨bo, hbo⟩ : ∃ bo, bo = ((T.nd i).l != -1 && (T.nd i).r != -1) := ⟨_, rfl⟩
  have HBO := Lib.hid hbo
  clear hbo
  go_upto_region 4 with fail
  go_cut [38] (fun v wx => v = .bool bo ∧ wx = w2)
  case first =>
    by_cases hl : (T.nd i).l = -1
    · have hl' : ((T.nd i).l != -1) = false := by simp [hl]
      have HL := Lib.hid hl'
      clear hl hl'
      have hl' := HL.out
      go_wp2_with (go_at_call 36; refine at_k H2 hi ?_)
      go_meet
      exact ⟨by rw [HBO.out, hl']; rfl, rfl⟩
    · have hl' : ((T.nd i).l != -1) = true := by simp [hl]
      clear hl
      go_wp2_with (go_at_call 36; refine at_k H2 hi ?_)
      go_meet
      exact ⟨by rw [HBO.out, hl']; rfl, rfl⟩
  case rest =>
  obtain ⟨rfl, he⟩ := hcut
  subst wc
  go_upto_if 38 with fail
  go_cut [5, 8] (fun v5 v8 wx => v5 = .int .i64 j ∧ Tree wx b h T1 ∧ Out h h w2 wx)
  case first =>
    clear hj hkid hk1 hp1 h2 hj2 hfl hF
    cases hA with
    | l hl =>
      have hb : bo = false := by rw [HBO.out, hl]; rfl
      clear HBO
      subst hb
      clear hl
      go_wp2_with fail
      go_meet
      exact ⟨rfl, H2, Out.refl _ _⟩
    | r hl hr =>
      have hb : bo = false := by rw [HBO.out, hr]; simp
      clear HBO
      subst hb
      clear hr hl
      go_wp2_with fail
      go_meet
      exact ⟨rfl, H2, Out.refl _ _⟩
    | @both m nx hl hr he hnx =>
      have hb : bo = true := by
        rw [HBO.out, Bool.and_eq_true, bne_iff_ne, bne_iff_ne]; exact ⟨hl, hr⟩
      clear HBO
      subst hb
      clear hr hl
      obtain ⟨y0, y1, y2, y3, y4⟩ := H2.c_seg hnx
      obtain ⟨x0, x1, x2, x3, x4⟩ := H2.c_seg hi
      have zf := H2.f_g hi
      obtain ⟨H3, F3⟩ := H2.st_seg hi (T.nd j).s
      have HE := Lib.hid he
      have H3' := Lib.hid H3
      have F3' := Lib.hid F3
      clear H3 F3 he
      go_wp2_with (first | (go_at_call 36; refine at_k H2 hi ?_) | (go_at_call 36; refine at_k H2 hnx ?_) | (go_at_call 40; refine end0_k H2 HE.out ?_))
      go_meet
      exact ⟨rfl, H3'.out, Out.inn F3'.out⟩
  case rest =>
  obtain ⟨rfl, H3, O3⟩ := hcut
  have HO3 := Lib.hid ((Out.below HB2.out).trans O3)
  clear O3 H2 HB2 yl yr hA hne hi
  obtain ⟨y0, y1, y2, y3, y4⟩ := H3.c_seg hj
  have y5 := H3.c_l hj
  have y6 := H3.c_r hj
  have y7 := H3.c_p hj
  have y8 := H3.c_red hj
  obtain ⟨w3, hw3⟩ : ∃ w3, w3 = wc := ⟨_, rfl⟩
  subst hw3
  go_upto_if 69 with (go_at_call 36; refine at_k H3 hj ?_)
  clear y0 y1 y2 y3 y4 y5 y6 y7 y8
  go_cut [10] (fun v wx => v = .int .i64 kid ∧ wx = w3.alloc (.cells #[.int .i64 (T1.nd j).s.ls, .int .i64 (T1.nd j).s.la, .int .i64 (T1.nd j).s.hs, .int .i64 (T1.nd j).s.ha, .int .i64 (T1.nd j).s.v, .int .i64 (T1.nd j).l, .int .i64 (T1.nd j).r, .int .i64 (T1.nd j).p, .bool (T1.nd j).red] 65))
  case first =>
    by_cases hl : (T1.nd j).l = -1
    · rw [if_pos hl] at hkid
      have hl' : ((T1.nd j).l == -1) = true := by rw [hl]; rfl
      clear hl
      go_wp2_with fail
      go_meet
      exact ⟨by rw [hkid], rfl⟩
    · rw [if_neg hl] at hkid
      have hl' : ((T1.nd j).l == -1) = false := by rw [beq_eq_false_iff_ne]; exact hl
      clear hl
      go_wp2_with fail
      go_meet
      exact ⟨by rw [hkid], rfl⟩
  case rest =>
  obtain ⟨rfl, he⟩ := hcut
  obtain ⟨w4, hw4⟩ : ∃ w4, w4 = wc := ⟨_, rfl⟩
  subst hw4
  have H4 : Tree w4 b h T1 := by rw [he]; exact H3.alloc _
  have hin : ∀ k, h.inn k → k ≠ w3.heap.size := fun k hk e => by
    have := (H3.lt (k := k) (hk.elim (fun e => .inl e) (fun e => .inr (.inr (.inl e))))).2
    omega
  have hown : ∀ k, h.own k → k ≠ w3.heap.size := fun k hk e => by
    have := (H3.lt (k := k) hk).2
    omega
  have b4 : w4.heap[w3.heap.size]? = some (.cells #[.int .i64 (T1.nd j).s.ls, .int .i64 (T1.nd j).s.la, .int .i64 (T1.nd j).s.hs, .int .i64 (T1.nd j).s.ha, .int .i64 (T1.nd j).s.v, .int .i64 (T1.nd j).l, .int .i64 (T1.nd j).r, .int .i64 (T1.nd j).p, .bool (T1.nd j).red] 65 (0, 0)) := by rw [he]; exact heap_alloc_new _ _
  have HO4 : Hid (Out h h w w4) := Lib.hid (HO3.out.trans (Out.below (by rw [he]; exact (Below.refl _ _).alloc (Nat.le_refl _) _)))
  clear HO3 H3 hkid he
  have x7 : w4.cell? ⟨w3.heap.size, 7, none⟩ = some (.int .i64 (T1.nd j).p) := by simp [World.cell?, b4]
  subst h2
  go_upto_region 13 with (go_at_call 41; refine hang_k H4 hk1 hp1 (fun w5 H5 F5 => ?_))
  have b5 := (F5.block _ (lt_of_heap b4) (fun e => hin _ e rfl)).trans b4
  have HO5 : Hid (Out h h w w5) := Lib.hid (HO4.out.trans (Out.inn F5))
  clear HO4 F5 b4 x7 H4
  have ca := H5.c_arena
  go_upto_block 0 with (go_at_call 42; refine AFree_k H5 hj2 hfl (fun w6 h6 H6 O6 => ?_))
  have b6 := (O6.fr.block _ (lt_of_heap b5) (fun e => hown _ e rfl)).trans b5
  have et := O6.t
  have HO6 := Lib.hid (HO5.out.trans O6)
  clear HO5 O6 b5 ca H5 hin hown hk1 hp1 hj2 hfl
  have x7 : w6.cell? ⟨w3.heap.size, 7, none⟩ = some (.int .i64 (T1.nd j).p) := by simp [World.cell?, b6]
  have x8 : w6.cell? ⟨w3.heap.size, 8, none⟩ = some (.bool (T1.nd j).red) := by simp [World.cell?, b6]
  change Tree w6 b h6 (TS.freed _ j) at H6
  cases hF with
  | red hr =>
    have hr := Lib.hid hr
    rw [hr.out] at x8
    go_wp2_with fail
    exact HK.out _ _ H6 HO6.out
  | kid hr hk hkr =>
    rw [hr] at x8
    clear hr
    have z := H6.f_g hk
    have cr := H6.c_red hk
    have H7 := H6.st_red hk false
    have F7 := H6.st_fr hk (kid.toNat * 10 + 8) (.bool false)
    have hkr := Lib.hid hkr
    go_wp2_with (first | (go_at_call 36; rw [← et]; refine at_k H6 hk ?_) | (go_at_call 43; rw [← et]; refine red_k H6 (.inr hk) hkr ?_))
    exact HK.out _ _ H7 (HO6.out.trans (Out.inn F7))
  | sink hr hk hkr hs =>
    rw [hr] at x8
    clear hr
    have hkr := Lib.hid hkr
    have HS := Lib.hid hs
    clear hs
    go_wp2_with (first | (go_at_call 43; rw [← et]; refine red_k H6 hk hkr ?_) | (go_at_call 44; refine sink_k H6 et HS.out (fun w7 H7 F7 => ?_)))
    exact HK.out _ _ H7 (HO6.out.trans (Out.inn F7))
end
end Go.Proofs.Ytkajknicgabdkaa

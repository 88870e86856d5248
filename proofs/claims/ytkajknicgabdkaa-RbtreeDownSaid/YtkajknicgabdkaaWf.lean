/-
  The arena's Each.
-/
import Derived.Test.YtkajknicgabdkaaWe
namespace Go.Proofs.Ytkajknicgabdkaa
open Go.RowKit Go.Shelf
attribute [local go_sem] Oper.semAt_some
section
variable {w : World} {b : Nat} {h : Han} {T : TS} {R : Ending → World → Prop}
inductive EachL (T : TS) : Nat → List { i : Int // T.ok i } → Prop
  | stop {k : Nat} (hk : k = T.ps.length) : EachL T k []
  | skip {k : Nat} {L : List { i : Int // T.ok i }} (hk : k < T.ps.length) (hu : (T.pl (k : Int)).used = false) (rest : EachL T (k + 1) L) : EachL T k L
  | use {k : Nat} {L : List { i : Int // T.ok i }} (hk : T.ok (k : Int)) (rest : EachL T (k + 1) L) : EachL T k (⟨(k : Int), hk⟩ :: L)
theorem EachL.le {k : Nat} {L : List { i : Int // T.ok i }} (e : EachL T k L) : k ≤ T.ps.length := by
  cases e with
  | stop hk => omega
  | skip hk _ _ => omega
  | use hk _ => have := hk.2.1; omega
abbrev encE (T : TS) (x : { i : Int // T.ok i }) : Array Value := #[.int .i64 x.1, (T.pl x.1).n.val]
def ES (h : Han) (m1 : Nat) (k : Nat) : Prop := h.own k ∨ k = m1

set_option maxHeartbeats 2000000 in
set_option maxRecDepth 100000 in
theorem each1_in (n : Nat) (hn : 1 ≤ n) (l m1 : Nat) {xs : List { i : Int // T.ok i }} (J Jx : List { i : Int // T.ok i } → World → Prop)
    (hJ : AbidesFrom w.heap.size J)
    (hY : ∀ pre x W, J pre W → pre.length < xs.length → YieldAt Fence.wide (n - 1) Try.prog l (encE T x) W fun e W' =>
      (e = .returned (.bool true) ∧ J (pre ++ [x]) W' ∧ Kq (ES h m1) W W') ∨ (e = .returned (.bool false) ∧ Jx (pre ++ [x]) W'))
    (H : Tree w b h T) (hB : w.cell? ⟨m1, 0, none⟩ = some (.pointer (some ⟨h.a, 0, none⟩))) (hL : EachL T 0 xs) (h0 : J [] w) :
    CallsIn Fence.wide n Try.prog 60 #[.func (.yield l) #[] #[], .pointer (some ⟨m1, 0, none⟩)] w fun e W' => (∃ v, e = .returned v) ∧
      ((∃ ys, ys = xs ∧ J ys W') ∨ (∃ pre, pre <+: xs ∧ Jx pre W')) := by
  refine callsIn_of_wp Try.func60 rfl trivial ?_ rfl
  simp only [Try.ntmps60, List.size_toArray, List.length_cons, List.length_nil, Nat.reduceAdd, Nat.reduceSub, Array.replicate_succ, Array.replicate_zero, List.push_toArray, List.append_toArray, List.nil_append, List.cons_append]
  have c1 := H.c_lv
  obtain ⟨A, cl, hl, -⟩ := owns_slice H.hl
  rw [hl] at c1
  have HL := Lib.hid hl
  clear hl
  gi_wp2_with fail
  gi_loopg [10] T.ps.length (fun q p wr => ∃ (k : Nat) (pre rest : List { i : Int // T.ok i }), p = .int .i64 k ∧ q = T.ps.length - k ∧ xs = pre ++ rest ∧ Tree wr b h T ∧ wr.cell? ⟨m1, 0, none⟩ = some (.pointer (some ⟨h.a, 0, none⟩)) ∧ EachL T k rest ∧ J pre wr)
  case atStart => exact ⟨0, [], xs, rfl, by simp, rfl, H, hB, hL, h0⟩
  case round =>
    obtain ⟨k, pre, rest, rfl, hq, hx, H2, B2, hW, hJ2⟩ := hrel
    clear H hB hL h0
    have hps := H2.ln
    have hkl := hW.le
    by_cases hk : k < T.ps.length
    · obtain ⟨g, cl', hg1, hg2, -, -⟩ := owns_form H2.hl (by omega)
      have hlt : decide ((k : Int) < (T.ps.length : Int)) = true := decide_eq_true (by omega)
      obtain ⟨y0, y1, y2, y3, y4, y5, y6, y7, y8, y9⟩ := H2.c_all (i := (k : Int)) (by omega) (by omega) (g := g) (by simp [Han.g, hg1])
      have hA : A = some ⟨g, 0, none⟩ := by have := HL.out.symm.trans hg2; simpa using (Value.slice.inj this).1
      clear hg1 hg2
      subst hA
      simp only [Int.toNat_natCast] at y0 y1 y2 y3 y4 y5 y6 y7 y8 y9
      have HX := Lib.hid hx
      clear hx
      have hkp : ((k : Int) + 1).toNat = k + 1 := by omega
      cases hW with
      | stop hk => omega
      | @skip _ L hk2 hu hr =>
        rw [hu] at y9
        clear hu
        gi_wp2_with fail
        refine ⟨fun _ h => (by cases h), ?_⟩
        gi_wp2
        gi_roundg (T.ps.length - (k + 1))
        case measure => omega
        case rel => exact ⟨k + 1, pre, rest, by go_num, rfl, HX.out, H2.alloc _, by rw [(bcell ((Below.refl _ _).alloc (Nat.le_refl _) _)).1 m1 0 (World.block_lt_of_cell? _ _ B2)]; exact B2, hr, abides_below hJ hJ2 ((Below.refl _ _).alloc (Nat.le_refl _) _)⟩
      | @use _ L hki hr =>
        rw [hki.2.2] at y9
        obtain ⟨W1, hW1⟩ : ∃ W1, W1 = wr.alloc (.cells #[.int .i64 (T.pl k).n.s.ls, .int .i64 (T.pl k).n.s.la, .int .i64 (T.pl k).n.s.hs, .int .i64 (T.pl k).n.s.ha, .int .i64 (T.pl k).n.s.v, .int .i64 (T.pl k).n.l, .int .i64 (T.pl k).n.r, .int .i64 (T.pl k).n.p, .bool (T.pl k).n.red, .bool true] 100) := ⟨_, rfl⟩
        have hBW : Below wr.heap.size wr W1 := by rw [hW1]; exact (Below.refl _ _).alloc (Nat.le_refl _) _
        obtain ⟨fn, tmps, assign, body, hy, hR⟩ := hY pre ⟨(k : Int), hki⟩ W1 (abides_below hJ hJ2 hBW) (by rw [HX.out]; simp)
        have hRR := Lib.hid hR
        have H3 := Lib.hid (H2.below hBW)
        have B3 := Lib.hid ((bcell hBW).1 m1 0 (World.block_lt_of_cell? _ _ B2) |>.trans B2)
        have hWW := Lib.hid hW1
        clear hR hBW hJ2 H2 B2
        rw [hW1] at hy
        gi_wp2_with fail
        rw [← hW1]
        refine hRR.out.mono ?_
        clear hRR hy y0 y1 y2 y3 y4 y5 y6 y7 y8 y9
        rintro e W3 (⟨rfl, hJ3, hk3⟩ | ⟨rfl, hJx3⟩)
        · have H4 := hk3.tree H3.out (fun k hk => .inl hk)
          have B4 := hk3.cell (.inr rfl) B3.out
          clear hk3
          gi_wp2_with fail
          gi_roundg (T.ps.length - (k + 1))
          case measure => omega
          case rel => exact ⟨k + 1, pre ++ [⟨(k : Int), hki⟩], L, by go_num, rfl, by rw [HX.out]; simp, H4, B4, hr, hJ3⟩
        · gi_wp2
          refine bodyPost_ret (results_none rfl _ _ _) rfl ?_
          exact ⟨⟨_, rfl⟩, .inr ⟨pre ++ [⟨(k : Int), hki⟩], ⟨L, by rw [HX.out]; simp⟩, hJx3⟩⟩
    · have hk' : ¬ ((k : Int) < (T.ps.length : Int)) := by omega
      cases hW with
      | stop hk =>
        have HX := Lib.hid hx
        clear hx
        gi_wp2
        go_end0
        rw [show xs = pre by simpa using HX.out]
        exact ⟨⟨_, rfl⟩, .inl hJ2⟩
      | skip hk _ _ => omega
      | use hk _ => have := hk.2.1; omega

theorem each_stops (n : Nat) (hn : 1 ≤ n) {m1 : Nat} {xs : List { i : Int // T.ok i }} (H : Tree w b h T) (hB : w.cell? ⟨m1, 0, none⟩ = some (.pointer (some ⟨h.a, 0, none⟩))) (hL : EachL T 0 xs) :
    SeqStopsK Fence.wide n Try.prog 60 #[.pointer (some ⟨m1, 0, none⟩)] (encE T) (Kq (ES h m1)) (· = xs) (· <+: xs) xs.length w :=
  fun l J Jx W hW hJ _ hY h0 => each1_in (w := W) n hn l m1 J Jx hJ hY (H.below hW) (by rw [(bcell hW).1 m1 0 (World.block_lt_of_cell? _ _ hB)]; exact hB) hL h0
theorem Each_k (h : Han) (hk : ∀ m1 w', Below w.heap.size w w' → w'.cell? ⟨m1, 0, none⟩ = some (.pointer (some ⟨h.a, 0, none⟩)) → w.heap.size ≤ m1 → m1 < w'.heap.size → R (.returned (.func (.func 60) #[] #[.pointer (some ⟨m1, 0, none⟩)])) w') :
    Calls Try.prog 45 #[.pointer (some ⟨h.a, 0, none⟩)] w R := by
  have HK := Lib.hid hk
  clear hk
  go_enter Try.func45, Try.ntmps45
  go_wp2
  refine HK.out _ _ ((Below.refl _ _).alloc (Nat.le_refl _) _) (by simp) (Nat.le_refl _) (by simp)
end
end Go.Proofs.Ytkajknicgabdkaa

/-
  The law's alive: a tree of three.
-/
import Derived.Test.YtkajknicgabdkaaVh
namespace Go.Proofs.Ytkajknicgabdkaa
open Go.RowKit
attribute [local go_sem high] eqCut eqSpan eqSeg
section
variable {w w0 : World} {tt : Nat} {L L' : List Seg} {R : Ending → World → Prop}
def sg (n : Int) : Seg := ⟨0, n, 0, 0, n⟩
def LA (w0 : World) (tt : Nat) (w : World) (L : List Seg) : Prop := ∃ T t, LI w0 tt w T t (.slice none 0 0) [] ∧ T.room = 5 ∧ t.inord = L
theorem LA.below {w' : World} (X : LA w0 tt w L) (hb : Below w.heap.size w w') : LA w0 tt w' L := by
  obtain ⟨T, t, h1, h2⟩ := X
  exact ⟨T, t, h1.below hb, h2⟩
theorem LA.bel (X : LA w0 tt w L) : Below w0.heap.size w0 w := by
  obtain ⟨T, t, h1, h2⟩ := X
  exact h1.bel
theorem ANew (hk : ∀ w' tt, LA w tt w' [] → R (.returned (.tuple #[.pointer (some ⟨tt, 0, none⟩), .int .i64 0])) w') : Calls Try.prog 7 #[.int .i64 5] w R :=
  LNew (w0 := w) 5 (Below.refl _ _) (by decide) (by decide) (fun w' tt X => hk w' tt ⟨_, _, X, rfl, rfl⟩)
theorem APut (n : Int) {e : Int} (X : LA w0 tt w L) (hp : putR 5 (sg n) L = (L', e)) (hk : ∀ w', LA w0 tt w' L' → R (.returned (.int .i64 e)) w') :
    Calls Try.prog 11 #[.pointer (some ⟨tt, 0, none⟩), .agg #[.int .i64 0, .int .i64 n, .int .i64 0, .int .i64 0, .int .i64 n]] w R := by
  obtain ⟨T, t, h1, h2, rfl⟩ := X
  refine LPut (s := sg n) h1 (fun w' T' t' X' e1 e2 => ?_)
  rw [h2, hp] at *
  exact hk w' ⟨T', t', X', e2, e1⟩
theorem ADelete (n : Int) {x : Bool} (X : LA w0 tt w L) (hp : delR (0, n) L = (L', x)) (hk : ∀ w', LA w0 tt w' L' → R (.returned (.bool x)) w') :
    Calls Try.prog 13 #[.pointer (some ⟨tt, 0, none⟩), .agg #[.int .i64 0, .int .i64 n]] w R := by
  obtain ⟨T, t, h1, h2, rfl⟩ := X
  refine LDelete (c := (0, n)) h1 (fun w' T' t' X' e1 e2 => ?_)
  rw [hp] at *
  exact hk w' ⟨T', t', X', e2.trans h2, e1⟩
theorem AFloor (n m : Int) (X : LA w0 tt w L) (hx : (L.filter (fitsS (0, n) true)).getLast? = some (sg m)) (hk : ∀ w', LA w0 tt w' L → Below w.heap.size w w' → R (.returned (.tuple #[.agg #[.int .i64 0, .int .i64 m, .int .i64 0, .int .i64 0, .int .i64 m], .bool true])) w') :
    Calls Try.prog 27 #[.pointer (some ⟨tt, 0, none⟩), .agg #[.int .i64 0, .int .i64 n]] w R := by
  have Y := X
  obtain ⟨T, t, h1, h2, rfl⟩ := X
  exact LFloor (c := (0, n)) h1 hx (fun w' hb => hk w' (Y.below hb) hb)
theorem ALower (n m : Int) (X : LA w0 tt w L) (hx : (L.filter (fitsS (0, n) false)).getLast? = some (sg m)) (hk : ∀ w', LA w0 tt w' L → Below w.heap.size w w' → R (.returned (.tuple #[.agg #[.int .i64 0, .int .i64 m, .int .i64 0, .int .i64 0, .int .i64 m], .bool true])) w') :
    Calls Try.prog 28 #[.pointer (some ⟨tt, 0, none⟩), .agg #[.int .i64 0, .int .i64 n]] w R := by
  have Y := X
  obtain ⟨T, t, h1, h2, rfl⟩ := X
  exact LLower (c := (0, n)) h1 hx (fun w' hb => hk w' (Y.below hb) hb)
theorem AHeight (X : LA w0 tt w L) (hl : L.length = 3) (hk : ∀ w', LA w0 tt w' L → R (.returned (.int .i64 2)) w') : Calls Try.prog 18 #[.pointer (some ⟨tt, 0, none⟩)] w R := by
  have Y := X
  obtain ⟨T, t, h1, h2, rfl⟩ := X
  obtain ⟨m, hm⟩ := h1.inv.bal
  exact LHeight h1 (fun w' hb => by rw [ht_three hm h1.inv.blk hl]; exact hk w' (Y.below hb))
theorem ACheck (X : LA w0 tt w L) (hk : ∀ w', LA w0 tt w' L → R (.returned (.bool true)) w') : Calls Try.prog 14 #[.pointer (some ⟨tt, 0, none⟩)] w R := by
  have Y := X
  obtain ⟨T, t, h1, h2, rfl⟩ := X
  exact LCheck h1 (fun w' hb => hk w' (Y.below hb))
theorem ALen (X : LA w0 tt w L) {n : Int} (hl : (L.length : Int) = n) (hk : ∀ w', LA w0 tt w' L → R (.returned (.int .i64 n)) w') : Calls Try.prog 20 #[.pointer (some ⟨tt, 0, none⟩)] w R := by
  have Y := X
  obtain ⟨T, t, h1, h2, rfl⟩ := X
  exact LLen h1 (fun w' hb => by rw [hl]; exact hk w' (Y.below hb))
theorem put3 : putR 5 (sg 3) [] = ([sg 3], 0) := by decide +kernel
theorem put1 : putR 5 (sg 1) [sg 3] = ([sg 1, sg 3], 0) := by decide +kernel
theorem put2 : putR 5 (sg 2) [sg 1, sg 3] = ([sg 1, sg 2, sg 3], 0) := by decide +kernel
theorem del2 : delR (0, 2) [sg 1, sg 2, sg 3] = ([sg 1, sg 3], true) := by decide +kernel
theorem del2' : delR (0, 2) [sg 1, sg 3] = ([sg 1, sg 3], false) := by decide +kernel
theorem floor5 : ([sg 1, sg 2, sg 3].filter (fitsS (0, 5) true)).getLast? = some (sg 3) := by decide +kernel
theorem lower2 : ([sg 1, sg 2, sg 3].filter (fitsS (0, 2) false)).getLast? = some (sg 1) := by decide +kernel
set_option maxHeartbeats 4000000 in
set_option maxRecDepth 100000 in
theorem alive_k (hk : ∀ w', Below w.heap.size w w' → R (.returned (.bool true)) w') : Calls Try.prog 8 #[] w R := by
  have HK := Lib.hid hk
  clear hk
  go_enter Try.func8, Try.ntmps8
  go_upto_region 4 with (go_at_call 7; refine ANew (fun w1 tt X1 => ?_); have HX := Lib.hid X1; clear X1)
  go_upto_region 5 with (first
    | (go_at_call 10; refine seg_k _ (fun w2 hb2 => ?_); replace HX := Lib.hid (HX.out.below hb2); clear hb2)
    | (go_at_call 11; (with_reducible refine APut 3 HX.out put3 (fun w2 X2 => ?_)); replace HX := Lib.hid X2; clear X2)
    | (go_at_call 11; (with_reducible refine APut 1 HX.out put1 (fun w2 X2 => ?_)); replace HX := Lib.hid X2; clear X2)
    | (go_at_call 11; (with_reducible refine APut 2 HX.out put2 (fun w2 X2 => ?_)); replace HX := Lib.hid X2; clear X2))
  go_upto_region 6 with (go_at_call 27; (with_reducible refine AFloor 5 3 HX.out floor5 (fun w2 X2 hb2 => ?_)); replace HX := Lib.hid X2; clear X2 hb2)
  refine wp_world (fun W => LA w tt W [sg 1, sg 2, sg 3] ∧ W.cell? ⟨w2.heap.size, 4, none⟩ = some (.int .i64 3)) ⟨HX.out.below ?_, ?_⟩ ?_
  · (repeat (first | exact Below.refl _ _ | refine Below.setCell ?_ (by first | omega | (simp; done) | (simp; omega)) _ | refine Below.drew ?_ | refine Below.alloc ?_ (by first | omega | (simp; done) | (simp; omega)) _ | (refine Below.trans ?_ (Below.mono (by assumption) (by first | omega | (simp; done) | (simp; omega))))))
  · go_simp
  clear HX
  rintro w3 ⟨X3, c3⟩
  have HX := Lib.hid X3
  have hb3 := World.block_lt_of_cell? _ _ c3
  clear X3
  go_upto_region 7 with (go_at_call 28; (with_reducible refine ALower 2 1 HX.out lower2 (fun w4 X4 hb4 => ?_)); replace HX := Lib.hid X4; replace c3 := ((bcell hb4).1 _ _ hb3).trans c3; replace hb3 := Nat.lt_of_lt_of_le hb3 hb4.size; clear X4 hb4)
  refine wp_world (fun W => LA w tt W [sg 1, sg 2, sg 3] ∧ W.cell? ⟨w2.heap.size, 4, none⟩ = some (.int .i64 3) ∧ W.cell? ⟨w4.heap.size, 4, none⟩ = some (.int .i64 1)) ⟨HX.out.below ?_, ?_, ?_⟩ ?_
  · (repeat (first | exact Below.refl _ _ | refine Below.setCell ?_ (by first | omega | (simp; done) | (simp; omega)) _ | refine Below.drew ?_ | refine Below.alloc ?_ (by first | omega | (simp; done) | (simp; omega)) _ | (refine Below.trans ?_ (Below.mono (by assumption) (by first | omega | (simp; done) | (simp; omega))))))
  · go_simp
  · go_simp
  clear HX c3 hb3
  rintro w5 ⟨X5, c5, c6⟩
  have HX := Lib.hid X5
  clear X5
  go_wp2_with (first
    | (go_at_call 18; (with_reducible refine AHeight HX.out rfl (fun w6 X6 => ?_)); replace HX := Lib.hid X6; clear X6)
    | (go_at_call 14; (with_reducible refine ACheck HX.out (fun w6 X6 => ?_)); replace HX := Lib.hid X6; clear X6)
    | (go_at_call 13; (with_reducible refine ADelete 2 HX.out del2 (fun w6 X6 => ?_)); replace HX := Lib.hid X6; clear X6)
    | (go_at_call 13; (with_reducible refine ADelete 2 HX.out del2' (fun w6 X6 => ?_)); replace HX := Lib.hid X6; clear X6)
    | (go_at_call 20; refine ALen (n := 2) HX.out rfl (fun w6 X6 => ?_); replace HX := Lib.hid X6; clear X6))
  exact HK.out _ HX.out.bel
end
end Go.Proofs.Ytkajknicgabdkaa

/-
  The document's Put whole, Delete, Do.
-/
import Derived.Test.YtkajknicgabdkaaVf
import Derived.Test.YtkajknicgabdkaaPJ
namespace Go.Proofs.Ytkajknicgabdkaa
open Go.RowKit
attribute [local go_sem high] eqCut eqSpan eqSeg
section
variable {w : World} {b : Nat} {R : Ending → World → Prop}
theorem findR_cases (c : K) : ∀ (L : List Seg) (i : Nat), findR c L i = -1 ∨ ∃ j, j < L.length ∧ findR c L i = ((i + j : Nat) : Int)
  | [], _ => .inl rfl
  | s :: L, i => by
    rw [findR_cons]
    split
    · exact .inr ⟨0, by simp, by simp⟩
    · rcases findR_cases c L (i + 1) with h | ⟨j, h1, h2⟩
      · exact .inl (by simpa using h)
      · exact .inr ⟨j + 1, by simp; omega, by have : ((i : Int) + 1) = ((i + 1 : Nat) : Int) := by omega
                                              rw [this, h2]; omega⟩
theorem findR_case (c : K) (L : List Seg) : findR c L 0 = -1 ∨ ∃ j : Nat, j < L.length ∧ findR c L 0 = (j : Int) := by
  rcases findR_cases c L 0 with h | ⟨j, h1, h2⟩
  · exact .inl h
  · exact .inr ⟨j, h1, by simpa using h2⟩
/-- What a call of the document's own makes of a row. -/
def News (v v' : Value) (w : World) : Prop := ∀ k, v'.ownBlock = some k → v.ownBlock = some k ∨ w.heap.size ≤ k
theorem RPut_k {v : Value} {L : List Seg} {room : Int} {s : Seg} (hb : b ≤ w.heap.size) (hr : SRow w b v L) (hn : L.length ≤ 65536)
    (hk : ∀ w' v', SRow w' b v' (putR room s L).1 → News v v' w → Below w.heap.size w w' → R (.returned (.tuple #[v', .int .i64 (putR room s L).2])) w') :
    Calls Try.prog 9 #[v, .int .i64 room, .agg #[.int .i64 s.ls, .int .i64 s.la, .int .i64 s.hs, .int .i64 s.ha, .int .i64 s.v]] w R := by
  unfold putR at hk
  cases hg : goodR (s.ls, s.la) with
  | false =>
    rw [hg, if_pos rfl] at hk
    exact RPut_bad hg (fun w' hB => hk w' v (hr.below hB) (fun k hk => .inl hk) hB)
  | true =>
    rw [hg, if_neg (show ¬ true = false by simp)] at hk
    rcases findR_case (s.ls, s.la) L with h | ⟨j, h1, h2⟩
    · rw [h, if_neg (by omega)] at hk
      by_cases hroom : room ≤ (L.length : Int)
      · rw [if_pos hroom] at hk
        exact RPut_full hr hn hg h hroom (fun w' hB => hk w' v (hr.below hB) (fun k hk => .inl hk) hB)
      · rw [if_neg hroom] at hk
        exact RPut_new hr hn hg h hroom (fun w' v' h1 h2 => hk w' v' (ownsRow_base h1 hb) (fun k hk => .inr (h1.lt hk).1) h2)
    · rw [h2, if_pos (by omega), Int.toNat_natCast] at hk
      exact RPut_set hr hn hg h2 h1 (fun w' v' h1 h2 => hk w' v' (ownsRow_base h1 hb) (fun k hk => .inr (h1.lt hk).1) h2)

theorem RDelete_none {v : Value} {L : List Seg} {c : K} (hr : SRow w b v L) (hn : L.length ≤ 65536) (hf : findR c L 0 = -1) (hk : ∀ w', Below w.heap.size w w' → R (.returned (.tuple #[v, .bool false])) w') :
    Calls Try.prog 12 #[v, .agg #[.int .i64 c.1, .int .i64 c.2]] w R := by
  have HK := Lib.hid hk
  clear hk
  have hB0 : Below w.heap.size w (w.alloc (.cells #[.int .i64 c.1, .int .i64 c.2] 32)) := (Below.refl _ _).alloc (Nat.le_refl _) _
  go_enter Try.func12, Try.ntmps12
  go_wp2_with (go_at_call 31; refine RFind_k _ _ (SRow.below hr hB0) hn (fun w2 hb2 => ?_))
  exact HK.out _ (bstep hB0 hb2 rfl)
set_option maxHeartbeats 4000000 in
set_option maxRecDepth 100000 in
theorem RDelete_some {v : Value} {L : List Seg} {c : K} {j : Nat} (hr : SRow w b v L) (hn : L.length ≤ 65536) (hf : findR c L 0 = (j : Int)) (hj : j < L.length)
    (hk : ∀ w' v', SRow w' w.heap.size v' (L.take j ++ L.drop (j + 1)) → Below w.heap.size w w' → R (.returned (.tuple #[v', .bool true])) w') :
    Calls Try.prog 12 #[v, .agg #[.int .i64 c.1, .int .i64 c.2]] w R := by
  obtain ⟨g, cap, hg1, hv, hcap, -⟩ := owns_form hr (by omega)
  subst hv
  have HK := Lib.hid hk
  clear hk
  have hB0 : Below w.heap.size w (w.alloc (.cells #[.int .i64 c.1, .int .i64 c.2] 32)) := (Below.refl _ _).alloc (Nat.le_refl _) _
  go_enter Try.func12, Try.ntmps12
  go_upto_region 4 with (go_at_call 31; refine RFind_k _ _ (SRow.below hr hB0) hn (fun w2 hb2 => ?_))
  have hB2 := bstep hB0 hb2 rfl
  clear hB0 hb2
  have hR2 := SRow.below hr hB2
  have hz2 := hB2.size
  go_wp2_with fail
  have hi1 : IntKind.i64.wrap ((j : Int) + 1) = (j : Int) + 1 := IntWalk.i64_in _ (by omega)
  have hi2 : ((j : Int) + 1).toNat = j + 1 := by omega
  have hE : ∀ W : World, W.heap = (w2.alloc (.cells #[] 36)).heap → SRow W w2.heap.size (.slice (some ⟨w2.heap.size, 0, none⟩) 0 0) [] := fun W h => ownsRow_empty (by rw [h]; exact heap_alloc_new _ _) (Nat.le_refl _)
  have hP : ∀ W : World, Below w2.heap.size w2 W → ∀ o m j u, (((L.drop o).take m).flatMap Seg.enc)[j]? = some u → W.cell? ((⟨g, o * 5, none⟩ : Addr).add j) = some u := fun W h o m => (SRow.below hR2 h).part o m
  have HE := Lib.hid hE
  have HP := Lib.hid hP
  clear hE hP
  have eM : ([] ++ (L.drop 0).take j) ++ (L.drop (j + 1)).take (L.length - (j + 1)) = L.take j ++ L.drop (j + 1) := by
    rw [List.take_of_length_le (l := L.drop (j + 1)) (by simp)]; simp
  have HM := Lib.hid eM
  have hjc : j ≤ cap := by omega
  have hjl : j + 1 ≤ L.length := hj
  have hjcap : j + 1 ≤ cap := by omega
  have hjz : 0 ≤ (j : Int) + 1 := by omega
  have hjy : (j : Int) + 1 ≤ L.length := by omega
  clear eM
  by_cases hcj : cap = j + 1
  · have hll : L.length - (j + 1) = 0 := by omega
    have HM0 : Hid (([] ++ (L.drop 0).take j) ++ [] = L.take j ++ L.drop (j + 1)) := Lib.hid (by rw [List.drop_of_length_le (l := L) (i := j + 1) (by omega)]; simp)
    subst hcj
    have hj1 : (j : Int) ≤ (j : Int) + 1 := by omega
    clear hll
    go_region_law ((first
      | (refine step_segs g 0 j (j + 1) (by exact HE.out _ rfl) (by exact HP.out _ (Below.drew ((Below.refl _ _).alloc (Nat.le_refl _) _)) 0 j) (by simp; omega) (by simp; omega) (by simp) rfl _ _ rfl rfl rfl (fun v4 w4 hO4 hgrow hat => ?_); have hB4 := (Below.drew ((Below.refl w2.heap.size w2).alloc (Nat.le_refl _) (.cells #[] 36))).trans (grown_below1 hgrow (HE.out _ rfl) (Nat.le_refl _) (by simp)))
      | (refine step_segs g 0 0 0 hO4 (M := []) (by simp) rfl (by simp; omega) (by have := hB4.size; omega) rfl _ _ rfl rfl rfl (fun v5 w5 hO5 hgrow5 hat5 => ?_))))
    all_goals have hO6 := hO5
    all_goals rw [HM0.out] at hO6
    all_goals have hB5 := hB2.trans ((hB4.trans (grown_below1 hgrow5 hO4 (Nat.le_refl _) hB4.size)).mono hz2)
    all_goals go_wp2
    all_goals exact bodyPost_ret (v := .tuple #[v5, .bool true]) (by simp [results, Try.results12, go_sem]) rfl (HK.out _ _ (ownsRow_base hO6 hz2) hB5)
  · have hcj2 : j + 1 < cap := by omega
    go_region_law ((first
      | (refine step_segs g 0 j cap (by exact HE.out _ rfl) (by exact HP.out _ (Below.drew ((Below.refl _ _).alloc (Nat.le_refl _) _)) 0 j) (by simp; omega) (by simp; omega) (by simp) rfl _ _ rfl rfl rfl (fun v4 w4 hO4 hgrow hat => ?_); have hB4 := (Below.drew ((Below.refl w2.heap.size w2).alloc (Nat.le_refl _) (.cells #[] 36))).trans (grown_below1 hgrow (HE.out _ rfl) (Nat.le_refl _) (by simp)))
      | (refine step_segs g ((j + 1) * 5) (L.length - (j + 1)) (cap - (j + 1)) hO4 (by exact HP.out _ hB4 (j + 1) (L.length - (j + 1))) (by simp) (by simp; omega) (by have := hB4.size; omega) rfl _ _ rfl rfl rfl (fun v5 w5 hO5 hgrow5 hat5 => ?_))))
    all_goals have hO6 := hO5
    all_goals rw [HM.out] at hO6
    all_goals have hB5 := hB2.trans ((hB4.trans (grown_below1 hgrow5 hO4 (Nat.le_refl _) hB4.size)).mono hz2)
    all_goals go_wp2
    all_goals exact bodyPost_ret (v := .tuple #[v5, .bool true]) (by simp [results, Try.results12, go_sem]) rfl (HK.out _ _ (ownsRow_base hO6 hz2) hB5)
theorem RDelete_k {v : Value} {L : List Seg} {c : K} (hb : b ≤ w.heap.size) (hr : SRow w b v L) (hn : L.length ≤ 65536)
    (hk : ∀ w' v', SRow w' b v' (delR c L).1 → News v v' w → Below w.heap.size w w' → R (.returned (.tuple #[v', .bool (delR c L).2])) w') :
    Calls Try.prog 12 #[v, .agg #[.int .i64 c.1, .int .i64 c.2]] w R := by
  unfold delR at hk
  rcases findR_case c L with h | ⟨j, h1, h2⟩
  · rw [h, if_pos (by omega)] at hk
    exact RDelete_none hr hn h (fun w' hB => hk w' v (hr.below hB) (fun k hk => .inl hk) hB)
  · rw [h2, if_neg (by omega), Int.toNat_natCast] at hk
    exact RDelete_some hr hn h2 h1 (fun w' v' h1 h2 => hk w' v' (ownsRow_base h1 hb) (fun k hk => .inr (h1.lt hk).1) h2)

/-- A call of a script. -/
structure Opn where
  (kind : Int) (s : Seg)
def doR (room : Int) (L : List Seg) (o : Opn) : List Seg × Bool × Int :=
  if o.kind = 0 then ((putR room o.s L).1, false, (putR room o.s L).2) else if o.kind = 1 then ((delR (o.s.ls, o.s.la) L).1, (delR (o.s.ls, o.s.la) L).2, 0) else if o.kind = 2 then ([], false, 0) else (L, false, 0)
theorem putR_len {room : Int} {s : Seg} {L : List Seg} {n : Nat} (hr : room ≤ n) (h : L.length ≤ n) : (putR room s L).1.length ≤ n := by
  have hi : ∀ L : List Seg, (insR s L).length = L.length + 1 := by
    intro L
    induction L with
    | nil => rfl
    | cons x L ih => simp only [insR]; split <;> simp [ih]
  unfold putR
  split
  · exact h
  · split
    · simpa using h
    · split
      · exact h
      · simp only [hi]; omega
theorem delR_len {c : K} {L : List Seg} {n : Nat} (h : L.length ≤ n) : (delR c L).1.length ≤ n := by
  unfold delR
  split
  · exact h
  · simp; omega
theorem doR_len {room : Int} {L : List Seg} {o : Opn} {n : Nat} (hr : room ≤ n) (h : L.length ≤ n) : (doR room L o).1.length ≤ n := by
  unfold doR
  split
  · exact putR_len hr h
  · split
    · exact delR_len h
    · split
      · simp
      · exact h
set_option maxHeartbeats 1000000 in
theorem RDo_k {v : Value} {L : List Seg} {room : Int} {o : Opn} (hb : b ≤ w.heap.size) (hr : SRow w b v L) (hn : L.length ≤ 65536)
    (hk : ∀ w' v', SRow w' b v' (doR room L o).1 → News v v' w → Below w.heap.size w w' → R (.returned (.tuple #[v', .bool (doR room L o).2.1, .int .i64 (doR room L o).2.2])) w') :
    Calls Try.prog 25 #[v, .int .i64 room, .agg #[.int .i64 o.kind, .int .i64 o.s.ls, .int .i64 o.s.la, .int .i64 o.s.hs, .int .i64 o.s.ha, .int .i64 o.s.v]] w R := by
  have hB0 : Below w.heap.size w (w.alloc (.cells #[.int .i64 o.kind, .int .i64 o.s.ls, .int .i64 o.s.la, .int .i64 o.s.hs, .int .i64 o.s.ha, .int .i64 o.s.v] 47)) := (Below.refl _ _).alloc (Nat.le_refl _) _
  by_cases h0 : o.kind = 0
  · have e : doR room L o = ((putR room o.s L).1, false, (putR room o.s L).2) := by simp [doR, h0]
    rw [e] at hk
    have HK := Lib.hid hk
    clear e hk
    rw [h0] at hB0 ⊢
    clear h0
    go_enter Try.func25, Try.ntmps25
    go_wp2_with (go_at_call 9; refine RPut_k (by simp; omega) (SRow.below hr hB0) hn (fun w2 v2 h1 h2 h3 => ?_))
    exact HK.out _ _ h1 (fun k hk => (h2 k hk).imp id (fun h => by simp at h; omega)) (bstep hB0 h3 rfl)
  · by_cases h1 : o.kind = 1
    · have e : doR room L o = ((delR (o.s.ls, o.s.la) L).1, (delR (o.s.ls, o.s.la) L).2, 0) := by simp [doR, h1]
      rw [e] at hk
      have HK := Lib.hid hk
      clear e hk h0
      rw [h1] at hB0 ⊢
      clear h1
      go_enter Try.func25, Try.ntmps25
      go_wp2_with (first | (go_at_call 30; refine RKey_k o.s (fun w2 hb2 => ?_); have hB2 := bstep hB0 hb2 rfl; have hz2 := hB2.size) | (go_at_call 12; refine RDelete_k (c := (o.s.ls, o.s.la)) (by omega) (SRow.below hr hB2) hn (fun w3 v2 h1 h2 h3 => ?_)))
      exact HK.out _ _ h1 (fun k hk => (h2 k hk).imp id (fun h => by omega)) (hB2.trans (h3.mono hz2))
    · have f0 : (o.kind == 0) = false := beq_eq_false_iff_ne.2 h0
      have f1 : (o.kind == 1) = false := beq_eq_false_iff_ne.2 h1
      by_cases h2 : o.kind = 2
      · have e : doR room L o = ([], false, 0) := by simp [doR, h2]
        rw [e] at hk
        have HK := Lib.hid hk
        clear e hk h0 h1 f0 f1
        rw [h2] at hB0 ⊢
        clear h2
        go_enter Try.func25, Try.ntmps25
        go_wp2
        exact HK.out _ _ SRow.nil (fun k hk => by cases hk) hB0
      · have f2 : (o.kind == 2) = false := beq_eq_false_iff_ne.2 h2
        have e : doR room L o = (L, false, 0) := by simp [doR, h0, h1, h2]
        rw [e] at hk
        have HK := Lib.hid hk
        clear e hk h0 h1 h2
        go_enter Try.func25, Try.ntmps25
        go_wp2
        exact HK.out _ _ (SRow.below hr hB0) (fun k hk => .inl hk) hB0
end
end Go.Proofs.Ytkajknicgabdkaa

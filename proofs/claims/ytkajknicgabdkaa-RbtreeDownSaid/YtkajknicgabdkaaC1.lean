/-
  Walks of bocage/cut and of what it uses of cmp.
-/
import Derived.Test.YtkajknicgabdkaaQt
import Derived.Test.YtkajknicgabdkaaMem
import Derived.Test.YtkajknicgabdkaaEq
import Derived.WalkSpells
import Derived.Lib.Hide
import Derived.Handy
namespace Go.Proofs.Ytkajknicgabdkaa
open Go.RowKit
attribute [local go_sem high] eqCut eqSpan eqSeg
section
variable {w : World} {R : Ending → World → Prop}

abbrev K := Int × Int
def canon (c : K) : K := if c.1 < 0 ∨ (c.1 = 0 ∧ c.2 = -9223372036854775808) then (-1, 0) else if 0 < c.1 then (1, 0) else c
def cmpI (x y : Int) : Int := if x < y then -1 else if y < x then 1 else 0
def cmpK (a b : K) : Int := if cmpI a.1 b.1 ≠ 0 then cmpI a.1 b.1 else cmpI a.2 b.2
def cmpC (a b : K) : Int := cmpK (canon a) (canon b)

theorem Last_k (hk : ∀ w', Below w.heap.size w w' → R (.returned (.agg #[.int .i64 1, .int .i64 0])) w') : Calls Try.prog 34 #[] w R := by
  go_enter Try.func34, Try.ntmps34
  go_wp2
  exact bodyPost_ret (v := .agg #[.int .i64 1, .int .i64 0]) (by simp [results, Try.results34, go_sem]) rfl (hk _ ((Below.refl _ _).alloc (Nat.le_refl _) _))
theorem First_k (hk : ∀ w', Below w.heap.size w w' → R (.returned (.agg #[.int .i64 (-1), .int .i64 0])) w') : Calls Try.prog 59 #[] w R := by
  go_enter Try.func59, Try.ntmps59
  go_wp2
  exact bodyPost_ret (v := .agg #[.int .i64 (-1), .int .i64 0]) (by simp [results, Try.results59, go_sem]) rfl (hk _ ((Below.refl _ _).alloc (Nat.le_refl _) _))
theorem bcell {B : Nat} {W w1 : World} (hb : Below B W w1) : (∀ b o, b < B → w1.cell? ⟨b, o, none⟩ = W.cell? ⟨b, o, none⟩) ∧ (∀ b o, b < B → w1.frozen? ⟨b, o, none⟩ = W.frozen? ⟨b, o, none⟩) :=
  ⟨fun b o h => hb.cell (p := ⟨b, o, none⟩) h, fun b o h => hb.frozen (p := ⟨b, o, none⟩) h⟩
theorem bstep {B : Nat} {w0 W w1 : World} (hW : Below B w0 W) (hb : Below W.heap.size W w1) (hB : w0.heap.size = B) : Below B w0 w1 := hW.trans (hb.mono (hB ▸ hW.size))

theorem Canon_k (s a : Int) (hk : ∀ w', Below w.heap.size w w' → R (.returned (.agg #[.int .i64 (canon (s, a)).1, .int .i64 (canon (s, a)).2])) w') :
    Calls Try.prog 39 #[.agg #[.int .i64 s, .int .i64 a]] w R := by
  have HK := Lib.hid hk
  clear hk
  by_cases h1 : s < 0
  · have hc : canon (s, a) = (-1, 0) := by simp [canon, h1]
    rw [hc] at HK
    clear hc
    go_enter Try.func39, Try.ntmps39
    go_wp2_with (first | (go_at_call 59; refine First_k (fun w1 hb => ?_); obtain ⟨hc, hf⟩ := bcell hb; have hz := hb.size; simp only [World.size_alloc] at hz) | (go_at_call 34; refine Last_k (fun w1 hb => ?_); obtain ⟨hc, hf⟩ := bcell hb; have hz := hb.size; simp only [World.size_alloc] at hz))
    refine bodyPost_ret (v := .agg #[.int .i64 (-1), .int .i64 0]) (by simp [results, Try.results39, go_sem, hc, hz]) rfl (HK.out _ ?_)
    (repeat (first | exact Below.refl _ _ | refine Below.setCell ?_ (by first | omega | (simp; done) | (simp; omega)) _ | refine Below.drew ?_ | refine Below.alloc ?_ (by first | omega | (simp; done) | (simp; omega)) _ | (refine Below.trans ?_ (Below.mono (by assumption) (by first | omega | (simp; done) | (simp; omega))))))
  · by_cases h2 : s = 0
    · subst h2
      by_cases h3 : a = -9223372036854775808
      · subst h3
        have hc : canon (0, -9223372036854775808) = (-1, 0) := by simp [canon]
        rw [hc] at HK
        clear hc h1
        go_enter Try.func39, Try.ntmps39
        go_wp2_with (first | (go_at_call 59; refine First_k (fun w1 hb => ?_); obtain ⟨hc, hf⟩ := bcell hb; have hz := hb.size; simp only [World.size_alloc] at hz) | (go_at_call 34; refine Last_k (fun w1 hb => ?_); obtain ⟨hc, hf⟩ := bcell hb; have hz := hb.size; simp only [World.size_alloc] at hz))
        refine bodyPost_ret (v := .agg #[.int .i64 (-1), .int .i64 0]) (by simp [results, Try.results39, go_sem, hc, hz]) rfl (HK.out _ ?_)
        (repeat (first | exact Below.refl _ _ | refine Below.setCell ?_ (by first | omega | (simp; done) | (simp; omega)) _ | refine Below.drew ?_ | refine Below.alloc ?_ (by first | omega | (simp; done) | (simp; omega)) _ | (refine Below.trans ?_ (Below.mono (by assumption) (by first | omega | (simp; done) | (simp; omega))))))
      · have hc : canon (0, a) = (0, a) := by simp [canon, h3]
        rw [hc] at HK
        have h4 : (a == -9223372036854775808) = false := beq_eq_false_iff_ne.2 h3
        clear hc h1 h3
        go_enter Try.func39, Try.ntmps39
        go_wp2_with (first | (go_at_call 59; refine First_k (fun w1 hb => ?_); obtain ⟨hc, hf⟩ := bcell hb; have hz := hb.size; simp only [World.size_alloc] at hz) | (go_at_call 34; refine Last_k (fun w1 hb => ?_); obtain ⟨hc, hf⟩ := bcell hb; have hz := hb.size; simp only [World.size_alloc] at hz))
        refine bodyPost_ret (v := .agg #[.int .i64 0, .int .i64 a]) (by simp [results, Try.results39, go_sem]) rfl (HK.out _ ?_)
        (repeat (first | exact Below.refl _ _ | refine Below.setCell ?_ (by first | omega | (simp; done) | (simp; omega)) _ | refine Below.drew ?_ | refine Below.alloc ?_ (by first | omega | (simp; done) | (simp; omega)) _ | (refine Below.trans ?_ (Below.mono (by assumption) (by first | omega | (simp; done) | (simp; omega))))))
    · have h0 : 0 < s := by omega
      have hc : canon (s, a) = (1, 0) := by simp [canon, h1, h2, h0]
      rw [hc] at HK
      have h4 : (s == 0) = false := beq_eq_false_iff_ne.2 h2
      clear hc h2
      go_enter Try.func39, Try.ntmps39
      go_wp2_with (first | (go_at_call 59; refine First_k (fun w1 hb => ?_); obtain ⟨hc, hf⟩ := bcell hb; have hz := hb.size; simp only [World.size_alloc] at hz) | (go_at_call 34; refine Last_k (fun w1 hb => ?_); obtain ⟨hc, hf⟩ := bcell hb; have hz := hb.size; simp only [World.size_alloc] at hz))
      refine bodyPost_ret (v := .agg #[.int .i64 1, .int .i64 0]) (by simp [results, Try.results39, go_sem, hc, hz]) rfl (HK.out _ ?_)
      (repeat (first | exact Below.refl _ _ | refine Below.setCell ?_ (by first | omega | (simp; done) | (simp; omega)) _ | refine Below.drew ?_ | refine Below.alloc ?_ (by first | omega | (simp; done) | (simp; omega)) _ | (refine Below.trans ?_ (Below.mono (by assumption) (by first | omega | (simp; done) | (simp; omega))))))
def rightB (c : K) : Bool := (canon c).1 == c.1 && (canon c).2 == c.2
theorem Right_k (s a : Int) (hk : ∀ w', Below w.heap.size w w' → R (.returned (.bool (rightB (s, a)))) w') :
    Calls Try.prog 33 #[.agg #[.int .i64 s, .int .i64 a]] w R := by
  have HK := Lib.hid hk
  clear hk
  go_enter Try.func33, Try.ntmps33
  go_wp2_with fail
  refine wp_region_qb (by kernel_rfl) (by kernel_rfl) ?_
  repeat (first | (with_reducible refine wpQuiet_step (fun K hK => ?_); go_simp; first | (with_reducible refine hK _ ?_; clear hK K) | (apply Exists.intro; with_reducible refine ⟨fun W hW => ?_, hK _ ?_⟩; (first | (go_at_call 39; refine Canon_k _ _ (fun w1 hb => ⟨rfl, ?_⟩); exact bstep hW hb (by simp)) | ((try obtain ⟨hc, hf⟩ := bcell hW); (try go_simp); first | done | exact ⟨rfl, rfl⟩ | rfl)); clear hK K)) | (with_reducible refine wpQ_skip (by with_unfolding_all rfl) ?_))
  refine wpQuiet_nil ?_
  intro w1 hb
  go_wp2
  refine HK.out _ ?_
  (repeat (first | exact Below.refl _ _ | refine Below.setCell ?_ (by first | omega | (simp; done) | (simp; omega)) _ | refine Below.drew ?_ | refine Below.alloc ?_ (by first | omega | (simp; done) | (simp; omega)) _ | (refine Below.trans ?_ (Below.mono (by assumption) (by first | omega | (simp; done) | (simp; omega))))))

theorem isNaNi_k (x : Int) (hk : R (.returned (.bool false)) w) : Calls Try.prog 69 #[.int .i64 x] w R := by
  go_enter Try.func69, Try.ntmps69
  go_wp2
  exact hk
theorem isNaNl_k (x : Int) (hk : R (.returned (.bool false)) w) : Calls Try.prog 70 #[.int .i64 x] w R := by
  go_enter Try.func70, Try.ntmps70
  go_wp2
  exact hk
theorem cmpi_k (x y : Int) (hk : R (.returned (.int .i64 (cmpI x y))) w) : Calls Try.prog 62 #[.int .i64 x, .int .i64 y] w R := by
  by_cases h1 : x < y
  · have hc : cmpI x y = -1 := by simp [cmpI, h1]
    rw [hc] at hk
    clear hc
    go_enter Try.func62, Try.ntmps62
    go_wp2_with (go_at_call 69; refine isNaNi_k _ ?_)
    exact hk
  · by_cases h2 : y < x
    · have hc : cmpI x y = 1 := by simp [cmpI, h1, h2]
      rw [hc] at hk
      clear hc
      go_enter Try.func62, Try.ntmps62
      go_wp2_with (go_at_call 69; refine isNaNi_k _ ?_)
      exact hk
    · have hc : cmpI x y = 0 := by simp [cmpI, h1, h2]
      rw [hc] at hk
      clear hc
      go_enter Try.func62, Try.ntmps62
      go_wp2_with (go_at_call 69; refine isNaNi_k _ ?_)
      exact hk
theorem cmpl_k (x y : Int) (hk : R (.returned (.int .i64 (cmpI x y))) w) : Calls Try.prog 63 #[.int .i64 x, .int .i64 y] w R := by
  by_cases h1 : x < y
  · have hc : cmpI x y = -1 := by simp [cmpI, h1]
    rw [hc] at hk
    clear hc
    go_enter Try.func63, Try.ntmps63
    go_wp2_with (go_at_call 70; refine isNaNl_k _ ?_)
    exact hk
  · by_cases h2 : y < x
    · have hc : cmpI x y = 1 := by simp [cmpI, h1, h2]
      rw [hc] at hk
      clear hc
      go_enter Try.func63, Try.ntmps63
      go_wp2_with (go_at_call 70; refine isNaNl_k _ ?_)
      exact hk
    · have hc : cmpI x y = 0 := by simp [cmpI, h1, h2]
      rw [hc] at hk
      clear hc
      go_enter Try.func63, Try.ntmps63
      go_wp2_with (go_at_call 70; refine isNaNl_k _ ?_)
      exact hk
theorem Or_k (a b : Int) (g : Nat) (ha : w.cell? ⟨g, 0, none⟩ = some (.int .i64 a)) (hb : w.cell? ⟨g, 1, none⟩ = some (.int .i64 b)) {r : Int} (hr : r = if a ≠ 0 then a else b) (hk : R (.returned (.int .i64 r)) w) :
    Calls Try.prog 61 #[.slice (some ⟨g, 0, none⟩) 2 2] w R := by
  subst hr
  by_cases h1 : a = 0
  · subst h1
    by_cases h2 : b = 0
    · subst h2
      go_enter Try.func61, Try.ntmps61
      go_wp2
      go_rounds 3
      exact hk
    · have hb' : (b != 0) = true := bne_iff_ne.2 h2
      simp only [ne_eq, not_true_eq_false, if_false] at hk
      go_enter Try.func61, Try.ntmps61
      go_wp2
      go_rounds 3
      exact hk
  · have ha' : (a != 0) = true := bne_iff_ne.2 h1
    rw [if_pos h1] at hk
    clear h1
    go_enter Try.func61, Try.ntmps61
    go_wp2
    go_rounds 1
    exact hk

set_option maxHeartbeats 1000000 in
theorem Compare_k (s a t b : Int) (hk : ∀ w', Below w.heap.size w w' → R (.returned (.int .i64 (cmpC (s, a) (t, b)))) w') :
    Calls Try.prog 48 #[.agg #[.int .i64 s, .int .i64 a], .agg #[.int .i64 t, .int .i64 b]] w R := by
  have HK := Lib.hid hk
  clear hk
  go_enter Try.func48, Try.ntmps48
  go_wp2_with fail
  refine wp_region_qbt 4 (by kernel_rfl) (by kernel_rfl) ?_
  simp only [List.take_succ_cons, List.take_zero, List.drop_succ_cons, List.drop_zero]
  repeat (first | (with_reducible refine wpQuiet_step (fun K hK => ?_); go_simp; first | (with_reducible refine hK _ ?_; clear hK K) | (apply Exists.intro; with_reducible refine ⟨fun W hW => ?_, hK _ ?_⟩; (first | (go_at_call 39; refine Canon_k _ _ (fun w1 hb => ⟨rfl, ?_⟩); exact bstep hW hb (by simp)) | ((try obtain ⟨hc, hf⟩ := bcell hW); (try go_simp); first | done | exact ⟨rfl, rfl⟩ | rfl)); clear hK K)) | (with_reducible refine wpQ_skip (by with_unfolding_all rfl) ?_))
  refine wpQuiet_nil ?_
  intro w1 hb
  obtain ⟨hc, hf⟩ := bcell hb
  have hz := hb.size
  have b0 : w1.heap[w.heap.size]? = some (.cells #[.int .i64 s, .int .i64 a] 32 (0, 0)) := (hb.block _ (by simp; omega)).trans ((Below.heap_alloc _ _ _ (by simp)).trans (heap_alloc_new w _))
  have b1 : w1.heap[w.heap.size + 1]? = some (.cells #[.int .i64 t, .int .i64 b] 32 (0, 0)) := (hb.block _ (by simp)).trans (by have := heap_alloc_new (w.alloc (.cells #[.int .i64 s, .int .i64 a] 32)) (.cells #[.int .i64 t, .int .i64 b] 32); simpa using this)
  simp only [World.size_alloc] at hz
  go_wp2_with fail
  refine wp_world (fun W => W.cell? ⟨w.heap.size, 0, none⟩ = some (.int .i64 (canon (s, a)).1) ∧ W.cell? ⟨w.heap.size, 1, none⟩ = some (.int .i64 (canon (s, a)).2) ∧
    W.cell? ⟨w.heap.size + 1, 0, none⟩ = some (.int .i64 (canon (t, b)).1) ∧ W.cell? ⟨w.heap.size + 1, 1, none⟩ = some (.int .i64 (canon (t, b)).2) ∧ Below w.heap.size w W ∧ w.heap.size < W.heap.size ∧ w.heap.size + 1 < W.heap.size) ?_ ?_
  · refine ⟨?_, ?_, ?_, ?_, ?_, ?_, ?_⟩
    · simp [World.cell?, World.setCell, Array.getElem?_modify, b0]
    · simp [World.cell?, World.setCell, Array.getElem?_modify, b0]
    · simp [World.cell?, World.setCell, Array.getElem?_modify, b1]
    · simp [World.cell?, World.setCell, Array.getElem?_modify, b1]
    · (repeat (first | exact Below.refl _ _ | refine Below.setCell ?_ (by first | omega | (simp; done) | (simp; omega)) _ | refine Below.drew ?_ | refine Below.alloc ?_ (by first | omega | (simp; done) | (simp; omega)) _ | (refine Below.trans ?_ (Below.mono (by assumption) (by first | omega | (simp; done) | (simp; omega))))))
    · simp; omega
    · simp; omega
  clear hb hc hf hz b0 b1
  rintro w2 ⟨e0, e1, e2, e3, hB, hz0, hz1⟩
  refine wp_region_qbt 10 (by kernel_rfl) (by kernel_rfl) ?_
  simp only [List.take_succ_cons, List.take_zero, List.drop_succ_cons, List.drop_zero]
  repeat (first | (with_reducible refine wpQuiet_step (fun K hK => ?_); go_simp; first | (with_reducible refine hK _ ?_; clear hK K) | (apply Exists.intro; with_reducible refine ⟨fun W hW => ?_, hK _ ?_⟩; (first | (go_at_call 62; exact cmpi_k _ _ ⟨rfl, hW⟩) | (go_at_call 63; exact cmpl_k _ _ ⟨rfl, hW⟩) | ((try obtain ⟨hc, hf⟩ := bcell hW); (try go_simp); first | done | exact ⟨rfl, rfl⟩ | rfl)); clear hK K)) | (with_reducible refine wpQ_skip (by with_unfolding_all rfl) ?_))
  refine wpQuiet_nil ?_
  intro w3 hb2
  have hz2 := hb2.size
  go_wp2_with (go_at_call 61; refine Or_k (cmpI (canon (s, a)).1 (canon (t, b)).1) (cmpI (canon (s, a)).2 (canon (t, b)).2) _ (by simp) (by simp) (r := cmpC (s, a) (t, b)) rfl ?_)
  refine HK.out _ ?_
  (repeat (first | exact Below.refl _ _ | refine Below.setCell ?_ (by first | omega | (simp; done) | (simp; omega)) _ | refine Below.drew ?_ | refine Below.alloc ?_ (by first | omega | (simp; done) | (simp; omega)) _ | (refine Below.trans ?_ (Below.mono (by assumption) (by first | omega | (simp; done) | (simp; omega))))))
end
end Go.Proofs.Ytkajknicgabdkaa

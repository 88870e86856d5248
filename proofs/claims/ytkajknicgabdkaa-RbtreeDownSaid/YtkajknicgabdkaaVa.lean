/-
  Walks of the document's own functions: Canon, Less, key, Find, Same, Bits; and of the law's seg.
-/
import Derived.Test.YtkajknicgabdkaaC1
import Derived.Test.YtkajknicgabdkaaMem2
import Derived.Deep.Cut
namespace Go.Proofs.Ytkajknicgabdkaa
open Go.RowKit
attribute [local go_sem high] eqCut eqSpan eqSeg
section
variable {w : World} {R : Ending → World → Prop}
def Seg.key (s : Seg) : K := (s.ls, s.la)
theorem Least64_k (hk : R (.returned (.int .i64 (-9223372036854775808))) w) : Calls Try.prog 54 #[] w R := by
  go_enter Try.func54, Try.ntmps54
  go_wp2
  exact hk
set_option maxHeartbeats 1000000 in
theorem RCanon_k (s a : Int) (hk : ∀ w', Below w.heap.size w w' → R (.returned (.agg #[.int .i64 (canon (s, a)).1, .int .i64 (canon (s, a)).2])) w') :
    Calls Try.prog 29 #[.agg #[.int .i64 s, .int .i64 a]] w R := by
  by_cases h1 : s < 0
  · have hc : canon (s, a) = (-1, 0) := by simp [canon, h1]
    rw [hc] at hk
    have h2 : decide (s < 0) = true := decide_eq_true h1
    clear hc
    have HK := Lib.hid hk
    clear hk
    obtain ⟨W0, hW0⟩ : ∃ W0, W0 = (w.alloc (.cells #[.int .i64 s, .int .i64 a] 32)).alloc (.cells #[.int .i64 0, .int .i64 0] 32) := ⟨_, rfl⟩
    have hB0 : Below w.heap.size w W0 := by rw [hW0]; exact ((Below.refl _ _).alloc (Nat.le_refl _) _).alloc (by simp) _
    have hz0 : W0.heap.size = w.heap.size + 2 := by rw [hW0]; simp
    have c0 : W0.cell? ⟨w.heap.size, 0, none⟩ = some (.int .i64 s) := by rw [hW0]; simp
    have c1 : W0.cell? ⟨w.heap.size, 1, none⟩ = some (.int .i64 a) := by rw [hW0]; simp
    have d0 : W0.cell? ⟨w.heap.size + 1, 0, none⟩ = some (.int .i64 0) := by rw [hW0]; simp
    have d1 : W0.cell? ⟨w.heap.size + 1, 1, none⟩ = some (.int .i64 0) := by rw [hW0]; simp
    have df : ∀ k, W0.frozen? ⟨w.heap.size + 1, k, none⟩ = false := fun k => by rw [hW0]; simp
    have hz00 : w.heap.size < W0.heap.size := by omega
    have hz01 : w.heap.size + 1 < W0.heap.size := by omega
    clear hz0
    have hW0' := Lib.hid hW0
    clear hW0
    go_enter Try.func29, Try.ntmps29
    go_wp2_with fail
    rw [← hW0'.out]
    refine wp_region_qb (by kernel_rfl) (by kernel_rfl) ?_
    repeat (first | (with_reducible refine wpQuiet_step (fun K hK => ?_); go_simp; first | (with_reducible refine hK _ ?_; clear hK K) | (apply Exists.intro; with_reducible refine ⟨fun W hW => ?_, hK _ ?_⟩; (first | (go_at_call 54; exact Least64_k ⟨rfl, hW⟩) | ((try obtain ⟨hc, hf⟩ := bcell hW); (try go_simp); first | done | exact ⟨rfl, rfl⟩ | rfl)); clear hK K)) | (with_reducible refine wpQ_skip (by with_unfolding_all rfl) ?_))
    refine wpQuiet_nil ?_
    intro w1 hb
    have hB1 := hB0.trans (hb.mono hB0.size)
    have hz1 := hb.size
    obtain ⟨g1, g2⟩ := bcell hb
    replace c0 := (g1 _ _ (by omega)).trans c0
    replace c1 := (g1 _ _ (by omega)).trans c1
    replace d0 := (g1 _ _ (by omega)).trans d0
    replace d1 := (g1 _ _ (by omega)).trans d1
    replace df := fun k => (g2 _ k (by omega)).trans (df k)
    clear g1 g2 hb hB0 hW0'
    go_wp2
    refine bodyPost_ret (v := .agg #[.int .i64 (-1), .int .i64 0]) (by simp [results, Try.results29, go_sem, d0, d1]) rfl (HK.out _ ?_)
    exact (hB1.setCell (by simp) _).setCell (by simp) _
  · by_cases h2 : s = 0
    · subst h2
      by_cases h3 : a = -9223372036854775808
      · subst h3
        have hc : canon (0, -9223372036854775808) = (-1, 0) := by simp [canon]
        rw [hc] at hk
        clear hc h1
        have HK := Lib.hid hk
        clear hk
        obtain ⟨W0, hW0⟩ : ∃ W0, W0 = (w.alloc (.cells #[.int .i64 0, .int .i64 (-9223372036854775808)] 32)).alloc (.cells #[.int .i64 0, .int .i64 0] 32) := ⟨_, rfl⟩
        have hB0 : Below w.heap.size w W0 := by rw [hW0]; exact ((Below.refl _ _).alloc (Nat.le_refl _) _).alloc (by simp) _
        have hz0 : W0.heap.size = w.heap.size + 2 := by rw [hW0]; simp
        have c0 : W0.cell? ⟨w.heap.size, 0, none⟩ = some (.int .i64 0) := by rw [hW0]; simp
        have c1 : W0.cell? ⟨w.heap.size, 1, none⟩ = some (.int .i64 (-9223372036854775808)) := by rw [hW0]; simp
        have d0 : W0.cell? ⟨w.heap.size + 1, 0, none⟩ = some (.int .i64 0) := by rw [hW0]; simp
        have d1 : W0.cell? ⟨w.heap.size + 1, 1, none⟩ = some (.int .i64 0) := by rw [hW0]; simp
        have df : ∀ k, W0.frozen? ⟨w.heap.size + 1, k, none⟩ = false := fun k => by rw [hW0]; simp
        have hz00 : w.heap.size < W0.heap.size := by omega
        have hz01 : w.heap.size + 1 < W0.heap.size := by omega
        clear hz0
        have hW0' := Lib.hid hW0
        clear hW0
        go_enter Try.func29, Try.ntmps29
        go_wp2_with fail
        rw [← hW0'.out]
        refine wp_region_qb (by kernel_rfl) (by kernel_rfl) ?_
        repeat (first | (with_reducible refine wpQuiet_step (fun K hK => ?_); go_simp; first | (with_reducible refine hK _ ?_; clear hK K) | (apply Exists.intro; with_reducible refine ⟨fun W hW => ?_, hK _ ?_⟩; (first | (go_at_call 54; exact Least64_k ⟨rfl, hW⟩) | ((try obtain ⟨hc, hf⟩ := bcell hW); (try go_simp); first | done | exact ⟨rfl, rfl⟩ | rfl)); clear hK K)) | (with_reducible refine wpQ_skip (by with_unfolding_all rfl) ?_))
        refine wpQuiet_nil ?_
        intro w1 hb
        have hB1 := hB0.trans (hb.mono hB0.size)
        have hz1 := hb.size
        obtain ⟨g1, g2⟩ := bcell hb
        replace c0 := (g1 _ _ (by omega)).trans c0
        replace c1 := (g1 _ _ (by omega)).trans c1
        replace d0 := (g1 _ _ (by omega)).trans d0
        replace d1 := (g1 _ _ (by omega)).trans d1
        replace df := fun k => (g2 _ k (by omega)).trans (df k)
        clear g1 g2 hb hB0 hW0'
        go_wp2
        refine bodyPost_ret (v := .agg #[.int .i64 (-1), .int .i64 0]) (by simp [results, Try.results29, go_sem, d0, d1]) rfl (HK.out _ ?_)
        exact (hB1.setCell (by simp) _).setCell (by simp) _
      · have hc : canon (0, a) = (0, a) := by simp [canon, h3]
        rw [hc] at hk
        have h4 : (a == -9223372036854775808) = false := beq_eq_false_iff_ne.2 h3
        clear hc h1 h3
        have HK := Lib.hid hk
        clear hk
        obtain ⟨W0, hW0⟩ : ∃ W0, W0 = (w.alloc (.cells #[.int .i64 0, .int .i64 a] 32)).alloc (.cells #[.int .i64 0, .int .i64 0] 32) := ⟨_, rfl⟩
        have hB0 : Below w.heap.size w W0 := by rw [hW0]; exact ((Below.refl _ _).alloc (Nat.le_refl _) _).alloc (by simp) _
        have hz0 : W0.heap.size = w.heap.size + 2 := by rw [hW0]; simp
        have c0 : W0.cell? ⟨w.heap.size, 0, none⟩ = some (.int .i64 0) := by rw [hW0]; simp
        have c1 : W0.cell? ⟨w.heap.size, 1, none⟩ = some (.int .i64 a) := by rw [hW0]; simp
        have d0 : W0.cell? ⟨w.heap.size + 1, 0, none⟩ = some (.int .i64 0) := by rw [hW0]; simp
        have d1 : W0.cell? ⟨w.heap.size + 1, 1, none⟩ = some (.int .i64 0) := by rw [hW0]; simp
        have df : ∀ k, W0.frozen? ⟨w.heap.size + 1, k, none⟩ = false := fun k => by rw [hW0]; simp
        have hz00 : w.heap.size < W0.heap.size := by omega
        have hz01 : w.heap.size + 1 < W0.heap.size := by omega
        clear hz0
        have hW0' := Lib.hid hW0
        clear hW0
        go_enter Try.func29, Try.ntmps29
        go_wp2_with fail
        rw [← hW0'.out]
        refine wp_region_qb (by kernel_rfl) (by kernel_rfl) ?_
        repeat (first | (with_reducible refine wpQuiet_step (fun K hK => ?_); go_simp; first | (with_reducible refine hK _ ?_; clear hK K) | (apply Exists.intro; with_reducible refine ⟨fun W hW => ?_, hK _ ?_⟩; (first | (go_at_call 54; exact Least64_k ⟨rfl, hW⟩) | ((try obtain ⟨hc, hf⟩ := bcell hW); (try go_simp); first | done | exact ⟨rfl, rfl⟩ | rfl)); clear hK K)) | (with_reducible refine wpQ_skip (by with_unfolding_all rfl) ?_))
        refine wpQuiet_nil ?_
        intro w1 hb
        have hB1 := hB0.trans (hb.mono hB0.size)
        have hz1 := hb.size
        obtain ⟨g1, g2⟩ := bcell hb
        replace c0 := (g1 _ _ (by omega)).trans c0
        replace c1 := (g1 _ _ (by omega)).trans c1
        replace d0 := (g1 _ _ (by omega)).trans d0
        replace d1 := (g1 _ _ (by omega)).trans d1
        replace df := fun k => (g2 _ k (by omega)).trans (df k)
        clear g1 g2 hb hB0 hW0'
        go_wp2
        refine bodyPost_ret (v := .agg #[.int .i64 0, .int .i64 a]) (by simp [results, Try.results29, go_sem, d0, d1]) rfl (HK.out _ ?_)
        exact (hB1.setCell (by simp) _).setCell (by simp) _
    · have h0 : 0 < s := by omega
      have hc : canon (s, a) = (1, 0) := by simp [canon, h1, h2, h0]
      rw [hc] at hk
      have h4 : (s == 0) = false := beq_eq_false_iff_ne.2 h2
      have h5 : decide (s < 0) = false := decide_eq_false h1
      have h6 : decide (0 < s) = true := decide_eq_true h0
      clear hc h2 h1
      have HK := Lib.hid hk
      clear hk
      obtain ⟨W0, hW0⟩ : ∃ W0, W0 = (w.alloc (.cells #[.int .i64 s, .int .i64 a] 32)).alloc (.cells #[.int .i64 0, .int .i64 0] 32) := ⟨_, rfl⟩
      have hB0 : Below w.heap.size w W0 := by rw [hW0]; exact ((Below.refl _ _).alloc (Nat.le_refl _) _).alloc (by simp) _
      have hz0 : W0.heap.size = w.heap.size + 2 := by rw [hW0]; simp
      have c0 : W0.cell? ⟨w.heap.size, 0, none⟩ = some (.int .i64 s) := by rw [hW0]; simp
      have c1 : W0.cell? ⟨w.heap.size, 1, none⟩ = some (.int .i64 a) := by rw [hW0]; simp
      have d0 : W0.cell? ⟨w.heap.size + 1, 0, none⟩ = some (.int .i64 0) := by rw [hW0]; simp
      have d1 : W0.cell? ⟨w.heap.size + 1, 1, none⟩ = some (.int .i64 0) := by rw [hW0]; simp
      have df : ∀ k, W0.frozen? ⟨w.heap.size + 1, k, none⟩ = false := fun k => by rw [hW0]; simp
      have hz00 : w.heap.size < W0.heap.size := by omega
      have hz01 : w.heap.size + 1 < W0.heap.size := by omega
      clear hz0
      have hW0' := Lib.hid hW0
      clear hW0
      go_enter Try.func29, Try.ntmps29
      go_wp2_with fail
      rw [← hW0'.out]
      refine wp_region_qb (by kernel_rfl) (by kernel_rfl) ?_
      repeat (first | (with_reducible refine wpQuiet_step (fun K hK => ?_); go_simp; first | (with_reducible refine hK _ ?_; clear hK K) | (apply Exists.intro; with_reducible refine ⟨fun W hW => ?_, hK _ ?_⟩; (first | (go_at_call 54; exact Least64_k ⟨rfl, hW⟩) | ((try obtain ⟨hc, hf⟩ := bcell hW); (try go_simp); first | done | exact ⟨rfl, rfl⟩ | rfl)); clear hK K)) | (with_reducible refine wpQ_skip (by with_unfolding_all rfl) ?_))
      refine wpQuiet_nil ?_
      intro w1 hb
      have hB1 := hB0.trans (hb.mono hB0.size)
      have hz1 := hb.size
      obtain ⟨g1, g2⟩ := bcell hb
      replace c0 := (g1 _ _ (by omega)).trans c0
      replace c1 := (g1 _ _ (by omega)).trans c1
      replace d0 := (g1 _ _ (by omega)).trans d0
      replace d1 := (g1 _ _ (by omega)).trans d1
      replace df := fun k => (g2 _ k (by omega)).trans (df k)
      clear g1 g2 hb hB0 hW0'
      go_wp2
      refine bodyPost_ret (v := .agg #[.int .i64 1, .int .i64 0]) (by simp [results, Try.results29, go_sem, d0, d1]) rfl (HK.out _ ?_)
      exact (hB1.setCell (by simp) _).setCell (by simp) _
end
end Go.Proofs.Ytkajknicgabdkaa

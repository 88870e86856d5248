/-
  Walks of the document's Less, key, Bits; of the law's seg.
-/
import Derived.Test.YtkajknicgabdkaaVa
namespace Go.Proofs.Ytkajknicgabdkaa
open Go.RowKit
attribute [local go_sem high] eqCut eqSpan eqSeg
section
variable {w : World} {R : Ending → World → Prop}
theorem RKey_k (s : Seg) (hk : ∀ w', Below w.heap.size w w' → R (.returned (.agg #[.int .i64 s.ls, .int .i64 s.la])) w') :
    Calls Try.prog 30 #[.agg #[.int .i64 s.ls, .int .i64 s.la, .int .i64 s.hs, .int .i64 s.ha, .int .i64 s.v]] w R := by
  have HK := Lib.hid hk
  clear hk
  go_enter Try.func30, Try.ntmps30
  go_wp2
  refine bodyPost_ret (v := .agg #[.int .i64 s.ls, .int .i64 s.la]) (by simp [results, Try.results30, go_sem]) rfl (HK.out _ ?_)
  (repeat (first | exact Below.refl _ _ | refine Below.setCell ?_ (by first | omega | (simp; done) | (simp; omega)) _ | refine Below.drew ?_ | refine Below.alloc ?_ (by first | omega | (simp; done) | (simp; omega)) _ | (refine Below.trans ?_ (Below.mono (by assumption) (by first | omega | (simp; done) | (simp; omega))))))
theorem seg_k (n : Int) (hk : ∀ w', Below w.heap.size w w' → R (.returned (.agg #[.int .i64 0, .int .i64 n, .int .i64 0, .int .i64 0, .int .i64 n])) w') :
    Calls Try.prog 10 #[.int .i64 n] w R := by
  have HK := Lib.hid hk
  clear hk
  go_enter Try.func10, Try.ntmps10
  go_wp2
  refine bodyPost_ret (v := .agg #[.int .i64 0, .int .i64 n, .int .i64 0, .int .i64 0, .int .i64 n]) (by simp [results, Try.results10, go_sem]) rfl (HK.out _ ?_)
  (repeat (first | exact Below.refl _ _ | refine Below.setCell ?_ (by first | omega | (simp; done) | (simp; omega)) _ | refine Below.drew ?_ | refine Below.alloc ?_ (by first | omega | (simp; done) | (simp; omega)) _ | (refine Below.trans ?_ (Below.mono (by assumption) (by first | omega | (simp; done) | (simp; omega))))))
def lessK (c d : K) : Bool := if (canon c).1 != (canon d).1 then decide ((canon c).1 < (canon d).1) else decide ((canon c).2 < (canon d).2)
set_option maxHeartbeats 1000000 in
theorem RLess_k (s a t b : Int) (hk : ∀ w', Below w.heap.size w w' → R (.returned (.bool (lessK (s, a) (t, b)))) w') :
    Calls Try.prog 32 #[.agg #[.int .i64 s, .int .i64 a], .agg #[.int .i64 t, .int .i64 b]] w R := by
  have HK := Lib.hid hk
  clear hk
  obtain ⟨p1, hp1⟩ : ∃ p1, p1 = (canon (s, a)).1 := ⟨_, rfl⟩
  obtain ⟨p2, hp2⟩ : ∃ p2, p2 = (canon (s, a)).2 := ⟨_, rfl⟩
  obtain ⟨q1, hq1⟩ : ∃ q1, q1 = (canon (t, b)).1 := ⟨_, rfl⟩
  obtain ⟨q2, hq2⟩ : ∃ q2, q2 = (canon (t, b)).2 := ⟨_, rfl⟩
  have hL : lessK (s, a) (t, b) = if p1 != q1 then decide (p1 < q1) else decide (p2 < q2) := by rw [hp1, hp2, hq1, hq2]; rfl
  rw [hL] at HK
  have CA : ∀ (w : World) (R : Ending → World → Prop), (∀ w', Below w.heap.size w w' → R (.returned (.agg #[.int .i64 p1, .int .i64 p2])) w') → Calls Try.prog 29 #[.agg #[.int .i64 s, .int .i64 a]] w R := fun w R h => RCanon_k s a (by rw [← hp1, ← hp2]; exact h)
  have CB : ∀ (w : World) (R : Ending → World → Prop), (∀ w', Below w.heap.size w w' → R (.returned (.agg #[.int .i64 q1, .int .i64 q2])) w') → Calls Try.prog 29 #[.agg #[.int .i64 t, .int .i64 b]] w R := fun w R h => RCanon_k t b (by rw [← hq1, ← hq2]; exact h)
  have HA := Lib.hid CA
  have HB := Lib.hid CB
  obtain ⟨W0, hW0⟩ : ∃ W0, W0 = (w.alloc (.cells #[.int .i64 s, .int .i64 a] 32)).alloc (.cells #[.int .i64 t, .int .i64 b] 32) := ⟨_, rfl⟩
  have hB0 : Below w.heap.size w W0 := by rw [hW0]; exact ((Below.refl _ _).alloc (Nat.le_refl _) _).alloc (by simp) _
  have hz0 : W0.heap.size = w.heap.size + 2 := by rw [hW0]; simp
  have b0 : W0.heap[w.heap.size]? = some (.cells #[.int .i64 s, .int .i64 a] 32 (0, 0)) := by rw [hW0]; exact (Below.heap_alloc _ _ _ (by simp)).trans (heap_alloc_new w _)
  have b1 : W0.heap[w.heap.size + 1]? = some (.cells #[.int .i64 t, .int .i64 b] 32 (0, 0)) := by rw [hW0]; have := heap_alloc_new (w.alloc (.cells #[.int .i64 s, .int .i64 a] 32)) (.cells #[.int .i64 t, .int .i64 b] 32); rwa [World.size_alloc] at this
  have hW0' := Lib.hid hW0
  have hz := Lib.hid hz0
  clear hW0 CA CB hL hp1 hp2 hq1 hq2 hz0
  go_enter Try.func32, Try.ntmps32
  go_upto_region 1 with fail
  rw [← hW0'.out]
  have c0 : W0.cell? ⟨w.heap.size, 0, none⟩ = some (.int .i64 s) := by simp [World.cell?, b0]
  have c1 : W0.cell? ⟨w.heap.size, 1, none⟩ = some (.int .i64 a) := by simp [World.cell?, b0]
  have f0 : ∀ k, W0.frozen? ⟨w.heap.size, k, none⟩ = false := fun k => by simp [World.frozen?, b0]
  go_upto_region 2 with (go_at_call 29; refine HA.out _ _ (fun w1 hb => ?_); have hzz := hz.out; obtain ⟨g1, g2⟩ := bcell hb; have c0' := (g1 w.heap.size 0 (by omega)).trans c0; have c1' := (g1 w.heap.size 1 (by omega)).trans c1; have f0' := fun k => (g2 w.heap.size k (by omega)).trans (f0 k); have hbb := Lib.hid hb; clear hzz g1 g2 hb)
  refine wp_world (fun W => W.heap[w.heap.size]? = some (.cells #[.int .i64 p1, .int .i64 p2] 32 (0, 0)) ∧ W.heap[w.heap.size + 1]? = some (.cells #[.int .i64 t, .int .i64 b] 32 (0, 0)) ∧ Below w.heap.size w W) ?_ ?_
  · have hb := hbb.out
    have hzz := hz.out
    have k0 := setCell_block (i := 1) (v := .int .i64 p2) (setCell_block (i := 0) (v := .int .i64 p1) ((hb.block _ (lt_of_heap b0)).trans b0))
    refine ⟨by simpa using k0, ?_, ((hB0.trans (hb.mono hB0.size)).setCell (by simp) _).setCell (by simp) _⟩
    rw [setCell_other (by omega), setCell_other (by omega), hb.block _ (lt_of_heap b1)]; exact b1
  clear hbb c0 c1 f0 c0' c1' f0' b0 b1 hB0 hz hW0' HA
  rintro W ⟨b0, b1, hB⟩
  have hl0 := lt_of_heap b0
  have hl1 := lt_of_heap b1
  have c0 : W.cell? ⟨w.heap.size + 1, 0, none⟩ = some (.int .i64 t) := by simp [World.cell?, b1]
  have c1 : W.cell? ⟨w.heap.size + 1, 1, none⟩ = some (.int .i64 b) := by simp [World.cell?, b1]
  have f0 : ∀ k, W.frozen? ⟨w.heap.size + 1, k, none⟩ = false := fun k => by simp [World.frozen?, b1]
  go_upto_region 3 with (go_at_call 29; refine HB.out _ _ (fun w2 hb => ?_); obtain ⟨g1, g2⟩ := bcell hb; have c0' := (g1 (w.heap.size + 1) 0 (by omega)).trans c0; have c1' := (g1 (w.heap.size + 1) 1 (by omega)).trans c1; have f0' := fun k => (g2 (w.heap.size + 1) k (by omega)).trans (f0 k); have hbb := Lib.hid hb; clear g1 g2 hb)
  refine wp_world (fun W => W.heap[w.heap.size]? = some (.cells #[.int .i64 p1, .int .i64 p2] 32 (0, 0)) ∧ W.heap[w.heap.size + 1]? = some (.cells #[.int .i64 q1, .int .i64 q2] 32 (0, 0)) ∧ Below w.heap.size w W) ?_ ?_
  · have hb := hbb.out
    have k0 := setCell_block (i := 1) (v := .int .i64 q2) (setCell_block (i := 0) (v := .int .i64 q1) ((hb.block _ hl1).trans b1))
    refine ⟨?_, by simpa using k0, ((hB.trans (hb.mono hB.size)).setCell (by simp) _).setCell (by simp) _⟩
    rw [setCell_other (by omega), setCell_other (by omega), hb.block _ hl0]; exact b0
  clear hbb c0 c1 f0 c0' c1' f0' b0 b1 hB hl0 hl1 HB
  rintro W ⟨b0, b1, hB⟩
  have c0 : W.cell? ⟨w.heap.size, 0, none⟩ = some (.int .i64 p1) := by simp [World.cell?, b0]
  have c1 : W.cell? ⟨w.heap.size, 1, none⟩ = some (.int .i64 p2) := by simp [World.cell?, b0]
  have d0 : W.cell? ⟨w.heap.size + 1, 0, none⟩ = some (.int .i64 q1) := by simp [World.cell?, b1]
  have d1 : W.cell? ⟨w.heap.size + 1, 1, none⟩ = some (.int .i64 q2) := by simp [World.cell?, b1]
  cases hc : (p1 != q1)
  · rw [hc] at HK
    go_wp2
    exact HK.out _ hB
  · rw [hc] at HK
    go_wp2
    exact HK.out _ hB
def bitsR : Nat → Nat → Nat
  | 0, _ => 0
  | f + 1, n => if n = 0 then 0 else 1 + bitsR f (n / 2)
set_option maxHeartbeats 1000000 in
theorem Bits_k (f n : Nat) (hf : n < 2 ^ f) (hn : n < 1000000) (hk : R (.returned (.int .i64 (bitsR f n))) w) : Calls Try.prog 19 #[.int .i64 n] w R := by
  have HK := Lib.hid hk
  clear hk
  go_enter Try.func19, Try.ntmps19
  go_wp2_with fail
  go_loopg [0, 3] n (fun q v0 v3 wr => ∃ (g x y : Nat), v0 = .int .i64 x ∧ v3 = .int .i64 y ∧ q = x ∧ x < 1000000 ∧ y + x < 2000000 ∧ Hid (x < 2 ^ g ∧ y + bitsR g x = bitsR f n) ∧ wr = w)
  case atStart => exact ⟨f, n, 0, rfl, rfl, rfl, hn, by omega, Lib.hid ⟨hf, by simp⟩, rfl⟩
  case round =>
    obtain ⟨g, x, y, rfl, rfl, hq, hx, hy, hb, rfl⟩ := hrel
    by_cases h0 : x = 0
    · have hbb := hb.out.2
      have e : bitsR g x = 0 := by subst h0; cases g <;> simp [bitsR]
      rw [e, Nat.add_zero] at hbb
      subst h0
      subst hbb
      clear hb e hq
      go_wp2
      exact HK.out
    · have h1 : 0 < x := by omega
      go_wp2
      go_roundg (x / 2)
      case measure => omega
      case rel =>
        obtain ⟨h2, h3⟩ := hb.out
        cases g with
        | zero => simp at h2; omega
        | succ g =>
          refine ⟨g, x / 2, y + 1, by simp, by simp, rfl, by omega, by omega, Lib.hid ⟨by rw [Nat.pow_succ] at h2; omega, ?_⟩, rfl⟩
          rw [← h3]
          simp only [bitsR, if_neg h0]
          omega
end
end Go.Proofs.Ytkajknicgabdkaa

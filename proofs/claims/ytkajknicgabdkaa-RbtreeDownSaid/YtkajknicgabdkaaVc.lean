/-
  Walks of the document's Find and Same.
-/
import Derived.Test.YtkajknicgabdkaaVb
namespace Go.Proofs.Ytkajknicgabdkaa
open Go.RowKit
attribute [local go_sem high] eqCut eqSpan eqSeg
section
variable {w : World} {b : Nat} {R : Ending → World → Prop}
/-- A slice that owns a row of segments. -/
def SRow (W : World) (b : Nat) (v : Value) (L : List Seg) : Prop := W.ownsRow b 36 5 v L.length (L.flatMap Seg.enc)
theorem SRow.below {W W' : World} {v : Value} {L : List Seg} (h : SRow W b v L) (hb : Below W.heap.size W W') : SRow W' b v L := owns_fr (S := fun _ => False) h (Fr.of_below hb) (fun _ _ => id)
theorem SRow.cells {W : World} {L : List Seg} {g n cap : Nat} (h : SRow W b (.slice (some ⟨g, 0, none⟩) n cap) L) {i : Nat} {s : Seg} (hi : L[i]? = some s) :
    W.cell? ⟨g, i * 5, none⟩ = some (.int .i64 s.ls) ∧ W.cell? ⟨g, i * 5 + 1, none⟩ = some (.int .i64 s.la) ∧ W.cell? ⟨g, i * 5 + 2, none⟩ = some (.int .i64 s.hs) ∧ W.cell? ⟨g, i * 5 + 3, none⟩ = some (.int .i64 s.ha) ∧ W.cell? ⟨g, i * 5 + 4, none⟩ = some (.int .i64 s.v) := by
  have hlt : i < L.length := (List.getElem?_eq_some_iff.1 hi).1
  have hn : n = L.length := by
    rcases owns_slice h with ⟨A, c, e, -⟩
    exact (Value.slice.inj e).2.1
  subst hn
  have key : ∀ k, k < 5 → W.cell? ⟨g, i * 5 + k, none⟩ = s.enc[k]? := fun k hk => by
    rw [World.ownsRow.cellAt h _ (by omega), flat_get Seg.enc_length _ _ _ hk, hi]; rfl
  exact ⟨key 0 (by decide), key 1 (by decide), key 2 (by decide), key 3 (by decide), key 4 (by decide)⟩
def findR (c : K) : List Seg → Int → Int
  | [], _ => -1
  | s :: L, i => if s.ls == (canon c).1 && s.la == (canon c).2 then i else findR c L (i + 1)
theorem findR_cons (c : K) (s : Seg) (L : List Seg) (i : Int) : findR c (s :: L) i = if s.ls == (canon c).1 && s.la == (canon c).2 then i else findR c L (i + 1) := rfl
set_option maxHeartbeats 2000000 in
set_option maxRecDepth 100000 in
theorem RFind_k {v : Value} {L : List Seg} (s a : Int) (hr : SRow w b v L) (hn : L.length ≤ 65536) (hk : ∀ w', Below w.heap.size w w' → R (.returned (.int .i64 (findR (s, a) L 0))) w') :
    Calls Try.prog 31 #[v, .agg #[.int .i64 s, .int .i64 a]] w R := by
  have HK := Lib.hid hk
  clear hk
  obtain ⟨A, cap, hv, -⟩ := owns_slice hr
  subst hv
  have bx : (w.alloc (.cells #[.int .i64 s, .int .i64 a] 32)).heap[w.heap.size]? = _ := heap_alloc_new _ _
  go_enter Try.func31, Try.ntmps31
  go_wp2_with fail
  go_loopg [5] L.length (fun q v5 wr => ∃ (pre rest : List Seg), v5 = .int .i64 (pre.length : Nat) ∧ q = rest.length ∧ L = pre ++ rest ∧ findR (s, a) rest (pre.length : Nat) = findR (s, a) L 0 ∧ Below w.heap.size w wr ∧ wr.heap[w.heap.size]? = some (.cells #[.int .i64 s, .int .i64 a] 32 (0, 0)))
  case atStart => exact ⟨[], L, rfl, rfl, rfl, rfl, (Below.refl _ _).alloc (Nat.le_refl _) _, bx⟩
  case round =>
    obtain ⟨pre, rest, rfl, hq, hL, hF, hB, hbx⟩ := hrel
    have hr1 := SRow.below hr hB
    have hLl : L.length = pre.length + rest.length := by rw [hL]; simp
    cases rest with
    | nil =>
      have hlt : ¬ ((pre.length : Int) < (L.length : Int)) := by simp at hLl; omega
      have hlt2 : ¬ (pre.length < L.length) := by omega
      have hF' := Lib.hid hF
      clear hF hL hLl
      go_wp2
      have e : findR (s, a) L 0 = -1 := hF'.out.symm
      rw [e] at HK
      exact HK.out _ hB
    | cons x rest =>
      have hlt : ((pre.length : Int) < (L.length : Int)) := by simp at hLl; omega
      have hlt2 : pre.length < L.length := by simp at hLl; omega
      have hi : L[pre.length]? = some x := by rw [hL]; simp
      obtain ⟨g, cap', hg1, hg2, -, -⟩ := owns_form hr1 (by omega)
      obtain ⟨rfl, -, -⟩ := Value.slice.inj hg2
      obtain ⟨y0, y1, y2, y3, y4⟩ := hr1.cells hi
      have z0 : wr.cell? ⟨w.heap.size, 0, none⟩ = some (.int .i64 s) := by simp [World.cell?, hbx]
      have z1 : wr.cell? ⟨w.heap.size, 1, none⟩ = some (.int .i64 a) := by simp [World.cell?, hbx]
      have hgl : g < wr.heap.size := World.block_lt_of_cell? _ _ y0
      have hbl : w.heap.size < wr.heap.size := lt_of_heap hbx
      have hL' := Lib.hid hL
      have hF' := Lib.hid hF
      clear hL hF hLl hi
      go_wp2_with fail
      refine wp_region_qb (by kernel_rfl) (by kernel_rfl) ?_
      repeat (first | (with_reducible refine wpQuiet_step (fun K hK => ?_); go_simp; first | (with_reducible refine hK _ ?_; clear hK K) | (apply Exists.intro; with_reducible refine ⟨fun W hW => ?_, hK _ ?_⟩; (first | (first | (go_at_call 30; refine RKey_k x (fun w1 hb => ⟨rfl, ?_⟩); exact hW.trans (hb.mono hW.size)) | (go_at_call 29; refine RCanon_k _ _ (fun w1 hb => ⟨rfl, ?_⟩); exact hW.trans (hb.mono hW.size))) | ((try obtain ⟨hc, hf⟩ := bcell hW); (try go_simp); first | done | exact ⟨rfl, rfl⟩ | rfl)); clear hK K)) | (with_reducible refine wpQ_skip (by with_unfolding_all rfl) ?_))
      refine wpQuiet_nil ?_
      intro w2 hb2
      have hB2 := hB.trans (hb2.mono hB.size)
      have hbx2 := (hb2.block _ (lt_of_heap hbx)).trans hbx
      have hF2 := hF'.out
      rw [findR_cons] at hF2
      cases hc : (x.ls == (canon (s, a)).1 && x.la == (canon (s, a)).2)
      · rw [hc] at hF2
        have hF3 := Lib.hid hF2
        clear hF2 hF' hc y0 y1 y2 y3 y4 z0 z1
        go_wp2
        go_roundg rest.length
        case measure => rw [hq]; simp
        case rel => exact ⟨pre ++ [x], rest, by simp, rfl, by rw [hL'.out]; simp, by have := hF3.out; simpa using this, hB2, hbx2⟩
      · rw [hc] at hF2
        have e : findR (s, a) L 0 = (pre.length : Nat) := by rw [← hF2]; rfl
        rw [e] at HK
        clear hF2 hF' hc y0 y1 y2 y3 y4 z0 z1 e
        go_wp2
        exact HK.out _ hB2

set_option maxHeartbeats 2000000 in
set_option maxRecDepth 100000 in
theorem Same_k {b1 : Nat} {v v1 : Value} {L : List Seg} (hr : SRow w b v L) (hr1 : SRow w b1 v1 L) (hn : L.length ≤ 65536) (hk : ∀ w', Below w.heap.size w w' → R (.returned (.bool true)) w') :
    Calls Try.prog 15 #[v, v1] w R := by
  have HK := Lib.hid hk
  clear hk
  obtain ⟨A, cap, hv, -⟩ := owns_slice hr
  obtain ⟨A1, cap1, hv1, -⟩ := owns_slice hr1
  subst hv hv1
  go_enter Try.func15, Try.ntmps15
  go_wp2_with fail
  go_loopg [5] L.length (fun q v5 wr => ∃ (i : Nat), v5 = .int .i64 i ∧ q = L.length - i ∧ i ≤ L.length ∧ Below w.heap.size w wr)
  case atStart => exact ⟨0, rfl, by simp, by simp, Below.refl _ _⟩
  case round =>
    obtain ⟨i, rfl, hq, hi, hB⟩ := hrel
    have hra := SRow.below hr hB
    have hrb := SRow.below hr1 hB
    by_cases hlt : i < L.length
    · have hx := List.getElem?_eq_getElem hlt
      generalize L[i] = x at hx
      obtain ⟨g, cap', hg1, hg2, -, -⟩ := owns_form hra (by omega)
      obtain ⟨rfl, -, -⟩ := Value.slice.inj hg2
      obtain ⟨g', cap'', hg3, hg4, -, -⟩ := owns_form hrb (by omega)
      obtain ⟨rfl, -, -⟩ := Value.slice.inj hg4
      obtain ⟨y0, y1, y2, y3, y4⟩ := hra.cells hx
      obtain ⟨z0, z1, z2, z3, z4⟩ := hrb.cells hx
      have hgl : g < wr.heap.size := World.block_lt_of_cell? _ _ y0
      have hgl' : g' < wr.heap.size := World.block_lt_of_cell? _ _ z0
      clear hx
      go_wp2_with fail
      refine wp_region_qb (by kernel_rfl) (by kernel_rfl) ?_
      repeat (first | (with_reducible refine wpQuiet_step (fun K hK => ?_); go_simp; first | (with_reducible refine hK _ ?_; clear hK K) | (apply Exists.intro; with_reducible refine ⟨fun W hW => ?_, hK _ ?_⟩; (first | fail | ((try obtain ⟨hc, hf⟩ := bcell hW); (try go_simp); first | done | exact ⟨rfl, rfl⟩ | rfl)); clear hK K)) | (with_reducible refine wpQ_skip (by with_unfolding_all rfl) ?_))
      refine wpQuiet_nil ?_
      intro w2 hb2
      go_wp2
      go_roundg (L.length - (i + 1))
      case measure => omega
      case rel => exact ⟨i + 1, by simp, rfl, by omega, hB.trans (hb2.mono hB.size)⟩
    · go_wp2
      exact HK.out _ hB
end
end Go.Proofs.Ytkajknicgabdkaa

/-
  Walk of the document's Put.
-/
import Derived.Test.YtkajknicgabdkaaVc
import Derived.Test.YtkajknicgabdkaaWh
import Derived.Deep.AppendLies
import Derived.Deep.DeepCutAuto
namespace Go.Proofs.Ytkajknicgabdkaa
open Go.RowKit
attribute [local go_sem high] eqCut eqSpan eqSeg
section
variable {w : World} {b : Nat} {R : Ending → World → Prop}
/-- The document's test of a key that is put. -/
def goodR (c : K) : Bool := ((canon c).1 == c.1 && (canon c).2 == c.2) && !(decide (0 < c.1))
def insR (s : Seg) : List Seg → List Seg
  | [] => [s]
  | x :: r => if lessK (s.ls, s.la) (x.ls, x.la) then s :: x :: r else x :: insR s r
def putR (room : Int) (s : Seg) (L : List Seg) : List Seg × Int :=
  if goodR (s.ls, s.la) = false then (L, 1)
  else if 0 ≤ findR (s.ls, s.la) L 0 then (L.set (findR (s.ls, s.la) L 0).toNat s, 0)
  else if room ≤ L.length then (L, 50) else (insR s L, 0)
set_option maxHeartbeats 1000000 in
theorem RPut_bad {v : Value} {room : Int} {s : Seg} (hc : goodR (s.ls, s.la) = false) (hk : ∀ w', Below w.heap.size w w' → R (.returned (.tuple #[v, .int .i64 1])) w') :
    Calls Try.prog 9 #[v, .int .i64 room, .agg #[.int .i64 s.ls, .int .i64 s.la, .int .i64 s.hs, .int .i64 s.ha, .int .i64 s.v]] w R := by
  cases h1 : ((canon (s.ls, s.la)).1 == s.ls && (canon (s.ls, s.la)).2 == s.la)
  · clear hc
    have HK := Lib.hid hk
    clear hk
    have fld : ∀ w, (Instr.field 32 (.agg #[.int .i64 s.ls, .int .i64 s.la]) 0).run Try.prog w = .ok (.int .i64 s.ls) w := fun _ => by kernel_rfl
    have bx : (w.alloc (.cells #[.int .i64 s.ls, .int .i64 s.la, .int .i64 s.hs, .int .i64 s.ha, .int .i64 s.v] 36)).heap[w.heap.size]? = _ := heap_alloc_new _ _
    go_enter Try.func9, Try.ntmps9
    go_wp2_with fail
    refine wp_region_qb (by kernel_rfl) (by kernel_rfl) ?_
    repeat (first | (with_reducible refine wpQuiet_step (fun K hK => ?_); go_simp; first | (with_reducible refine hK _ ?_; clear hK K) | (apply Exists.intro; with_reducible refine ⟨fun W hW => ?_, hK _ ?_⟩; (first | (first | (go_at_call 30; refine RKey_k s (fun w1 hb => ⟨rfl, ?_⟩); exact bstep hW hb (by simp)) | (go_at_call 29; refine RCanon_k _ _ (fun w1 hb => ⟨rfl, ?_⟩); exact bstep hW hb (by simp))) | ((try obtain ⟨hc, hf⟩ := bcell hW); (try go_simp); first | done | exact ⟨rfl, rfl⟩ | rfl)); clear hK K)) | (with_reducible refine wpQ_skip (by with_unfolding_all rfl) ?_))
    refine wpQuiet_nil ?_
    intro w1 hb
    have b1 := (hb.block _ (by simp)).trans bx
    have hB1 : Below w.heap.size w w1 := ((Below.refl _ _).alloc (Nat.le_refl _) _).trans (hb.mono (by simp))
    clear hb bx
    go_wp2
    exact HK.out _ hB1
  · have h2 : decide (0 < s.ls) = true := by
      unfold goodR at hc
      simp only at hc
      rw [h1] at hc
      simpa using hc
    have h3 : 0 < s.ls := of_decide_eq_true h2
    clear hc h2
    have HK := Lib.hid hk
    clear hk
    have fld : ∀ w, (Instr.field 32 (.agg #[.int .i64 s.ls, .int .i64 s.la]) 0).run Try.prog w = .ok (.int .i64 s.ls) w := fun _ => by kernel_rfl
    have bx : (w.alloc (.cells #[.int .i64 s.ls, .int .i64 s.la, .int .i64 s.hs, .int .i64 s.ha, .int .i64 s.v] 36)).heap[w.heap.size]? = _ := heap_alloc_new _ _
    go_enter Try.func9, Try.ntmps9
    go_wp2_with fail
    refine wp_region_qb (by kernel_rfl) (by kernel_rfl) ?_
    repeat (first | (with_reducible refine wpQuiet_step (fun K hK => ?_); go_simp; first | (with_reducible refine hK _ ?_; clear hK K) | (apply Exists.intro; with_reducible refine ⟨fun W hW => ?_, hK _ ?_⟩; (first | (first | (go_at_call 30; refine RKey_k s (fun w1 hb => ⟨rfl, ?_⟩); exact bstep hW hb (by simp)) | (go_at_call 29; refine RCanon_k _ _ (fun w1 hb => ⟨rfl, ?_⟩); exact bstep hW hb (by simp))) | ((try obtain ⟨hc, hf⟩ := bcell hW); (try go_simp); first | done | exact ⟨rfl, rfl⟩ | rfl)); clear hK K)) | (with_reducible refine wpQ_skip (by with_unfolding_all rfl) ?_))
    refine wpQuiet_nil ?_
    intro w1 hb
    have b1 := (hb.block _ (by simp)).trans bx
    have hB1 : Below w.heap.size w w1 := ((Below.refl _ _).alloc (Nat.le_refl _) _).trans (hb.mono (by simp))
    clear hb bx
    go_wp2
    exact HK.out _ hB1

theorem ownsRow_empty {W : World} {b g : Nat} (h : W.heap[g]? = some (.cells #[] 36 (0, 0))) (hb : b ≤ g) : W.ownsRow b 36 5 (.slice (some ⟨g, 0, none⟩) 0 0) 0 [] :=
  ⟨by simp, .inr ⟨g, 0, #[], rfl, hb, h, Nat.le_refl _, Nat.zero_le _, by simp, by simp⟩⟩
theorem goodR_parts {c : K} (hc : goodR c = true) : ((canon c).1 == c.1 && (canon c).2 == c.2) = true ∧ decide (0 < c.1) = false := by
  unfold goodR at hc
  rw [Bool.and_eq_true] at hc
  exact ⟨hc.1, by have := hc.2; revert this; cases (decide (0 < c.1)) <;> simp⟩
set_option maxHeartbeats 2000000 in
set_option maxRecDepth 100000 in
theorem RPut_full {v : Value} {L : List Seg} {room : Int} {s : Seg} (hr : SRow w b v L) (hn : L.length ≤ 65536) (hc : goodR (s.ls, s.la) = true) (hf : findR (s.ls, s.la) L 0 = -1) (hroom : room ≤ L.length)
    (hk : ∀ w', Below w.heap.size w w' → R (.returned (.tuple #[v, .int .i64 50])) w') :
    Calls Try.prog 9 #[v, .int .i64 room, .agg #[.int .i64 s.ls, .int .i64 s.la, .int .i64 s.hs, .int .i64 s.ha, .int .i64 s.v]] w R := by
  obtain ⟨A, cap, hv, -⟩ := owns_slice hr
  subst hv
  obtain ⟨hr0, hl0⟩ := goodR_parts hc
  simp only at hr0 hl0
  have hl1 : ¬ (0 < s.ls) := of_decide_eq_false hl0
  clear hc hl0
  have HK := Lib.hid hk
  clear hk
  have fld : ∀ w, (Instr.field 32 (.agg #[.int .i64 s.ls, .int .i64 s.la]) 0).run Try.prog w = .ok (.int .i64 s.ls) w := fun _ => by kernel_rfl
  have bx : (w.alloc (.cells #[.int .i64 s.ls, .int .i64 s.la, .int .i64 s.hs, .int .i64 s.ha, .int .i64 s.v] 36)).heap[w.heap.size]? = _ := heap_alloc_new _ _
  go_enter Try.func9, Try.ntmps9
  go_wp2_with fail
  refine wp_region_qb (by kernel_rfl) (by kernel_rfl) ?_
  repeat (first | (with_reducible refine wpQuiet_step (fun K hK => ?_); go_simp; first | (with_reducible refine hK _ ?_; clear hK K) | (apply Exists.intro; with_reducible refine ⟨fun W hW => ?_, hK _ ?_⟩; (first | (first | (go_at_call 30; refine RKey_k s (fun w1 hb => ⟨rfl, ?_⟩); exact bstep hW hb (by simp)) | (go_at_call 29; refine RCanon_k _ _ (fun w1 hb => ⟨rfl, ?_⟩); exact bstep hW hb (by simp))) | ((try obtain ⟨hc, hf⟩ := bcell hW); (try go_simp); first | done | exact ⟨rfl, rfl⟩ | rfl)); clear hK K)) | (with_reducible refine wpQ_skip (by with_unfolding_all rfl) ?_))
  refine wpQuiet_nil ?_
  intro w1 hb
  have b1 := (hb.block _ (by simp)).trans bx
  have hB1 : Below w.heap.size w w1 := ((Below.refl _ _).alloc (Nat.le_refl _) _).trans (hb.mono (by simp))
  clear hb bx
  have hR1 := SRow.below hr hB1
  have e0 : w1.cell? ⟨w.heap.size, 0, none⟩ = some (.int .i64 s.ls) := by simp [World.cell?, b1]
  have e1 : w1.cell? ⟨w.heap.size, 1, none⟩ = some (.int .i64 s.la) := by simp [World.cell?, b1]
  have e2 : w1.cell? ⟨w.heap.size, 2, none⟩ = some (.int .i64 s.hs) := by simp [World.cell?, b1]
  have e3 : w1.cell? ⟨w.heap.size, 3, none⟩ = some (.int .i64 s.ha) := by simp [World.cell?, b1]
  have e4 : w1.cell? ⟨w.heap.size, 4, none⟩ = some (.int .i64 s.v) := by simp [World.cell?, b1]
  have hlw := lt_of_heap b1
  go_upto_region 4 with (first | (go_at_call 30; refine RKey_k s (fun w2 hb2 => ?_); have b2 := (hb2.block _ (lt_of_heap b1)).trans b1; have HB2 := Lib.hid (hB1.trans (hb2.mono hB1.size)); clear hb2) | (go_at_call 31; refine RFind_k _ _ (SRow.below hr HB2.out) hn (fun w3 hb3 => ?_); have b3 := (hb3.block _ (lt_of_heap b2)).trans b2; have HB3 := Lib.hid (HB2.out.trans (hb3.mono HB2.out.size)); clear hb3))
  have hR3 := SRow.below hr HB3.out
  clear e0 e1 e2 e3 e4 hlw hR1 HB2 b2 b1 hB1
  have hrm : decide (room ≤ (L.length : Int)) = true := decide_eq_true hroom
  go_wp2
  exact HK.out _ HB3.out
end
end Go.Proofs.Ytkajknicgabdkaa

/-
  A quiet region that draws its order, inside a round of a range over a function.
-/
import Derived.Test.YtkajknicgabdkaaQt
import Derived.OrdersIn
import Derived.RangeFuncCalls
namespace Go.Proofs.Ytkajknicgabdkaa
open Go.RowKit
section
variable {P : Program} {ops : Array Oper} {C : World → Prop} {l n : Nat}
def noDefer (l : List Oper) : Bool := l.all fun o => match o.op with | .defer _ => false | _ => true
theorem noDefer_of {l : List Oper} (h : noDefer l = true) {o : Oper} (ho : o ∈ l) : ∀ c, o.op ≠ .defer c := by
  intro c e
  have := List.all_eq_true.1 h o ho
  rw [e] at this; cases this
theorem wpIn_of_quietR {o : Oper} {a : Act} {K : Act → Prop} {K' : Act → World → Prop} {Q' : Exit → Act → World → Prop} {w : World} (hd : ∀ c, o.op ≠ .defer c) (hw : C w) (h : ∀ a w', C w' → K a → K' a w') (hh : o.quiet P a C K) :
    o.wpIn (Fence.wide.inRound l) n P a w K' Q' := by
  obtain ⟨v, h1, h2⟩ := hh
  have h3 := h1 w hw
  unfold Oper.quietAt at h3
  unfold Oper.wpIn
  refine ⟨fun _ _ => trivial, ?_⟩
  rw [Oper.semAt_eq _ _ _ hd]
  generalize (execOp a.eval o).run P w = r at *
  cases r with
  | ok x w' =>
    cases x <;> simp only [Oper.quietUpon] at h3 <;> simp only [Oper.uponIn]
    case value u =>
      obtain ⟨e1, e2⟩ := h3
      rw [e1, e2]
      exact h _ _ hw h2
    case skip =>
      obtain ⟨e1, e2⟩ := h3
      rw [e1, ← e2]
      exact h _ _ hw h2
    case enter f args =>
      obtain ⟨e1, hc⟩ := h3
      rw [e1]
      exact ⟨fun h => by simp [Fence.inRound, Fence.wide] at h, CallsIn.inRound l (callsIn_wide.2 (hc.mono fun e w'' ⟨he, hw''⟩ => by subst he; exact h _ _ hw'' h2))⟩
  | halt x w' => simp only [Oper.quietUpon] at h3
theorem wpAnyIn_of_quietR {Q : Act → Prop} {Q' : Exit → Act → World → Prop} (hnd : noDefer ops.toList = true) (hQ : ∀ a w, C w → Q a → Q' .normal a w) : ∀ (fuel : Nat) (listed : Array Bool) (a : Act) (w : World), C w →
    wpAnyQ P .any ops C Q fuel listed a → wpAnyIn (Fence.wide.inRound l) n P .any ops Q' fuel listed a w
  | 0, _, _, _, hw, h => ⟨h.1, hQ _ _ hw h.2⟩
  | fuel + 1, listed, a, w, hw, h => ⟨fun h0 => hQ _ _ hw (h.1 h0), fun i hi => by
    have hh := h.2 i hi
    unfold qOp at hh
    unfold wpOpIn
    split
    · rename_i ho; simp only [ho] at hh; exact wpAnyIn_of_quietR hnd hQ fuel _ _ _ hw hh
    · rename_i o ho
      simp only [ho] at hh
      split
      · rename_i hw2; simp only [hw2, if_true] at hh
        exact wpIn_of_quietR (noDefer_of hnd (by have := Array.mem_of_getElem? ho; simpa using this)) hw (fun a' w' hw' h' => wpAnyIn_of_quietR hnd hQ fuel _ a' w' hw' h') hh
      · rename_i hw2; simp only [hw2] at hh; exact ⟨fun _ _ => trivial, wpAnyIn_of_quietR hnd hQ fuel _ _ _ hw hh⟩⟩
theorem wpIn_region_qbr {id : Nat} {Q : Exit → Act → World → Prop} {a : Act} {w : World} {lo : List Oper} (hm : P.follows .mixedOrders = true) (hB : Region.lexB .any lo.toArray = true) (hnd : noDefer lo = true)
    (h : wpQuiet P lo.toArray (fun w' => w' = w.drew) (fun a' => Q .normal a' w.drew) lo a) : (Code.region id lo.toArray true).wpIn (Fence.wide.inRound l) n P Q a w := by
  simp only [Region.lexB, Bool.and_eq_true] at hB
  refine wpIn_region_any hm (wpAnyIn_of_quietR (C := fun w' => w' = w.drew) (Q := fun a' => Q .normal a' w.drew) (by simpa using hnd) (fun a w' hw' h => by rw [hw']; exact h) _ _ _ _ rfl ?_)
  have := wpAnyQ_lex (C := fun w' => w' = w.drew) (md := .any) hB.1 lo.toArray.toList 0 (Array.replicate lo.toArray.size false) a (by simp) (by simpa using hB.2) (by simpa using h)
  simpa using this
end
end Go.Proofs.Ytkajknicgabdkaa

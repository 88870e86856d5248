/-
  A slice of calls that came in, opened to its cells.
-/
import Derived.Test.YtkajknicgabdkaaRb
import Derived.Deep.Slices
import Derived.Deep.Fields
import Derived.ChangeSame
namespace Go.Proofs.Ytkajknicgabdkaa
open Go.ChangeShapes Go.WideShapes Go.Deep
section
variable {H : Type} {enc : TypeId × Value → H} {w : World} {base : Nat} {spare : Nat → Bool} {held : Bool}
theorem c_int : Try.prog.cellsOf 3 = 1 := by kernel_rfl
theorem c_int64 : Try.prog.cellsOf 2 = 1 := by kernel_rfl
theorem c_cut : Try.prog.cellsOf 32 = 2 := by kernel_rfl
theorem c_span : Try.prog.cellsOf 34 = 4 := by kernel_rfl
theorem c_seg : Try.prog.cellsOf 36 = 5 := by kernel_rfl
theorem c_op : Try.prog.cellsOf 47 = 6 := by kernel_rfl
theorem two_of {α : Type} {l : List α} {a b : α} (hl : l.length = 2) (h0 : (l.drop 0).take 1 = [a]) (h1 : (l.drop 1).take 1 = [b]) : l = [a, b] := by
  match l, hl with
  | [x, y], _ => simp at h0 h1; subst h0 h1; rfl
theorem join_of {α : Type} {l a b : List α} {n m : Nat} (hl : l.length = n + m) (h0 : (l.drop 0).take n = a) (h1 : (l.drop n).take m = b) : l = a ++ b := by
  subst h0 h1
  rw [List.drop_zero, List.take_of_length_le (l := l.drop n) (by simp; omega), List.take_append_drop]
theorem trod_cut {fuel : Nat} {cs : List Value} {x : DataW H × List MemPlace} (h : DataW.trod enc Try.prog w base spare held fuel 32 cs = some x) : ∃ a b : Int, cs = [.int .i64 a, .int .i64 b] := by
  obtain ⟨xs, n, -, -, hl, hx, hf⟩ := DataW.trod_struct Try.underlying32 h
  have h0 := hf 0 _ rfl
  have h1 := hf 1 _ rfl
  change DataW.trod enc Try.prog w base spare held n 3 ((cs.drop 0).take (Try.prog.cellsOf 3)) = _ at h0
  change DataW.trod enc Try.prog w base spare held n 2 ((cs.drop 1).take (Try.prog.cellsOf 2)) = _ at h1
  rw [c_int] at h0
  rw [c_int64] at h1
  match xs, hx with
  | [y0, y1], _ =>
    obtain ⟨a, e0, -⟩ := DataW.trod_int Try.underlying3 h0
    obtain ⟨b, e1, -⟩ := DataW.trod_int Try.underlying2 h1
    exact ⟨a, b, two_of (hl.trans c_cut) e0 e1⟩
theorem trod_span {fuel : Nat} {cs : List Value} {x : DataW H × List MemPlace} (h : DataW.trod enc Try.prog w base spare held fuel 34 cs = some x) : ∃ a b c d : Int, cs = [.int .i64 a, .int .i64 b, .int .i64 c, .int .i64 d] := by
  obtain ⟨xs, n, -, -, hl, hx, hf⟩ := DataW.trod_struct Try.underlying34 h
  have h0 := hf 0 _ rfl
  have h1 := hf 1 _ rfl
  change DataW.trod enc Try.prog w base spare held n 32 ((cs.drop 0).take (Try.prog.cellsOf 32)) = _ at h0
  change DataW.trod enc Try.prog w base spare held n 32 ((cs.drop 2).take (Try.prog.cellsOf 32)) = _ at h1
  rw [c_cut] at h0
  rw [c_cut] at h1
  match xs, hx with
  | [y0, y1], _ =>
    obtain ⟨a, b, e0⟩ := trod_cut h0
    obtain ⟨c, d, e1⟩ := trod_cut h1
    have hl' : cs.length = 4 := hl.trans c_span
    exact ⟨a, b, c, d, join_of (n := 2) (m := 2) hl' e0 e1⟩
theorem trod_seg {fuel : Nat} {cs : List Value} {x : DataW H × List MemPlace} (h : DataW.trod enc Try.prog w base spare held fuel 36 cs = some x) : ∃ s : Seg, cs = s.enc := by
  obtain ⟨xs, n, -, -, hl, hx, hf⟩ := DataW.trod_struct Try.underlying36 h
  have h0 := hf 0 _ rfl
  have h1 := hf 1 _ rfl
  change DataW.trod enc Try.prog w base spare held n 34 ((cs.drop 0).take (Try.prog.cellsOf 34)) = _ at h0
  change DataW.trod enc Try.prog w base spare held n 2 ((cs.drop 4).take (Try.prog.cellsOf 2)) = _ at h1
  rw [c_span] at h0
  rw [c_int64] at h1
  match xs, hx with
  | [y0, y1], _ =>
    obtain ⟨a, b, c, d, e0⟩ := trod_span h0
    obtain ⟨v, e1, -⟩ := DataW.trod_int Try.underlying2 h1
    have hl' : cs.length = 5 := hl.trans c_seg
    exact ⟨⟨a, b, c, d, v⟩, join_of (n := 4) (m := 1) hl' e0 e1⟩
def Opn.cells (o : Opn) : List Value := .int .i64 o.kind :: o.s.enc
theorem trod_op {fuel : Nat} {cs : List Value} {x : DataW H × List MemPlace} (h : DataW.trod enc Try.prog w base spare held fuel 47 cs = some x) : ∃ o : Opn, cs = o.cells := by
  obtain ⟨xs, n, -, -, hl, hx, hf⟩ := DataW.trod_struct Try.underlying47 h
  have h0 := hf 0 _ rfl
  have h1 := hf 1 _ rfl
  change DataW.trod enc Try.prog w base spare held n 3 ((cs.drop 0).take (Try.prog.cellsOf 3)) = _ at h0
  change DataW.trod enc Try.prog w base spare held n 36 ((cs.drop 1).take (Try.prog.cellsOf 36)) = _ at h1
  rw [c_int] at h0
  rw [c_seg] at h1
  match xs, hx with
  | [y0, y1], _ =>
    obtain ⟨k, e0, -⟩ := DataW.trod_int Try.underlying3 h0
    obtain ⟨s, e1⟩ := trod_seg h1
    have hl' : cs.length = 6 := hl.trans c_op
    exact ⟨⟨k, s⟩, join_of (n := 1) (m := 5) hl' e0 e1⟩
theorem open_ops {fuel : Nat} {cs : List Value} {x : DataW H × List MemPlace} (h : DataW.trod enc Try.prog w base spare held fuel 45 cs = some x) :
    ∃ (A : Option Addr) (cap : Nat) (os : List Opn), cs = [.slice A os.length cap] ∧ OpRow w A os := by
  rcases open_slice Try.underlying45 h with ⟨rfl, -⟩ | ⟨a, len, cap, m, n, D, Pl, rfl, hb, hl, hm, hmm, -, hi⟩
  · exact ⟨none, 0, [], rfl, fun h => absurd rfl h⟩
  · have hml : len ≤ m := by rw [hmm]; split <;> omega
    have key : ∀ i, i < len → ∃ o : Opn, ∀ k, k < 6 → w.cell? (a.add (i * 6 + k)) = o.cells[k]? := by
      intro i hil
      obtain ⟨cs', h1, h2⟩ := hi i (by omega)
      obtain ⟨o, rfl⟩ := trod_op h2
      rw [c_op] at h1
      obtain ⟨-, -, h3⟩ := World.cells?_some h1
      exact ⟨o, fun k hk => by rw [← Addr.add_add]; exact h3 k hk⟩
    have hall : ∃ os : List Opn, os.length = len ∧ ∀ i o, os[i]? = some o → ∀ k, k < 6 → w.cell? (a.add (i * 6 + k)) = o.cells[k]? := by
      clear hi hmm hml hl h
      induction len with
      | zero => exact ⟨[], rfl, fun i o h => by simp at h⟩
      | succ len ih =>
        obtain ⟨os, h1, h2⟩ := ih (fun i hi => key i (by omega))
        obtain ⟨o, ho⟩ := key len (by omega)
        refine ⟨os ++ [o], by simp [h1], fun i o' hio => ?_⟩
        rw [List.getElem?_append] at hio
        split at hio
        · exact h2 i o' hio
        · rename_i hlt
          have hi0 : i - os.length = 0 := by
            have := (List.getElem?_eq_some_iff.1 hio).1; simp at this; omega
          have : i = len := by omega
          subst this
          rw [hi0] at hio
          simp at hio
          subst hio
          exact ho
    obtain ⟨os, h1, h2⟩ := hall
    refine ⟨some a, cap, os, by rw [h1], fun hne => ?_⟩
    have hp : 0 < os.length := List.length_pos_iff.2 hne
    have hc0 := h2 0 _ (List.getElem?_eq_getElem hp) 0 (by decide)
    obtain ⟨b, off, spot⟩ := a
    have hspot : spot = none := by
      have : w.cell? ((⟨b, off, spot⟩ : Addr).add 0) = some (.int .i64 (os[0]).kind) := hc0
      simpa [Addr.add] using World.cell?_spot this
    subst hspot
    refine ⟨b, off, rfl, fun j o hj => ?_⟩
    have h3 := h2 j o hj
    have h4 : ∀ k, k < 6 → w.cell? ⟨b, off + j * 6 + k, none⟩ = o.cells[k]? := fun k hk => by
      have := h3 k hk
      rw [Go.WideShapes.add_plain] at this
      rw [show off + j * 6 + k = off + (j * 6 + k) by omega]
      exact this
    exact ⟨h4 0 (by decide), h4 1 (by decide), h4 2 (by decide), h4 3 (by decide), h4 4 (by decide), h4 5 (by decide)⟩
end
end Go.Proofs.Ytkajknicgabdkaa

/-
  Whole elements stored into an owned row, and what a tree is then.
-/
import Derived.Test.YtkajknicgabdkaaMem
import Derived.ArgAppend
namespace Go.Proofs.Ytkajknicgabdkaa
open Go.RowKit
section
variable {w w' : World} {b : Nat}

def splice (xs : List Value) (o : Nat) : List Value → List Value
  | [] => xs
  | v :: vs => splice (xs.set o v) (o + 1) vs
theorem splice_length (vs : List Value) : ∀ (xs : List Value) (o : Nat), (splice xs o vs).length = xs.length := by
  induction vs with
  | nil => intro xs o; rfl
  | cons v vs ih => intro xs o; rw [splice, ih, List.length_set]
theorem splice_get (vs : List Value) : ∀ (xs : List Value) (o j : Nat), o + vs.length ≤ xs.length → (splice xs o vs)[j]? = if o ≤ j ∧ j < o + vs.length then vs[j - o]? else xs[j]? := by
  induction vs with
  | nil => intro xs o j _; rw [splice, if_neg (by simp only [List.length_nil]; omega)]
  | cons v vs ih =>
    intro xs o j hl
    simp only [List.length_cons] at hl
    rw [splice, ih _ _ _ (by rw [List.length_set]; omega)]
    by_cases h1 : o + 1 ≤ j ∧ j < o + 1 + vs.length
    · rw [if_pos h1, if_pos (by simp only [List.length_cons]; omega)]
      have : j - o = (j - (o + 1)) + 1 := by omega
      rw [this, List.getElem?_cons_succ]
    · rw [if_neg h1]
      by_cases h2 : j = o
      · subst h2
        rw [if_pos (by simp only [List.length_cons]; omega), List.getElem?_set_self (by omega)]; simp
      · rw [if_neg (by simp only [List.length_cons]; omega), List.getElem?_set_ne (by omega)]
/-- The values one behind the other. -/
def putAll (w : World) (g o : Nat) : List Value → World
  | [] => w
  | v :: vs => putAll (w.setCell ⟨g, o, none⟩ v) g (o + 1) vs
theorem owns_putAll {e : TypeId} {s g n cap : Nat} (vs : List Value) : ∀ (w : World) (xs : List Value) (o : Nat), w.ownsRow b e s (.slice (some ⟨g, 0, none⟩) n cap) n xs →
    (putAll w g o vs).ownsRow b e s (.slice (some ⟨g, 0, none⟩) n cap) n (splice xs o vs) := by
  induction vs with
  | nil => intro w xs o h; exact h
  | cons v vs ih => intro w xs o h; exact ih _ _ _ (h.stored o v).1
theorem putAll_fr {S : Nat → Prop} {g : Nat} (hS : S g) (vs : List Value) : ∀ (w : World) (o : Nat), Fr S w (putAll w g o vs) := by
  induction vs with
  | nil => intro w o; exact Fr.refl _ _
  | cons v vs ih => intro w o; exact (Fr.setCell w ⟨g, o, none⟩ v hS).trans (ih _ _)
theorem splice_flat {α : Type} {enc : α → List Value} {k : Nat} (hk : ∀ x, (enc x).length = k) (l : List α) (i o : Nat) (x y : α) (vs : List Value) (hi : l[i]? = some x) (ho : o + vs.length ≤ k)
    (hy : ∀ j, j < k → (enc y)[j]? = if o ≤ j ∧ j < o + vs.length then vs[j - o]? else (enc x)[j]?) : splice (l.flatMap enc) (i * k + o) vs = (l.set i y).flatMap enc := by
  have hil : i < l.length := (List.getElem?_eq_some_iff.1 hi).1
  have hlen : i * k + k ≤ l.length * k := by
    have : (i + 1) * k ≤ l.length * k := Nat.mul_le_mul_right k hil
    rw [Nat.add_mul] at this; omega
  rcases Nat.eq_zero_or_pos k with rfl | hk0
  · have h0 : vs = [] := List.eq_nil_of_length_eq_zero (by omega)
    subst h0
    have e1 : (l.flatMap enc).length = 0 := by rw [flat_length hk]; omega
    have e2 : ((l.set i y).flatMap enc).length = 0 := by rw [flat_length hk]; omega
    rw [splice, List.eq_nil_of_length_eq_zero e1, List.eq_nil_of_length_eq_zero e2]
  apply List.ext_getElem?
  intro j
  rw [splice_get _ _ _ _ (by rw [flat_length hk]; omega)]
  by_cases hj : j < l.length * k
  · have hdm : j / k * k + j % k = j := by rw [Nat.mul_comm]; exact Nat.div_add_mod j k
    have hm : j % k < k := Nat.mod_lt _ hk0
    have e1 : ((l.set i y).flatMap enc)[j]? = (l.set i y)[j / k]?.bind fun x => (enc x)[j % k]? := by
      conv => lhs; rw [← hdm]
      exact flat_get hk _ _ _ hm
    have e2 : (l.flatMap enc)[j]? = l[j / k]?.bind fun x => (enc x)[j % k]? := by
      conv => lhs; rw [← hdm]
      exact flat_get hk _ _ _ hm
    rw [e1, e2]
    by_cases hq : i = j / k
    · have hq' : i * k = j / k * k := by rw [hq]
      rw [← hq, List.getElem?_set_self hil, hi]
      simp only [Option.bind_some]
      rw [hy _ hm]
      by_cases hc : o ≤ j % k ∧ j % k < o + vs.length
      · rw [if_pos (by omega), if_pos hc]
        congr 1; omega
      · rw [if_neg (by omega), if_neg hc]
    · rw [List.getElem?_set_ne hq, if_neg]
      intro hc
      apply hq
      have h1 : i * k ≤ j := by omega
      have h2 : j < (i + 1) * k := by rw [Nat.add_mul]; omega
      have := Nat.div_lt_of_lt_mul (by rw [Nat.mul_comm] at h2; exact h2)
      have := (Nat.le_div_iff_mul_le hk0).2 h1
      omega
  · rw [if_neg (by omega), List.getElem?_eq_none (l := (l.set i y).flatMap enc) (by rw [flat_length hk, List.length_set]; omega), List.getElem?_eq_none (l := l.flatMap enc) (by rw [flat_length hk]; omega)]

variable {h : Han} {T : TS}
/-- A whole element, or a part of it, is stored. -/
theorem Tree.st_part (H : Tree w b h T) {i : Nat} (hi : i < T.ps.length) (o : Nat) (vs : List Value) (ho : o + vs.length ≤ 10) (y : Place)
    (hy : ∀ j, j < 10 → y.enc[j]? = if o ≤ j ∧ j < o + vs.length then vs[j - o]? else (T.pl i).enc[j]?) :
    Tree (putAll w h.g (i * 10 + o) vs) b h { T with ps := T.ps.set i y } ∧ Fr h.inn w (putAll w h.g (i * 10 + o) vs) := by
  obtain ⟨g, cap, hg1, hg2, -, -⟩ := owns_form H.hl (by omega)
  have hg : h.g = g := by simp [Han.g, hg1]
  have hin : h.inn h.g := .inr (by rw [hg]; exact hg1)
  have hf := putAll_fr (S := fun k => k = h.g) rfl vs w (i * 10 + o)
  refine ⟨{ H with ht := ?_, ha := ?_, hl := ?_, hf := ?_, ln := by simpa using H.ln, fn := by simpa using H.fn }, putAll_fr hin vs w _⟩
  · rw [hf.block _ (lt_of_heap H.ht) (fun e => H.tl (by rw [e, hg]; exact hg1))]; exact H.ht
  · rw [hf.block _ (lt_of_heap H.ha) (fun e => H.al (by rw [e, hg]; exact hg1))]; exact H.ha
  · have hl := H.hl
    rw [hg2, ← hg] at hl ⊢
    have := owns_putAll vs w _ (i * 10 + o) hl
    rw [splice_flat Place.enc_length T.ps i o (T.pl i) y vs (by simp [TS.pl, List.getD_eq_getElem?_getD, hi]) ho hy] at this
    simpa using this
  · exact owns_fr H.hf hf (fun k hk e => H.lf k (by rw [e, hg]; exact hg1) hk)
theorem Tree.st_seg (H : Tree w b h T) {i : Int} (hi : T.ok i) (s : Seg) :
    Tree (putAll w h.g (i.toNat * 10) s.enc) b h (T.setSeg i s) ∧ Fr h.inn w (putAll w h.g (i.toNat * 10) s.enc) := by
  have hlt : i.toNat < T.ps.length := by have := hi.1; have := hi.2.1; omega
  have hp : T.pl (i.toNat : Int) = T.pl i := by have := hi.1; rw [Int.toNat_of_nonneg this]
  have := H.st_part hlt 0 s.enc (by decide : 0 + 5 ≤ 10) { T.pl i with n := { T.nd i with s := s } } (fun j hj => by
    rw [hp]
    match j, hj with
    | 0, _ => rfl
    | 1, _ => rfl
    | 2, _ => rfl
    | 3, _ => rfl
    | 4, _ => rfl
    | 5, _ => rfl
    | 6, _ => rfl
    | 7, _ => rfl
    | 8, _ => rfl
    | 9, _ => rfl)
  exact this
theorem Tree.st_place (H : Tree w b h T) {i : Nat} (hi : i < T.ps.length) (p : Place) :
    Tree (putAll w h.g (i * 10) p.enc) b h { T with ps := T.ps.set i p } ∧ Fr h.inn w (putAll w h.g (i * 10) p.enc) :=
  H.st_part hi 0 p.enc (by decide : 0 + 10 ≤ 10) p (fun j hj => by rw [if_pos ⟨Nat.zero_le _, by rw [Place.enc_length]; omega⟩]; rfl)
/-- All cells of a place, used or not. -/
theorem Tree.c_all (H : Tree w b h T) {i : Int} (h0 : 0 ≤ i) (h1 : i < T.ps.length) {g : Nat} (hg : h.g = g) :
    w.cell? ⟨g, i.toNat * 10, none⟩ = some (.int .i64 (T.pl i).n.s.ls) ∧
    w.cell? ⟨g, i.toNat * 10 + 1, none⟩ = some (.int .i64 (T.pl i).n.s.la) ∧
    w.cell? ⟨g, i.toNat * 10 + 2, none⟩ = some (.int .i64 (T.pl i).n.s.hs) ∧
    w.cell? ⟨g, i.toNat * 10 + 3, none⟩ = some (.int .i64 (T.pl i).n.s.ha) ∧
    w.cell? ⟨g, i.toNat * 10 + 4, none⟩ = some (.int .i64 (T.pl i).n.s.v) ∧
    w.cell? ⟨g, i.toNat * 10 + 5, none⟩ = some (.int .i64 (T.pl i).n.l) ∧
    w.cell? ⟨g, i.toNat * 10 + 6, none⟩ = some (.int .i64 (T.pl i).n.r) ∧
    w.cell? ⟨g, i.toNat * 10 + 7, none⟩ = some (.int .i64 (T.pl i).n.p) ∧
    w.cell? ⟨g, i.toNat * 10 + 8, none⟩ = some (.bool (T.pl i).n.red) ∧
    w.cell? ⟨g, i.toNat * 10 + 9, none⟩ = some (.bool (T.pl i).used) := by
  obtain ⟨g', cap, hg1, hg2, -, -⟩ := owns_form H.hl (by omega)
  have hgg : h.g = g' := by simp [Han.g, hg1]
  have hl := H.hl
  rw [hg2] at hl
  have hlt : i.toNat < T.ps.length := by omega
  have key : ∀ k, k < 10 → w.cell? ⟨g, i.toNat * 10 + k, none⟩ = (T.pl i).enc[k]? := fun k hk => by
    rw [← hg, hgg, hl.cellAt _ (by omega), flat_get Place.enc_length _ _ _ hk]
    simp [TS.pl, List.getD_eq_getElem?_getD, List.getElem?_eq_getElem hlt]
  exact ⟨key 0 (by decide), key 1 (by decide), key 2 (by decide), key 3 (by decide), key 4 (by decide), key 5 (by decide), key 6 (by decide), key 7 (by decide), key 8 (by decide), key 9 (by decide)⟩
theorem Tree.f_all (H : Tree w b h T) (hp : 0 < T.ps.length) {g : Nat} (hg : h.g = g) (k : Nat) : w.frozen? ⟨g, k, none⟩ = false := by
  obtain ⟨g', cap, hg1, hg2, -, -⟩ := owns_form H.hl hp
  have hgg : h.g = g' := by simp [Han.g, hg1]
  have hl := H.hl
  rw [hg2] at hl
  rw [← hg, hgg]
  exact hl.frozenAt k
end
end Go.Proofs.Ytkajknicgabdkaa

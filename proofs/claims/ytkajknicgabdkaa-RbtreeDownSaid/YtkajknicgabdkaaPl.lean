/-
  Plain data of the proofs about bocage/rbtree and the document's layer 6: segments, nodes, places of an arena, the state of a tree; no Go in it.
-/
import Derived.WalkKit
namespace Go.Proofs.Ytkajknicgabdkaa

structure Seg where
  (ls la hs ha v : Int)
  deriving DecidableEq
structure Node where
  (s : Seg) (l r p : Int) (red : Bool)
structure Place where
  (n : Node) (used : Bool)
structure TS where
  (room root : Int) (ps : List Place) (free : List Int)

def Seg.zero : Seg := ⟨0, 0, 0, 0, 0⟩
def Node.zero : Node := ⟨Seg.zero, 0, 0, 0, false⟩
def Place.zero : Place := ⟨Node.zero, false⟩

/-- The place of a number; what is not there: zero. -/
def TS.pl (T : TS) (i : Int) : Place := T.ps.getD i.toNat Place.zero
def TS.nd (T : TS) (i : Int) : Node := (T.pl i).n
/-- A node stands there. -/
def TS.ok (T : TS) (i : Int) : Prop := 0 ≤ i ∧ i < T.ps.length ∧ (T.pl i).used = true
def TS.upd (T : TS) (i : Int) (f : Node → Node) : TS := { T with ps := T.ps.set i.toNat { T.pl i with n := f (T.nd i) } }
def TS.setL (T : TS) (i j : Int) : TS := T.upd i fun n => { n with l := j }
def TS.setR (T : TS) (i j : Int) : TS := T.upd i fun n => { n with r := j }
def TS.setP (T : TS) (i j : Int) : TS := T.upd i fun n => { n with p := j }
def TS.setRed (T : TS) (i : Int) (b : Bool) : TS := T.upd i fun n => { n with red := b }
def TS.setSeg (T : TS) (i : Int) (s : Seg) : TS := T.upd i fun n => { n with s := s }
def TS.setK (T : TS) (i : Int) (side : Bool) (j : Int) : TS := match side with | true => T.setR i j | false => T.setL i j
def TS.kid (T : TS) (i : Int) (side : Bool) : Int := match side with | true => (T.nd i).r | false => (T.nd i).l
def TS.isRed (T : TS) (i : Int) : Bool := i != -1 && (T.nd i).red

theorem TS.len_upd (T : TS) (i : Int) (f : Node → Node) : (T.upd i f).ps.length = T.ps.length := by simp [TS.upd]
theorem TS.pl_same {T : TS} {i : Int} {f : Node → Node} (h : T.ok i) : (T.upd i f).pl i = { T.pl i with n := f (T.nd i) } := by
  obtain ⟨h0, h1, _⟩ := h
  have : i.toNat < T.ps.length := by omega
  simp [TS.pl, TS.upd, List.getD_eq_getElem?_getD, this]
theorem TS.pl_other {T : TS} {i j : Int} {f : Node → Node} (h : 0 ≤ i) (hj : 0 ≤ j) (hij : i ≠ j) : (T.upd i f).pl j = T.pl j := by
  have : i.toNat ≠ j.toNat := by omega
  simp [TS.pl, TS.upd, List.getD_eq_getElem?_getD, List.getElem?_set_ne this]
theorem TS.nd_same {T : TS} {i : Int} {f : Node → Node} (h : T.ok i) : (T.upd i f).nd i = f (T.nd i) := by
  simp [TS.nd, TS.pl_same h]
theorem TS.nd_other {T : TS} {i j : Int} {f : Node → Node} (h : 0 ≤ i) (hj : 0 ≤ j) (hij : i ≠ j) : (T.upd i f).nd j = T.nd j := by
  simp [TS.nd, TS.pl_other h hj hij]
theorem TS.ok_upd {T : TS} {i j : Int} {f : Node → Node} (hi : T.ok i) : (T.upd i f).ok j ↔ T.ok j := by
  unfold TS.ok
  rw [TS.len_upd]
  by_cases hij : i = j
  · subst hij; rw [TS.pl_same hi]
  · by_cases hj : 0 ≤ j
    · rw [TS.pl_other hi.1 hj hij]
    · simp [hj]

def Place.enc (p : Place) : List Value :=
  [.int .i64 p.n.s.ls, .int .i64 p.n.s.la, .int .i64 p.n.s.hs, .int .i64 p.n.s.ha, .int .i64 p.n.s.v, .int .i64 p.n.l, .int .i64 p.n.r, .int .i64 p.n.p, .bool p.n.red, .bool p.used]
theorem Place.enc_length (p : Place) : p.enc.length = 10 := rfl
def Seg.enc (s : Seg) : List Value := [.int .i64 s.ls, .int .i64 s.la, .int .i64 s.hs, .int .i64 s.ha, .int .i64 s.v]
theorem Seg.enc_length (s : Seg) : s.enc.length = 5 := rfl

section rows
variable {α : Type} {enc : α → List Value} {k : Nat}
theorem flat_length (hk : ∀ x, (enc x).length = k) (l : List α) : (l.flatMap enc).length = l.length * k := by
  induction l with
  | nil => simp
  | cons x r ih => rw [List.flatMap_cons, List.length_append, hk, ih, List.length_cons, Nat.add_mul]; omega
theorem flat_get (hk : ∀ x, (enc x).length = k) (l : List α) (i j : Nat) (hj : j < k) : (l.flatMap enc)[i * k + j]? = l[i]?.bind fun x => (enc x)[j]? := by
  induction l generalizing i with
  | nil => simp
  | cons x r ih =>
    rw [List.flatMap_cons]
    cases i with
    | zero => rw [List.getElem?_append_left (by rw [hk]; omega)]; simp
    | succ i =>
      rw [List.getElem?_append_right (by rw [hk, Nat.add_mul]; omega), hk]
      have : (i + 1) * k + j - k = i * k + j := by rw [Nat.add_mul]; omega
      rw [this, ih]; simp
theorem flat_set (hk : ∀ x, (enc x).length = k) (l : List α) (i j : Nat) (hj : j < k) (x y : α) (v : Value) (hx : l[i]? = some x) (hy : (enc x).set j v = enc y) :
    (l.flatMap enc).set (i * k + j) v = (l.set i y).flatMap enc := by
  induction l generalizing i with
  | nil => simp at hx
  | cons z r ih =>
    rw [List.flatMap_cons]
    cases i with
    | zero =>
      simp at hx; subst hx
      rw [Nat.zero_mul, Nat.zero_add, List.set_append_left _ _ (by rw [hk]; exact hj), hy]; simp
    | succ i =>
      have e : (i + 1) * k + j - (enc z).length = i * k + j := by rw [hk, Nat.add_mul]; omega
      rw [List.set_append_right _ _ (by rw [hk, Nat.add_mul]; omega), e, ih i (by simpa using hx)]; simp
end rows
end Go.Proofs.Ytkajknicgabdkaa

/-
  Plain: a tree of numbers, the way down to a place of it (a zipper), and what it says that a state shows a tree.
-/
import Derived.Test.YtkajknicgabdkaaW4
namespace Go.Proofs.Ytkajknicgabdkaa

inductive Tr where
  | nil
  | node (i : Int) (c : Bool) (s : Seg) (l r : Tr)
namespace Tr
def idx : Tr → Int | nil => -1 | node i _ _ _ _ => i
def red : Tr → Bool | nil => false | node _ c _ _ _ => c
def ids : Tr → List Int | nil => [] | node i _ _ l r => i :: (l.ids ++ r.ids)
def inord : Tr → List Seg | nil => [] | node _ _ s l r => l.inord ++ s :: r.inord
def tab (p : Int) : Tr → List (Int × Node) | nil => [] | node i c s l r => (i, ⟨s, l.idx, r.idx, p, c⟩) :: (l.tab i ++ r.tab i)
/-- t stands on side d. -/
def mk (d : Bool) (i : Int) (c : Bool) (s : Seg) (t o : Tr) : Tr := match d with | true => node i c s o t | false => node i c s t o
theorem tab_ids (t : Tr) (p : Int) : (t.tab p).map (·.1) = t.ids := by
  induction t generalizing p with
  | nil => rfl
  | node i c s l r h1 h2 => simp [tab, ids, h1, h2]
theorem mem_tab {t : Tr} {p : Int} {e : Int × Node} (h : e ∈ t.tab p) : e.1 ∈ t.ids := by rw [← tab_ids t p]; exact List.mem_map_of_mem h
@[simp] theorem idx_mk (d : Bool) (i : Int) (c : Bool) (s : Seg) (t o : Tr) : (mk d i c s t o).idx = i := by cases d <;> rfl
@[simp] theorem red_mk (d : Bool) (i : Int) (c : Bool) (s : Seg) (t o : Tr) : (mk d i c s t o).red = c := by cases d <;> rfl
end Tr
structure Frm where
  (d : Bool) (i : Int) (c : Bool) (s : Seg) (o : Tr)
def par : List Frm → Int | [] => -1 | f :: _ => f.i
def nodeD (d : Bool) (s : Seg) (k o p : Int) (c : Bool) : Node := match d with | true => ⟨s, o, k, p, c⟩ | false => ⟨s, k, o, p, c⟩
def ctab : List Frm → Int → List (Int × Node)
  | [], _ => []
  | f :: π, k => (f.i, nodeD f.d f.s k f.o.idx (par π) f.c) :: (f.o.tab f.i ++ ctab π f.i)
def cids : List Frm → List Int
  | [] => []
  | f :: π => f.i :: (f.o.ids ++ cids π)
def top : List Frm → Int → Int
  | [], k => k
  | f :: π, _ => top π f.i
def plug : List Frm → Tr → Tr
  | [], t => t
  | f :: π, t => plug π (Tr.mk f.d f.i f.c f.s t f.o)
/-- What stands before a place, and behind it. -/
def cbef : List Frm → List Seg
  | [] => []
  | f :: π => match f.d with | true => cbef π ++ (f.o.inord ++ [f.s]) | false => cbef π
def caft : List Frm → List Seg
  | [] => []
  | f :: π => match f.d with | true => caft π | false => f.s :: (f.o.inord ++ caft π)
theorem ctab_ids (π : List Frm) (k : Int) : (ctab π k).map (·.1) = cids π := by
  induction π generalizing k with
  | nil => rfl
  | cons f π ih => simp [ctab, cids, ih, Tr.tab_ids]
theorem mem_ctab {π : List Frm} {k : Int} {e : Int × Node} (h : e ∈ ctab π k) : e.1 ∈ cids π := by rw [← ctab_ids π k]; exact List.mem_map_of_mem h
theorem inord_plug (π : List Frm) (t : Tr) : (plug π t).inord = cbef π ++ t.inord ++ caft π := by
  induction π generalizing t with
  | nil => simp [plug, cbef, caft]
  | cons f π ih =>
    rw [plug, ih]
    obtain ⟨d, i, c, s, o⟩ := f
    cases d <;> simp [Tr.mk, Tr.inord, cbef, caft]

/-- A state shows a tree, seen from a place of it. -/
structure Z (T : TS) (π : List Frm) (t : Tr) : Prop where
  root : T.root = top π t.idx
  cen : ∀ e ∈ ctab π t.idx, T.ok e.1 ∧ T.nd e.1 = e.2
  ent : ∀ e ∈ t.tab (par π), T.ok e.1 ∧ T.nd e.1 = e.2
  nodup : (cids π ++ t.ids).Nodup

theorem mem_mk {d : Bool} {i p : Int} {c : Bool} {s : Seg} {t o : Tr} {e : Int × Node} :
    e ∈ (Tr.mk d i c s t o).tab p ↔ e = (i, nodeD d s t.idx o.idx p c) ∨ e ∈ t.tab i ∨ e ∈ o.tab i := by
  cases d <;> simp [Tr.mk, Tr.tab, nodeD] <;> grind
theorem ids_mk (d : Bool) (i : Int) (c : Bool) (s : Seg) (t o : Tr) : (Tr.mk d i c s t o).ids.Perm (i :: (t.ids ++ o.ids)) := by
  cases d <;> simp [Tr.mk, Tr.ids]
  exact List.perm_append_comm
theorem Z.up {T : TS} {f : Frm} {π : List Frm} {t : Tr} : Z T (f :: π) t ↔ Z T π (Tr.mk f.d f.i f.c f.s t f.o) := by
  have hp : (cids (f :: π) ++ t.ids).Perm (cids π ++ (Tr.mk f.d f.i f.c f.s t f.o).ids) := by
    refine List.Perm.trans ?_ ((List.Perm.refl _).append (ids_mk _ _ _ _ _ _).symm)
    rw [List.perm_iff_count]
    intro a
    simp [cids, List.count_append, List.count_cons]
    omega
  constructor
  · rintro ⟨h1, h2, h3, h4⟩
    refine ⟨by rw [Tr.idx_mk]; exact h1, ?_, ?_, hp.nodup_iff.1 h4⟩
    · intro e he
      rw [Tr.idx_mk] at he
      exact h2 e (by simp [ctab, he])
    · intro e he
      rcases mem_mk.1 he with rfl | he | he
      · exact h2 _ (by simp [ctab])
      · exact h3 e he
      · exact h2 e (by simp [ctab, he])
  · rintro ⟨h1, h2, h3, h4⟩
    refine ⟨by rw [Tr.idx_mk] at h1; exact h1, ?_, ?_, hp.nodup_iff.2 h4⟩
    · intro e he
      simp only [ctab, List.mem_cons, List.mem_append] at he
      rw [Tr.idx_mk] at h2
      rcases he with rfl | he | he
      · exact h3 _ (mem_mk.2 (.inl rfl))
      · exact h3 _ (mem_mk.2 (.inr (.inr he)))
      · exact h2 _ he
    · intro e he
      exact h3 e (mem_mk.2 (.inr (.inl he)))
theorem Z.plug {T : TS} {π : List Frm} {t : Tr} : Z T π t ↔ Z T [] (plug π t) := by
  induction π generalizing t with
  | nil => exact Iff.rfl
  | cons f π ih => rw [Z.up]; exact ih

theorem TS.nd_upd {T : TS} {i j : Int} {f : Node → Node} (hi : T.ok i) (hj : 0 ≤ j) : (T.upd i f).nd j = if j = i then f (T.nd i) else T.nd j := by
  by_cases h : j = i
  · subst h; rw [if_pos rfl, TS.nd_same hi]
  · rw [if_neg h, TS.nd_other hi.1 hj (fun e => h e.symm)]

section
variable {T : TS} {π : List Frm} {t l r : Tr} {i : Int} {c : Bool} {s : Seg}
theorem Z.at (h : Z T π (.node i c s l r)) : T.ok i ∧ T.nd i = ⟨s, l.idx, r.idx, par π, c⟩ := h.ent (i, _) (by simp [Tr.tab])
theorem Z.ok_par (h : Z T π t) : par π = -1 ∨ T.ok (par π) := by
  cases π with
  | nil => exact .inl rfl
  | cons f π => exact .inr (h.cen (f.i, _) (List.mem_cons_self ..)).1
theorem Z.ok_idx (h : Z T π t) : t.idx = -1 ∨ T.ok t.idx := by
  cases t with
  | nil => exact .inl rfl
  | node => exact .inr h.at.1
theorem Z.red_idx (h : Z T π t) : T.isRed t.idx = t.red := by
  cases t with
  | nil => simp [TS.isRed, Tr.idx, Tr.red]
  | node i c s l r =>
    have := h.at
    have hn : (i != -1) = true := by have := this.1.1; rw [bne_iff_ne]; omega
    simp [TS.isRed, Tr.idx, Tr.red, this.2, hn]
theorem Z.dl (h : Z T π (.node i c s l r)) : Z T (⟨false, i, c, s, r⟩ :: π) l := Z.up.2 h
theorem Z.dr (h : Z T π (.node i c s l r)) : Z T (⟨true, i, c, s, l⟩ :: π) r := Z.up.2 h
theorem Z.dn {d : Bool} {t o : Tr} (h : Z T π (Tr.mk d i c s t o)) : Z T (⟨d, i, c, s, o⟩ :: π) t := Z.up.2 h
theorem mk_flip (d : Bool) (i : Int) (c : Bool) (s : Seg) (t o : Tr) : Tr.mk d i c s t o = Tr.mk (!d) i c s o t := by cases d <;> rfl
theorem Z.dn' {d : Bool} {t o : Tr} (h : Z T π (Tr.mk d i c s t o)) : Z T (⟨!d, i, c, s, t⟩ :: π) o := Z.up.2 (by rw [mk_flip] at h; exact h)
theorem Z.atD {d : Bool} {t o : Tr} (h : Z T π (Tr.mk d i c s t o)) : T.ok i ∧ T.nd i = nodeD d s t.idx o.idx (par π) c := h.ent (i, _) (mem_mk.2 (.inl rfl))

/-- The focus is changed in its segment or its colour. -/
theorem Z.upd (h : Z T π (.node i c s l r)) {f : Node → Node} {c' : Bool} {s' : Seg} (hf : f ⟨s, l.idx, r.idx, par π, c⟩ = ⟨s', l.idx, r.idx, par π, c'⟩) : Z (T.upd i f) π (.node i c' s' l r) := by
  obtain ⟨hi, hn⟩ := h.at
  have hnd := h.nodup
  simp only [Tr.ids] at hnd
  have key : ∀ e : Int × Node, T.ok e.1 ∧ T.nd e.1 = e.2 → e.1 ≠ i → (T.upd i f).ok e.1 ∧ (T.upd i f).nd e.1 = e.2 := fun e he hne =>
    ⟨(TS.ok_upd hi).2 he.1, by rw [TS.nd_other hi.1 he.1.1 (fun x => hne x.symm)]; exact he.2⟩
  refine ⟨h.root, ?_, ?_, h.nodup⟩
  · intro e he
    exact key e (h.cen e he) (by have := mem_ctab he; grind)
  · intro e he
    simp only [Tr.tab, List.mem_cons, List.mem_append] at he
    rcases he with rfl | he | he
    · exact ⟨(TS.ok_upd hi).2 hi, by simp only; rw [TS.nd_same hi, hn, hf]⟩
    · exact key e (h.ent e (by simp [Tr.tab, he])) (by have := Tr.mem_tab he; grind)
    · exact key e (h.ent e (by simp [Tr.tab, he])) (by have := Tr.mem_tab he; grind)
theorem Z.setRed (h : Z T π (.node i c s l r)) (c' : Bool) : Z (T.setRed i c') π (.node i c' s l r) := h.upd rfl
theorem Z.setSeg (h : Z T π (.node i c s l r)) (s' : Seg) : Z (T.setSeg i s') π (.node i c s' l r) := h.upd rfl
theorem Z.setRedD {d : Bool} {t o : Tr} (h : Z T π (Tr.mk d i c s t o)) (c' : Bool) : Z (T.setRed i c') π (Tr.mk d i c' s t o) := by
  cases d
  · exact Z.setRed (l := t) (r := o) h c'
  · exact Z.setRed (l := o) (r := t) h c'
/-- The parent of the focus. -/
theorem Z.setRedP {f : Frm} (h : Z T (f :: π) t) (c' : Bool) : Z (T.setRed f.i c') ({ f with c := c' } :: π) t := Z.up.2 ((Z.up.1 h).setRedD c')
theorem Z.par_at {f : Frm} (h : Z T (f :: π) t) : T.ok f.i ∧ T.nd f.i = nodeD f.d f.s t.idx f.o.idx (par π) f.c := h.cen (f.i, _) (List.mem_cons_self ..)
theorem Z.side {f : Frm} (h : Z T (f :: π) t) (ht : t.idx = -1 → f.o.idx ≠ -1 ∨ f.d = false) : sideT T t.idx f.i = f.d := by
  have h1 := h.par_at
  obtain ⟨d, j, c, s, o⟩ := f
  cases d
  · simp [sideT, h1.2, nodeD]
  · simp only [sideT, h1.2, nodeD]
    rw [bne_iff_ne]
    intro e
    have e : o.idx = t.idx := e
    by_cases ht1 : t.idx = -1
    · rcases ht ht1 with h2 | h2
      · exact h2 (e.trans ht1)
      · cases h2
    · have hnd := h.nodup
      cases t with
      | nil => exact ht1 rfl
      | node i' c' s' l' r' =>
        cases o with
        | nil => simp only [Tr.idx] at e ht1; omega
        | node i2 c2 s2 l2 r2 =>
          simp only [Tr.idx] at e
          subst e
          simp [cids, Tr.ids] at hnd
end
end Go.Proofs.Ytkajknicgabdkaa

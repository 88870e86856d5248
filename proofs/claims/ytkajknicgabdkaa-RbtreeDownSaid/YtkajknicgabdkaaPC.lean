/-
  Plain: red-black trees; rise mends a red node below a red one.
-/
import Derived.Test.YtkajknicgabdkaaPB
namespace Go.Proofs.Ytkajknicgabdkaa

/-- Black height; no red one below a red one. -/
inductive Bal : Tr → Nat → Prop
  | nil : Bal .nil 0
  | red {n : Nat} {i : Int} {s : Seg} {l r : Tr} (hl : Bal l n) (hr : Bal r n) (cl : l.red = false) (cr : r.red = false) : Bal (.node i true s l r) n
  | black {n : Nat} {i : Int} {s : Seg} {l r : Tr} (hl : Bal l n) (hr : Bal r n) : Bal (.node i false s l r) (n + 1)
def cred : List Frm → Bool
  | [] => false
  | f :: _ => f.c
inductive BalC : List Frm → Nat → Prop
  | nil {n : Nat} : BalC [] n
  | red {n : Nat} {f : Frm} {π : List Frm} (hc : f.c = true) (ho : Bal f.o n) (co : f.o.red = false) (hn : π ≠ []) (hb : cred π = false) (rest : BalC π n) : BalC (f :: π) n
  | black {n : Nat} {f : Frm} {π : List Frm} (hc : f.c = false) (ho : Bal f.o n) (rest : BalC π (n + 1)) : BalC (f :: π) n
theorem Bal.mkr {d : Bool} {n : Nat} {i : Int} {s : Seg} {l r : Tr} (hl : Bal l n) (hr : Bal r n) (cl : l.red = false) (cr : r.red = false) : Bal (Tr.mk d i true s l r) n := by
  cases d
  · exact .red hl hr cl cr
  · exact .red hr hl cr cl
theorem Bal.mkb {d : Bool} {n : Nat} {i : Int} {s : Seg} {l r : Tr} (hl : Bal l n) (hr : Bal r n) : Bal (Tr.mk d i false s l r) (n + 1) := by
  cases d
  · exact .black hl hr
  · exact .black hr hl
theorem Bal.unr {d : Bool} {n : Nat} {i : Int} {s : Seg} {l r : Tr} (h : Bal (Tr.mk d i true s l r) n) : Bal l n ∧ Bal r n ∧ l.red = false ∧ r.red = false := by
  cases d <;> cases h with | red a b c d => exact ⟨by assumption, by assumption, by assumption, by assumption⟩
theorem Bal.unb {d : Bool} {n : Nat} {i : Int} {s : Seg} {l r : Tr} (h : Bal (Tr.mk d i false s l r) n) : ∃ m, n = m + 1 ∧ Bal l m ∧ Bal r m := by
  cases d <;> cases h with | black a b => exact ⟨_, rfl, by assumption, by assumption⟩
theorem bal_plug {π : List Frm} {t : Tr} {n : Nat} (hc : BalC π n) (ht : Bal t n) (h : (π = [] ∨ cred π = true) → t.red = false) : (∃ m, Bal (plug π t) m) ∧ (plug π t).red = false := by
  induction hc generalizing t with
  | nil => exact ⟨⟨_, ht⟩, h (.inl rfl)⟩
  | @red n f π hc ho co hn hb rest ih =>
    rw [plug]
    refine ih ?_ (fun h1 => ?_)
    · rw [hc]; exact Bal.mkr ht ho (h (.inr hc)) co
    · rcases h1 with h1 | h1
      · exact absurd h1 hn
      · rw [hb] at h1; cases h1
  | @black n f π hc ho rest ih =>
    rw [plug]
    refine ih ?_ (fun _ => ?_)
    · rw [hc]; exact Bal.mkb ht ho
    · rw [Tr.red_mk]; exact hc
theorem bal_unplug {π : List Frm} {t : Tr} {m : Nat} (h : Bal (plug π t) m) (hr : (plug π t).red = false) : ∃ n, BalC π n ∧ Bal t n ∧ ((π = [] ∨ cred π = true) → t.red = false) := by
  induction π generalizing t with
  | nil => exact ⟨m, .nil, h, fun _ => hr⟩
  | cons f π ih =>
    obtain ⟨n, h1, h2, h3⟩ := ih h hr
    rw [Tr.red_mk] at h3
    obtain ⟨d, i, c, s, o⟩ := f
    cases c
    · obtain ⟨k, rfl, h4, h5⟩ := h2.unb
      exact ⟨k, .black rfl h5 h1, h4, fun h => by rcases h with h | h <;> cases h⟩
    · obtain ⟨h4, h5, h6, h7⟩ := h2.unr
      refine ⟨n, .red rfl h5 h7 (fun e => ?_) ?_ h1, h4, fun _ => h6⟩
      · have := h3 (.inl e); cases this
      · cases hc : cred π
        · rfl
        · have := h3 (.inr hc); cases this

/-- The arena's own data are the same. -/
structure Sm (T T' : TS) : Prop where
  room : T'.room = T.room
  len : T'.ps.length = T.ps.length
  free : T'.free = T.free
  used : ∀ j, (T'.pl j).used = (T.pl j).used
theorem Sm.refl (T : TS) : Sm T T := ⟨rfl, rfl, rfl, fun _ => rfl⟩
theorem Sm.trans {T T' T'' : TS} (h : Sm T T') (k : Sm T' T'') : Sm T T'' := ⟨k.room.trans h.room, k.len.trans h.len, k.free.trans h.free, fun j => (k.used j).trans (h.used j)⟩
theorem Sm.upd (T : TS) (i : Int) (f : Node → Node) : Sm T (T.upd i f) := by
  refine ⟨rfl, TS.len_upd _ _ _, rfl, fun j => ?_⟩
  simp only [TS.pl, TS.upd, List.getD_eq_getElem?_getD, List.getElem?_set]
  split
  · rename_i h
    split
    · simp [TS.nd, TS.pl, List.getD_eq_getElem?_getD, h]
    · rename_i h2
      rw [List.getElem?_eq_none (by omega)]
  · rfl
theorem Sm.root (T : TS) (i : Int) : Sm T { T with root := i } := ⟨rfl, rfl, rfl, fun _ => rfl⟩
theorem Sm.setRed (T : TS) (i : Int) (c : Bool) : Sm T (T.setRed i c) := Sm.upd _ _ _
theorem Sm.setK (T : TS) (i : Int) (d : Bool) (k : Int) : Sm T (T.setK i d k) := by rw [TS.setK_upd]; exact Sm.upd _ _ _
theorem Sm.setP (T : TS) (i : Int) (k : Int) : Sm T (T.setP i k) := Sm.upd _ _ _
theorem Sm.hang (T : TS) (i p old : Int) : Sm T (hangT T i p old) := by
  unfold hangT
  have h1 : Sm T (if p = -1 then { T with root := i } else T.setK p (sideT T old p) i : TS) := by
    split
    · exact Sm.root _ _
    · exact Sm.setK _ _ _ _
  simp only
  split
  · exact h1
  · exact h1.trans (Sm.setP _ _ _)
theorem Sm.rot (T : TS) (i : Int) (d : Bool) : Sm T (rotateT T i d) := by
  unfold rotateT
  have h1 := ((((Sm.hang T (T.kid i !d) (T.nd i).p i).trans (Sm.setK _ (T.kid i !d) d i)).trans (Sm.setP _ i (T.kid i !d))).trans (Sm.setK _ i (!d) (T.kid (T.kid i !d) d)))
  simp only
  split
  · exact h1
  · exact h1.trans (Sm.setP _ _ _)
theorem Sm.ok {T T' : TS} (h : Sm T T') (j : Int) : T'.ok j ↔ T.ok j := by unfold TS.ok; rw [h.len, h.used]

theorem ids_plug (π : List Frm) (t : Tr) : (plug π t).ids.Perm (cids π ++ t.ids) := by
  induction π generalizing t with
  | nil => exact List.Perm.refl _
  | cons f π ih =>
    rw [plug]
    refine (ih _).trans ((List.Perm.append (List.Perm.refl _) (ids_mk _ _ _ _ _ _)).trans ?_)
    rw [List.perm_iff_count]; intro x; simp [cids, List.count_append, List.count_cons]; omega
theorem count_mk (d : Bool) (i : Int) (c : Bool) (s : Seg) (t o : Tr) (a : Int) : (Tr.mk d i c s t o).ids.count a = t.ids.count a + o.ids.count a + (if (i == a) = true then 1 else 0) := by
  rw [(ids_mk d i c s t o).count_eq]; simp [List.count_cons, List.count_append]

/-- Behind a mending: a red-black tree, with such segments, at such places. -/
def Res (T : TS) (L : List Seg) (I : List Int) (T' : TS) : Prop :=
  ∃ t, Z T' [] t ∧ (∃ m, Bal t m) ∧ t.red = false ∧ t.inord = L ∧ t.ids.Perm I ∧ Sm T T'
theorem Res.from {T T1 T' : TS} {L L' : List Seg} {I I' : List Int} (h : Res T1 L I T') (hs : Sm T T1) (hL : L = L') (hI : I.Perm I') : Res T L' I' T' := by
  obtain ⟨t, h1, h2, h3, h4, h5, h6⟩ := h
  exact ⟨t, h1, h2, h3, h4.trans hL, h5.trans hI, hs.trans h6⟩
theorem Res.plug {T : TS} {π : List Frm} {t : Tr} {n : Nat} (h : Z T π t) (hc : BalC π n) (hb : Bal t n) (hr : (π = [] ∨ cred π = true) → t.red = false) : Res T (cbef π ++ t.inord ++ caft π) (cids π ++ t.ids) T := by
  obtain ⟨h1, h2⟩ := bal_plug hc hb hr
  exact ⟨_, Z.plug.1 h, h1, h2, inord_plug _ _, ids_plug _ _, Sm.refl _⟩

theorem red_par {T : TS} {π : List Frm} {t : Tr} (h : Z T π t) : T.isRed (par π) = cred π := by
  cases π with
  | nil => simp [par, cred, TS.isRed]
  | cons f π => have := (Z.up.1 h).red_idx; rwa [Tr.idx_mk, Tr.red_mk] at this
theorem ok_top {T : TS} {π : List Frm} {t : Tr} (h : Z T π t) (ht : T.ok t.idx) : T.ok T.root := by
  induction π generalizing t with
  | nil => rw [h.root]; exact ht
  | cons f π ih => exact ih (Z.up.1 h) (by rw [Tr.idx_mk]; exact h.par_at.1)
theorem par_of {T : TS} {π : List Frm} {d c : Bool} {i : Int} {s : Seg} {t o : Tr} (h : Z T π (Tr.mk d i c s t o)) : (T.nd i).p = par π := by
  rw [h.atD.2]; cases d <;> rfl

theorem rise_done {T : TS} {π : List Frm} {d : Bool} {i : Int} {s : Seg} {l r : Tr} {n : Nat} (h : Z T π (Tr.mk d i true s l r)) (hl : Bal l n) (hr : Bal r n) (cl : l.red = false) (cr : r.red = false)
    (hc : BalC π n) (hb : cred π = false) : ∃ T', Rise 0 T i T' ∧ Res T (cbef π ++ (Tr.mk d i true s l r).inord ++ caft π) (cids π ++ (Tr.mk d i true s l r).ids) T' := by
  have hi := h.atD.1
  have hpp := par_of h
  refine ⟨_, Rise.done hi hpp h.ok_par (by rw [red_par h]; exact hb) (ok_top h (by rw [Tr.idx_mk]; exact hi)), ?_⟩
  cases π with
  | nil =>
    have hr0 := h.root
    rw [Tr.idx_mk] at hr0
    have h2 := h.setRedD false
    rw [show T.root = i from hr0]
    refine (Res.plug h2 (n := n + 1) .nil (Bal.mkb hl hr) (fun _ => Tr.red_mk ..)).from (Sm.setRed _ _ _) ?_ ?_
    · cases d <;> rfl
    · cases d <;> exact List.Perm.refl _
  | cons f π =>
    have hp1 := bal_plug hc (Bal.mkr (d := d) (i := i) (s := s) hl hr cl cr) (fun h1 => by rcases h1 with h1 | h1 <;> simp_all)
    have hz := Z.plug.1 h
    generalize hq : Go.Proofs.Ytkajknicgabdkaa.plug (f :: π) (Tr.mk d i true s l r) = q at hp1 hz
    have e1 : q.inord = cbef (f :: π) ++ (Tr.mk d i true s l r).inord ++ caft (f :: π) := by rw [← hq]; exact inord_plug _ _
    have e2 : q.ids.Perm (cids (f :: π) ++ (Tr.mk d i true s l r).ids) := by rw [← hq]; exact ids_plug _ _
    cases q with
    | nil =>
      have := hz.root
      have h3 := ok_top h (by rw [Tr.idx_mk]; exact hi)
      rw [this] at h3
      have := h3.1
      simp [top, Tr.idx] at this
    | node i0 c0 s0 l0 r0 =>
      have hc0 : c0 = false := hp1.2
      subst hc0
      have hr0 : T.root = i0 := hz.root
      rw [hr0]
      exact ⟨_, hz.setRed false, hp1.1, hp1.2, e1, e2, Sm.setRed _ _ _⟩
end Go.Proofs.Ytkajknicgabdkaa

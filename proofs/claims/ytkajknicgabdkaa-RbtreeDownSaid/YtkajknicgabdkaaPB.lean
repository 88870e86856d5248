/-
  Plain: a rotation, as a tree is shown.
-/
import Derived.Test.YtkajknicgabdkaaPA
namespace Go.Proofs.Ytkajknicgabdkaa

def nk (d : Bool) (k : Int) (n : Node) : Node := match d with | true => { n with r := k } | false => { n with l := k }
theorem TS.setK_upd (T : TS) (i : Int) (d : Bool) (k : Int) : T.setK i d k = T.upd i (nk d k) := by cases d <;> rfl
theorem TS.nd_upd' {T : TS} {i j : Int} {f : Node → Node} (hi : T.ok i) (hj : 0 ≤ j) : (T.upd i f).nd j = if j = i then f (T.nd j) else T.nd j := by
  rw [TS.nd_upd hi hj]; split <;> simp_all
theorem TS.root_upd (T : TS) (i : Int) (f : Node → Node) : (T.upd i f).root = T.root := rfl

theorem rot_nd {T : TS} {i u p q : Int} {d x : Bool} (hi : T.ok i) (hu : T.ok u) (hp : p = -1 ∨ T.ok p) (hq : q = -1 ∨ T.ok q) (hup : T.kid i (!d) = u) (hin : T.kid u d = q) (hpp : (T.nd i).p = p) (hx : sideT T i p = x) :
    (∀ j, (rotateT T i d).ok j ↔ T.ok j) ∧ (rotateT T i d).root = (if p = -1 then u else T.root) ∧
    ∀ j, 0 ≤ j → (rotateT T i d).nd j = (fun n : Node => if j = q then { n with p := i } else n) ((fun n => if j = i then nk (!d) q { n with p := u } else n) ((fun n => if j = u then nk d i { n with p := p } else n) ((fun n => if j = p then nk x u n else n) (T.nd j)))) := by
  have hun : u ≠ -1 := by have := hu.1; omega
  have hrot : rotateT T i d = if q = -1 then (((((if p = -1 then { T with root := u } else T.upd p (nk x u) : TS).upd u (fun n => { n with p := p })).upd u (nk d i)).upd i (fun n => { n with p := u })).upd i (nk (!d) q))
      else (((((if p = -1 then { T with root := u } else T.upd p (nk x u) : TS).upd u (fun n => { n with p := p })).upd u (nk d i)).upd i (fun n => { n with p := u })).upd i (nk (!d) q)).upd q (fun n => { n with p := i }) := by
    simp only [rotateT, hangT, TS.setK_upd, hup, hin, hpp, hx, if_neg hun]
    rfl
  rw [hrot]
  clear hrot
  obtain ⟨T1, hT1⟩ : ∃ T1 : TS, T1 = if p = -1 then { T with root := u } else T.upd p (nk x u) := ⟨_, rfl⟩
  have ok1 : ∀ j, T1.ok j ↔ T.ok j := by
    intro j
    rw [hT1]
    rcases hp with rfl | hp
    · rfl
    · rw [if_neg (by have := hp.1; omega)]; exact TS.ok_upd hp
  have rt1 : T1.root = if p = -1 then u else T.root := by
    rw [hT1]; split <;> rfl
  have nd1 : ∀ j, 0 ≤ j → T1.nd j = (fun n => if j = p then nk x u n else n) (T.nd j) := by
    intro j hj
    rw [hT1]
    rcases hp with rfl | hp
    · rw [if_pos rfl]; simp only; exact (if_neg (show ¬ j = -1 by omega)).symm
    · rw [if_neg (by have := hp.1; omega), TS.nd_upd' hp hj]
  rw [← hT1]
  clear hT1
  have ok2 : ∀ j, (T1.upd u (fun n => { n with p := p })).ok j ↔ T.ok j := fun j => (TS.ok_upd ((ok1 u).2 hu)).trans (ok1 j)
  have ok3 : ∀ j, ((T1.upd u (fun n => { n with p := p })).upd u (nk d i)).ok j ↔ T.ok j := fun j => (TS.ok_upd ((ok2 u).2 hu)).trans (ok2 j)
  have ok4 : ∀ j, (((T1.upd u (fun n => { n with p := p })).upd u (nk d i)).upd i (fun n => { n with p := u })).ok j ↔ T.ok j := fun j => (TS.ok_upd ((ok3 i).2 hi)).trans (ok3 j)
  have ok5 : ∀ j, ((((T1.upd u (fun n => { n with p := p })).upd u (nk d i)).upd i (fun n => { n with p := u })).upd i (nk (!d) q)).ok j ↔ T.ok j := fun j => (TS.ok_upd ((ok4 i).2 hi)).trans (ok4 j)
  have nd5 : ∀ j, 0 ≤ j → ((((T1.upd u (fun n => { n with p := p })).upd u (nk d i)).upd i (fun n => { n with p := u })).upd i (nk (!d) q)).nd j = (fun n => if j = i then nk (!d) q { n with p := u } else n) ((fun n => if j = u then nk d i { n with p := p } else n) ((fun n => if j = p then nk x u n else n) (T.nd j))) := by
    intro j hj
    rw [TS.nd_upd' ((ok4 i).2 hi) hj, TS.nd_upd' ((ok3 i).2 hi) hj, TS.nd_upd' ((ok2 u).2 hu) hj, TS.nd_upd' ((ok1 u).2 hu) hj, nd1 j hj]
    by_cases h1 : j = i
    · by_cases h2 : j = u
      · simp only [if_pos h1, if_pos h2]
      · simp only [if_pos h1, if_neg h2]
    · by_cases h2 : j = u
      · simp only [if_neg h1, if_pos h2]
      · simp only [if_neg h1, if_neg h2]
  rcases hq with rfl | hq
  · rw [if_pos rfl]
    refine ⟨ok5, rt1, fun j hj => ?_⟩
    rw [nd5 j hj]
    simp only
    exact (if_neg (show ¬ j = -1 by omega)).symm
  · rw [if_neg (by have := hq.1; omega)]
    refine ⟨fun j => (TS.ok_upd ((ok5 q).2 hq)).trans (ok5 j), rt1, fun j hj => ?_⟩
    rw [TS.nd_upd' ((ok5 q).2 hq) hj, nd5 j hj]

theorem idx_mem {t : Tr} (h : t.idx ≠ -1) : t.idx ∈ t.ids := by
  cases t with
  | nil => exact absurd rfl h
  | node => simp [Tr.ids, Tr.idx]
theorem nodeD_kid (d : Bool) (s : Seg) (k o p : Int) (c : Bool) : (match d with | true => (nodeD d s k o p c).r | false => (nodeD d s k o p c).l) = k := by cases d <;> rfl
theorem TS.kid_nodeD {T : TS} {i : Int} {d : Bool} {s : Seg} {k o p : Int} {c : Bool} (h : T.nd i = nodeD d s k o p c) : T.kid i d = k ∧ T.kid i (!d) = o ∧ (T.nd i).p = p ∧ (T.nd i).red = c ∧ (T.nd i).s = s := by
  cases d <;> simp [TS.kid, h, nodeD]
theorem nk_nodeD (d : Bool) (s : Seg) (k o p : Int) (c : Bool) (k' : Int) : nk d k' (nodeD d s k o p c) = nodeD d s k' o p c := by cases d <;> rfl
theorem nodeD_flip (d : Bool) (s : Seg) (k o p : Int) (c : Bool) : nodeD (!d) s k o p c = nodeD d s o k p c := by cases d <;> rfl
theorem nodeD_p (d : Bool) (s : Seg) (k o p p' : Int) (c : Bool) : ({ nodeD d s k o p c with p := p' } : Node) = nodeD d s k o p' c := by cases d <;> rfl
/-- Two tables of a tree below different parents. -/
theorem tab_move {t : Tr} {p p' : Int} {e : Int × Node} (h : e ∈ t.tab p') : (e.1 = t.idx ∧ t.idx ≠ -1 ∧ ∃ n, (t.idx, n) ∈ t.tab p ∧ e.2 = { n with p := p' }) ∨ (e.1 ≠ t.idx ∨ ¬ t.ids.Nodup) ∧ e ∈ t.tab p ∨ t.idx < 0 := by
  cases t with
  | nil => simp [Tr.tab] at h
  | node i c s l r =>
    by_cases hi : i < 0
    · exact .inr (.inr hi)
    simp only [Tr.tab, List.mem_cons, List.mem_append] at h
    rcases h with rfl | h
    · exact .inl ⟨rfl, by simp only [Tr.idx]; omega, ⟨s, l.idx, r.idx, p, c⟩, by simp [Tr.tab, Tr.idx], rfl⟩
    · refine .inr (.inl ⟨?_, ?_⟩)
      · by_cases hn : (Tr.node i c s l r).ids.Nodup
        · left
          simp only [Tr.idx, Tr.ids] at hn ⊢
          rcases h with h | h <;> have := Tr.mem_tab h <;> grind
        · exact .inr hn
      · simp only [Tr.tab, List.mem_cons, List.mem_append]; exact .inr h

set_option maxHeartbeats 2000000 in
theorem Z.rot {T : TS} {π : List Frm} {d c cu : Bool} {i u : Int} {s su : Seg} {n a b : Tr} (h : Z T π (Tr.mk (!d) i c s (Tr.mk d u cu su n b) a)) :
    RotOk T i d ∧ Z (rotateT T i d) π (Tr.mk d u cu su (Tr.mk (!d) i c s n a) b) := by
  obtain ⟨hi, hni⟩ := h.atD
  obtain ⟨hu, hnu⟩ := h.dn.atD
  have hp := h.ok_par
  have hq := h.dn.dn.ok_idx
  rw [Tr.idx_mk] at hni
  obtain ⟨k1, k2, k3, -, -⟩ := TS.kid_nodeD hni
  obtain ⟨k4, k5, -, -, -⟩ := TS.kid_nodeD hnu
  rw [Bool.not_not] at k2
  have ho : RotOk T i d := ⟨hi, by rw [k3]; exact hp, by rw [k1]; exact hu, by rw [k1, k4]; exact hq⟩
  refine ⟨ho, ?_⟩
  have hnd := h.nodup
  have hids : (Tr.mk (!d) i c s (Tr.mk d u cu su n b) a).ids.Perm (i :: u :: (n.ids ++ b.ids ++ a.ids)) := by
    refine (ids_mk _ _ _ _ _ _).trans (List.Perm.cons _ ?_)
    exact ((ids_mk _ _ _ _ _ _).append (List.Perm.refl _))
  have hids' : (Tr.mk d u cu su (Tr.mk (!d) i c s n a) b).ids.Perm (i :: u :: (n.ids ++ b.ids ++ a.ids)) := by
    refine (ids_mk _ _ _ _ _ _).trans ?_
    refine (List.Perm.cons _ ((ids_mk _ _ _ _ _ _).append (List.Perm.refl _))).trans ?_
    rw [List.perm_iff_count]; intro x; simp [List.count_append, List.count_cons]; omega
  have hnd1 : (cids π ++ (i :: u :: (n.ids ++ b.ids ++ a.ids))).Nodup := ((List.Perm.refl _).append hids).nodup_iff.1 hnd
  have hnd2 : (cids π ++ (Tr.mk d u cu su (Tr.mk (!d) i c s n a) b).ids).Nodup := ((List.Perm.refl _).append hids').nodup_iff.2 hnd1
  clear hids hids' hnd
  obtain ⟨okr, rtr, ndr⟩ := rot_nd hi hu hp hq k1 k4 k3 rfl
  have hqn : n.idx ≠ -1 → n.idx ∈ n.ids := idx_mem
  have same : ∀ e : Int × Node, T.ok e.1 ∧ T.nd e.1 = e.2 → e.1 ≠ n.idx → e.1 ≠ i → e.1 ≠ u → e.1 ≠ par π → (rotateT T i d).ok e.1 ∧ (rotateT T i d).nd e.1 = e.2 := by
    intro e he h1 h2 h3 h4
    refine ⟨(okr _).2 he.1, ?_⟩
    rw [ndr _ he.1.1]
    simp only [if_neg h1, if_neg h2, if_neg h3, if_neg h4]
    exact he.2
  have hpm : par π ≠ -1 → par π ∈ cids π := by
    cases π with
    | nil => intro h; exact absurd rfl h
    | cons f π => intro _; simp [par, cids]
  have hi0 := hi.1
  have hu0 := hu.1
  have hiu : i ≠ u := by grind
  have hip : i ≠ par π := by intro e; have := hpm (by omega); grind
  have hup : u ≠ par π := by intro e; have := hpm (by omega); grind
  have hiq : i ≠ n.idx := by intro e; have := hqn (by omega); grind
  have huq : u ≠ n.idx := by intro e; have := hqn (by omega); grind
  refine ⟨?_, ?_, ?_, hnd2⟩
  · rw [Tr.idx_mk, rtr]
    have hr := h.root
    rw [Tr.idx_mk] at hr
    cases π with
    | nil => rfl
    | cons f π =>
      have hf : f.i ≠ -1 := by have := h.par_at.1.1; omega
      rw [show par (f :: π) = f.i from rfl, if_neg hf]; exact hr
  · intro e he
    rw [Tr.idx_mk] at he
    cases π with
    | nil => simp [ctab] at he
    | cons f π =>
      have hsd : sideT T i f.i = f.d := by
        have := h.side (by rw [Tr.idx_mk]; intro e; omega)
        rwa [Tr.idx_mk] at this
      obtain ⟨hpo, hpn⟩ := h.par_at
      simp only [ctab, List.mem_cons, List.mem_append] at he
      rcases he with rfl | he | he
      · refine ⟨(okr _).2 hpo, ?_⟩
        simp only
        have hpq : f.i ≠ n.idx := by intro e; have := hqn (by have := hpo.1; omega); simp only [cids] at hnd1; grind
        rw [ndr _ hpo.1]
        simp only [par] at hip hup hsd ⊢
        simp only [if_neg hpq, if_neg (Ne.symm hip), if_neg (Ne.symm hup), if_pos, hsd]
        rw [hpn, nk_nodeD]
        rfl
      · have hm := Tr.mem_tab he
        have he0 := h.cen e (by simp [ctab, he])
        have he1 := he0.1.1
        simp only [cids, par] at hnd1 ⊢
        exact same e he0 (by intro e'; have := hqn (by omega); grind) (by grind) (by grind) (by simp only [par]; grind)
      · have hm := mem_ctab he
        have he0 := h.cen e (by simp [ctab, he])
        have he1 := he0.1.1
        simp only [cids, par] at hnd1 ⊢
        exact same e he0 (by intro e'; have := hqn (by omega); grind) (by grind) (by grind) (by simp only [par]; grind)
  · intro e he
    rcases mem_mk.1 he with rfl | he | he
    · refine ⟨(okr _).2 hu, ?_⟩
      simp only
      rw [ndr _ hu.1]
      simp only [if_neg huq, if_neg (Ne.symm hiu), if_pos, if_neg hup]
      rw [hnu, nodeD_p, nk_nodeD, Tr.idx_mk]
    · rcases mem_mk.1 he with rfl | he | he
      · refine ⟨(okr _).2 hi, ?_⟩
        simp only
        rw [ndr _ hi.1]
        simp only [if_neg hiq, if_pos, if_neg hiu, if_neg hip]
        rw [hni, nodeD_p, nk_nodeD]
      · have hsub : n.ids.Nodup := by grind
        rcases tab_move (p := u) he with ⟨e1, e2, x, hx, e3⟩ | ⟨e1, e2⟩ | e1
        · obtain ⟨hok, hx2⟩ := h.ent _ (mem_mk.2 (.inr (.inl (mem_mk.2 (.inr (.inl hx))))))
          simp only at hok hx2
          have hqi := idx_mem e2
          have hpq : n.idx ≠ par π := by intro e'; have := hpm (by have := hok.1; omega); grind
          rw [e1]
          refine ⟨(okr _).2 hok, ?_⟩
          rw [ndr _ hok.1, e3]
          simp only [if_pos, if_neg (Ne.symm hiq), if_neg (Ne.symm huq), if_neg hpq]
          rw [hx2]
        · have hm := Tr.mem_tab e2
          have he0 := h.ent e (mem_mk.2 (.inr (.inl (mem_mk.2 (.inr (.inl e2))))))
          refine same e he0 (e1.resolve_right (fun c => c hsub)) (by grind) (by grind) ?_
          intro e'; have := hpm (by have := he0.1.1; omega); grind
        · have hok := hq
          rcases hok with hok | hok
          · cases n with
            | nil => simp [Tr.tab] at he
            | node j _ _ _ _ => 
              have hj := (h.dn.dn.ok_idx).resolve_left (by
                have := (Z.dn (Z.dn h)).at.1.1
                simp only [Tr.idx]; omega)
              have := hj.1; omega
          · have := hok.1; omega
      · have hm := Tr.mem_tab he
        have he0 := h.ent e (mem_mk.2 (.inr (.inr he)))
        have he1 := he0.1.1
        refine same e he0 (by intro e'; have := hqn (by omega); grind) (by grind) (by grind) ?_
        intro e'; have := hpm (by omega); grind
    · have hm := Tr.mem_tab he
      have he0 := h.ent e (mem_mk.2 (.inr (.inl (mem_mk.2 (.inr (.inr he))))))
      have he1 := he0.1.1
      refine same e he0 (by intro e'; have := hqn (by omega); grind) (by grind) (by grind) ?_
      intro e'; have := hpm (by omega); grind
end Go.Proofs.Ytkajknicgabdkaa

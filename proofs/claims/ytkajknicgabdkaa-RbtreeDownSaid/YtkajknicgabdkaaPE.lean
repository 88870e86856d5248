/-
  Plain: sink, whole: where there is one black node too few below a place.
-/
import Derived.Test.YtkajknicgabdkaaPD
import Derived.Test.YtkajknicgabdkaaW5
namespace Go.Proofs.Ytkajknicgabdkaa

/-- One black node too few, or a red one that is to be made black. -/
def Lack (t : Tr) (n : Nat) : Prop := (t.red = false ∧ Bal t n) ∨ ∃ d i s l r, t = Tr.mk d i true s l r ∧ Bal l n ∧ Bal r n
theorem as_mk (d : Bool) {t : Tr} (h : t ≠ .nil) : ∃ i s a b, t = Tr.mk d i t.red s a b := by
  cases t with
  | nil => exact absurd rfl h
  | node i c s l r => cases d
                      · exact ⟨i, s, l, r, rfl⟩
                      · exact ⟨i, s, r, l, rfl⟩
theorem bal_ne {t : Tr} {n : Nat} (h : Bal t (n + 1)) : t ≠ .nil := by rintro rfl; cases h
theorem red_ne {t : Tr} (h : t.red = true) : t ≠ .nil := by rintro rfl; cases h
theorem up_bal {π : List Frm} {c : Bool} {n : Nat} {f : Frm} (hc : BalC (f :: π) (n + 1)) (hcc : f.c = c) {t : Tr} (ht : Bal t (n + 1 + if c then 0 else 1)) (hr : t.red = c) :
    ∃ m, BalC π m ∧ Bal t m ∧ ((π = [] ∨ cred π = true) → t.red = false) := by
  cases hc with
  | red h1 h2 h3 h4 h5 h6 =>
    rw [hcc] at h1
    subst h1
    exact ⟨_, h6, ht, fun h => by rcases h with h | h <;> simp_all⟩
  | black h1 h2 h3 =>
    rw [hcc] at h1
    subst h1
    exact ⟨_, h3, ht, fun _ => hr⟩

set_option maxHeartbeats 1000000 in
theorem sink_b {T : TS} {π : List Frm} {d c : Bool} {p q : Int} {s sq : Seg} {t a b : Tr} {n : Nat} (h : Z T (⟨d, p, c, s, Tr.mk d q false sq a b⟩ :: π) t) (hc : BalC (⟨d, p, c, s, Tr.mk d q false sq a b⟩ :: π) (n + 1)) (ht : Bal t n) :
    (∃ T', SinkB T p d q a.idx b.idx T' none ∧ Res T (cbef (⟨d, p, c, s, Tr.mk d q false sq a b⟩ :: π) ++ t.inord ++ caft (⟨d, p, c, s, Tr.mk d q false sq a b⟩ :: π)) (cids (⟨d, p, c, s, Tr.mk d q false sq a b⟩ :: π) ++ t.ids) T') ∨
    (∃ T2 t2 n2, SinkB T p d q a.idx b.idx T2 (some (t2.idx, par π)) ∧ Z T2 π t2 ∧ BalC π (n2 + 1) ∧ Lack t2 n2 ∧ t2.red = c ∧ Sm T T2 ∧ cbef (⟨d, p, c, s, Tr.mk d q false sq a b⟩ :: π) ++ t.inord ++ caft (⟨d, p, c, s, Tr.mk d q false sq a b⟩ :: π) = cbef π ++ t2.inord ++ caft π ∧
      (cids π ++ t2.ids).Perm (cids (⟨d, p, c, s, Tr.mk d q false sq a b⟩ :: π) ++ t.ids)) := by
  have hup := Z.up.1 h
  simp only at hup
  have hbo : Bal (Tr.mk d q false sq a b) (n + 1) := by cases hc <;> assumption
  obtain ⟨n', e, ha, hb⟩ := hbo.unb
  have e' : n' = n := by omega
  rw [e'] at ha hb
  clear e e' n'
  have hq := hup.dn'
  have hza := hq.dn
  have hzb := hq.dn'
  have hra := hza.red_idx
  have hrb := hzb.red_idx
  have hpred : (T.nd p).red = c := by have := (TS.kid_nodeD hup.atD.2).2.2.2.1; exact this
  cases hbr : b.red with
  | true =>
    rw [hbr] at hrb
    left
    obtain ⟨v, sv, b1, b2, hbe⟩ := as_mk d (red_ne hbr)
    rw [hbr] at hbe
    subst hbe
    have hv := hzb.atD.1
    have h1 := (Z.up.1 (hq.setRedD c)).setRedD false
    simp only at h1
    have h2 := Z.up.1 (Z.up.1 (h1.dn.dn'.setRedD false))
    simp only at h2
    rw [mk_flip (!d) q, Bool.not_not] at h2
    obtain ⟨ho, h3⟩ := Z.rot h2
    obtain ⟨hb1, hb2, cb1, cb2⟩ := hb.unr
    have hbal : Bal (Tr.mk d q c sq (Tr.mk (!d) p false s a t) (Tr.mk d v false sv b1 b2)) (n + 1 + if c then 0 else 1) := by
      cases c
      · exact Bal.mkb (Bal.mkb ha ht) (Bal.mkb hb1 hb2)
      · exact Bal.mkr (Bal.mkb ha ht) (Bal.mkb hb1 hb2) (Tr.red_mk ..) (Tr.red_mk ..)
    obtain ⟨m, h4, h5, h6⟩ := up_bal hc rfl hbal (Tr.red_mk ..)
    refine ⟨_, SinkB.far (by exact hrb) (by rw [hpred, Tr.idx_mk]; exact ho), ?_⟩
    rw [hpred, Tr.idx_mk]
    refine (Res.plug h3 h4 h5 h6).from ((((Sm.setRed _ _ _).trans (Sm.setRed _ _ _)).trans (Sm.setRed _ _ _)).trans (Sm.rot _ _ _)) ?_ ?_
    · cases d <;> simp [cbef, caft, inord_mk]
    · rw [List.perm_iff_count]
      intro x
      simp only [cids, List.count_append, List.count_cons, count_mk]
      omega
  | false =>
    rw [hbr] at hrb
    cases har : a.red with
    | true =>
      left
      rw [har] at hra
      obtain ⟨u, su, x, y, hae⟩ := as_mk (!d) (red_ne har)
      rw [har] at hae
      subst hae
      have h1 := Z.setRedP (hza.setRedD false) true
      simp only at h1
      have h2 := Z.up.1 h1
      simp only at h2
      obtain ⟨ho, h3⟩ := Z.rot (d := !d) (by rw [Bool.not_not]; exact h2)
      rw [Bool.not_not] at h3
      rw [mk_flip, Bool.not_not] at h3
      obtain ⟨T2, hT2⟩ : ∃ T2, T2 = rotateT ((T.setRed u false).setRed q true) q (!d) := ⟨_, rfl⟩
      rw [← hT2] at h3
      have hp2 := h3.par_at.1
      have hu2 := h3.atD.1
      have hq2 := h3.dn'.atD.1
      have hpr2 : (T2.nd p).red = c := (TS.kid_nodeD h3.par_at.2).2.2.2.1
      have h4 := Z.setRedP (h3.setRedD c) false
      simp only at h4
      have h5 := Z.up.1 (h4.dn'.setRedD false)
      simp only at h5
      rw [mk_flip (!d) u, Bool.not_not] at h5
      have h6 := Z.up.1 h5
      simp only at h6
      obtain ⟨ho2, h7⟩ := Z.rot h6
      obtain ⟨hx, hy, cx, cy⟩ := ha.unr
      have hbal : Bal (Tr.mk d u c su (Tr.mk (!d) p false s y t) (Tr.mk d q false sq x b)) (n + 1 + if c then 0 else 1) := by
        cases c
        · exact Bal.mkb (Bal.mkb hy ht) (Bal.mkb hx hb)
        · exact Bal.mkr (Bal.mkb hy ht) (Bal.mkb hx hb) (Tr.red_mk ..) (Tr.red_mk ..)
      obtain ⟨m, g4, g5, g6⟩ := up_bal hc rfl hbal (Tr.red_mk ..)
      rw [Tr.idx_mk] at hra
      have hB := SinkB.near (d := d) hra hrb ho hT2 hp2 hu2 hq2 (by rw [hpr2]; exact ho2)
      rw [hpr2] at hB
      refine ⟨_, by rw [Tr.idx_mk]; exact hB, ?_⟩
      refine (Res.plug h7 g4 g5 g6).from ((((Sm.setRed _ _ _).trans (Sm.setRed _ _ _)).trans ((Sm.rot _ _ _).trans (by rw [hT2]; exact (Sm.setRed _ _ _).trans (Sm.setRed _ _ _)))).trans ((Sm.setRed _ _ _).trans (Sm.rot _ _ _))) ?_ ?_
      · cases d <;> simp [cbef, caft, inord_mk]
      · rw [List.perm_iff_count]
        intro x
        simp only [cids, List.count_append, List.count_cons, count_mk]
        omega
    | false =>
      right
      have h1 := Z.up.1 (hq.setRedD true)
      simp only at h1
      rw [mk_flip, Bool.not_not] at h1
      rw [har] at hra
      have hpp : ((T.setRed q true).nd p).p = par π := par_of h1
      refine ⟨_, _, (n + if c then 0 else 1), by rw [Tr.idx_mk]; exact SinkB.up (d := d) hra hrb hpp, h1, ?_, ?_, Tr.red_mk .., Sm.setRed _ _ _, ?_, ?_⟩
      · cases hc with
        | red h1 h2 h3 h4 h5 h6 => have h1 : c = true := h1; subst h1; exact h6
        | black h1 h2 h3 => have h1 : c = false := h1; subst h1; exact h3
      · cases c
        · exact .inl ⟨by rw [Tr.red_mk], Bal.mkb ht (Bal.mkr ha hb har hbr)⟩
        · exact .inr ⟨_, _, _, _, _, rfl, ht, Bal.mkr ha hb har hbr⟩
      · cases d <;> simp [cbef, caft, inord_mk]
      · rw [List.perm_iff_count]
        intro x
        simp only [cids, List.count_append, List.count_cons, count_mk]
        omega

theorem node_false {t : Tr} (hr : t.red = false) (hn : t ≠ .nil) : ∃ i s l r, t = .node i false s l r := by
  cases t with
  | nil => exact absurd rfl hn
  | node i c s l r => exact ⟨i, s, l, r, by rw [show c = false from hr]⟩
theorem sink_end {T : TS} {π : List Frm} {d : Bool} {i : Int} {s : Seg} {l r : Tr} {n : Nat} (h : Z T π (Tr.mk d i true s l r)) (hc : BalC π (n + 1)) (hl : Bal l n) (hr : Bal r n) :
    Res T (cbef π ++ (Tr.mk d i true s l r).inord ++ caft π) (cids π ++ (Tr.mk d i true s l r).ids) (T.setRed i false) := by
  refine (Res.plug (h.setRedD false) hc (Bal.mkb hl hr) (fun _ => Tr.red_mk ..)).from (Sm.setRed _ _ _) ?_ ?_
  · cases d <;> rfl
  · cases d <;> exact List.Perm.refl _
set_option maxHeartbeats 1000000 in
theorem sink_ex : ∀ (m : Nat) {T : TS} {π : List Frm} {t : Tr} {n : Nat}, π.length ≤ m → Z T π t → BalC π (n + 1) → Lack t n →
    ∃ k T', Sink k T t.idx (par π) T' ∧ Res T (cbef π ++ t.inord ++ caft π) (cids π ++ t.ids) T' := by
  intro m
  induction m with
  | zero =>
    intro T π t n hm h hc ht
    have : π = [] := List.eq_nil_of_length_eq_zero (by omega)
    subst this
    rcases ht with ⟨h1, h2⟩ | ⟨d, i, s, l, r, rfl, h2, h3⟩
    · by_cases hn : t = .nil
      · subst hn
        exact ⟨0, T, Sink.root0, Res.plug h (n := 0) .nil .nil (fun _ => rfl)⟩
      · obtain ⟨i, s, l, r, rfl⟩ := node_false h1 hn
        exact ⟨0, _, Sink.root h.at.1, (Res.plug (h.setRed false) .nil h2 (fun _ => rfl)).from (Sm.setRed _ _ _) rfl (List.Perm.refl _)⟩
    · rw [Tr.idx_mk]
      exact ⟨0, _, Sink.root h.atD.1, sink_end h hc h2 h3⟩
  | succ m ih =>
    intro T π t n hm h hc ht
    cases π with
    | nil => exact ih (by simp) h hc ht
    | cons f π =>
      have hp := h.par_at.1
      rcases ht with ⟨h1, h2⟩ | ⟨d, i, s, l, r, rfl, h2, h3⟩
      · have hi := h.ok_idx
        have hr := h.red_idx
        rw [h1] at hr
        have hbo : Bal f.o (n + 1) := by cases hc <;> assumption
        have hon := bal_ne hbo
        have hd : sideT T t.idx f.i = f.d := h.side (fun _ => .inl (by
          intro e
          have := (Z.up.1 h).dn'.ok_idx
          cases ho : f.o with
          | nil => exact hon ho
          | node j _ _ _ _ => 
            have hz := (Z.up.1 h).dn'
            rw [ho] at hz e
            have := hz.at.1.1
            simp only [Tr.idx] at e
            omega))
        obtain ⟨d, p, c, s, o⟩ := f
        simp only at hp hbo hon hd
        cases hor : o.red with
        | false =>
          obtain ⟨q, sq, a, b, hoe⟩ := as_mk d hon
          rw [hor] at hoe
          subst hoe
          have hup := Z.up.1 h
          simp only at hup
          have hq := hup.dn'
          have hA : SinkA T p d T q a.idx b.idx := SinkA.black (by have := (TS.kid_nodeD hup.atD.2).2.1; rwa [Tr.idx_mk] at this) hq.atD.1 (by have := hq.red_idx; rwa [Tr.idx_mk, Tr.red_mk] at this)
            (TS.kid_nodeD hq.atD.2).1 (TS.kid_nodeD hq.atD.2).2.1
          rcases sink_b h hc h2 with ⟨T', hB, hres⟩ | ⟨T2, t2, n2, hB, hz2, hc2, hl2, hr2, hs2, e1, e2⟩
          · exact ⟨0, T', Sink.fin hp hi hr hd hA hq.dn.ok_idx hq.dn'.ok_idx hB, hres⟩
          · obtain ⟨k, T', hS, hres⟩ := ih (by simp only [List.length_cons] at hm; omega) hz2 hc2 hl2
            exact ⟨_, T', Sink.go hp hi hr hd hA hq.dn.ok_idx hq.dn'.ok_idx hB hS, hres.from hs2 e1.symm e2⟩
        | true =>
          obtain ⟨q0, sq, a, b, hoe⟩ := as_mk d hon
          rw [hor] at hoe
          subst hoe
          obtain ⟨hba, hbb, ca, cb⟩ := hbo.unr
          have hcc : c = false ∧ BalC π (n + 2) := by
            cases hc with
            | red g1 g2 g3 g4 g5 g6 => simp only at g3; rw [Tr.red_mk] at g3; cases g3
            | black g1 g2 g3 => exact ⟨g1, g3⟩
          obtain ⟨rfl, hc3⟩ := hcc
          have hup := Z.up.1 h
          simp only at hup
          have hq := hup.dn'
          have h3 := (Z.up.1 (hq.setRedD false)).setRedD true
          simp only at h3
          obtain ⟨ho, h4⟩ := Z.rot h3
          obtain ⟨T1, hT1⟩ : ∃ T1, T1 = rotateT ((T.setRed q0 false).setRed p true) p d := ⟨_, rfl⟩
          rw [← hT1] at h4
          have h5 := h4.dn.dn'
          rw [Bool.not_not] at h5
          obtain ⟨q, sq2, a2, b2, hae⟩ := as_mk d (bal_ne hba)
          rw [ca] at hae
          subst hae
          have hup5 := Z.up.1 h5
          simp only at hup5
          have hq5 := hup5.dn'
          have hA : SinkA T p d T1 q a2.idx b2.idx := by
            refine SinkA.red (q0 := q0) ?_ hq.atD.1 ?_ ho hT1 h5.par_at.1 ?_ hq5.atD.1 (TS.kid_nodeD hq5.atD.2).1 (TS.kid_nodeD hq5.atD.2).2.1
            · have := (TS.kid_nodeD hup.atD.2).2.1; rwa [Tr.idx_mk] at this
            · have := hq.red_idx; rwa [Tr.idx_mk, Tr.red_mk] at this
            · have := (TS.kid_nodeD hup5.atD.2).2.1; rwa [Tr.idx_mk] at this
          have hS1 : Sm T T1 := by rw [hT1]; exact ((Sm.setRed _ _ _).trans (Sm.setRed _ _ _)).trans (Sm.rot _ _ _)
          have hc5 : BalC (⟨d, p, true, s, Tr.mk d q false sq2 a2 b2⟩ :: ⟨d, q0, false, sq, b⟩ :: π) (n + 1) := .red rfl hba (Tr.red_mk ..) (by simp) rfl (.black rfl hbb hc3)
          have e3 : cbef (⟨d, p, true, s, Tr.mk d q false sq2 a2 b2⟩ :: ⟨d, q0, false, sq, b⟩ :: π) ++ t.inord ++ caft (⟨d, p, true, s, Tr.mk d q false sq2 a2 b2⟩ :: ⟨d, q0, false, sq, b⟩ :: π) =
              cbef (⟨d, p, false, s, Tr.mk d q0 true sq (Tr.mk d q false sq2 a2 b2) b⟩ :: π) ++ t.inord ++ caft (⟨d, p, false, s, Tr.mk d q0 true sq (Tr.mk d q false sq2 a2 b2) b⟩ :: π) := by cases d <;> simp [cbef, caft, inord_mk]
          have e4 : (cids (⟨d, p, true, s, Tr.mk d q false sq2 a2 b2⟩ :: ⟨d, q0, false, sq, b⟩ :: π) ++ t.ids).Perm (cids (⟨d, p, false, s, Tr.mk d q0 true sq (Tr.mk d q false sq2 a2 b2) b⟩ :: π) ++ t.ids) := by
            rw [List.perm_iff_count]
            intro x
            simp only [cids, List.count_append, List.count_cons, count_mk]
            omega
          rcases sink_b h5 hc5 h2 with ⟨T', hB, hres⟩ | ⟨T2, t2, n2, hB, hz2, hc2, hl2, hr2, hs2, e1, e2⟩
          · exact ⟨0, T', Sink.fin hp hi hr hd hA hq5.dn.ok_idx hq5.dn'.ok_idx hB, hres.from hS1 e3 e4⟩
          · rcases hl2 with ⟨g1, -⟩ | ⟨d', i', s', l', r', rfl, g2, g3⟩
            · rw [g1] at hr2; cases hr2
            · have hr' := hz2.red_idx
              rw [Tr.red_mk] at hr'
              have hS : Sink 0 T2 (Tr.mk d' i' true s' l' r').idx (par (⟨d, q0, false, sq, b⟩ :: π)) (T2.setRed i' false) := by
                rw [Tr.idx_mk] at hr' ⊢
                exact Sink.red hz2.par_at.1 hz2.atD.1 hr'
              refine ⟨_, _, Sink.go hp hi hr hd hA hq5.dn.ok_idx hq5.dn'.ok_idx hB hS, ?_⟩
              exact (sink_end hz2 hc2 g2 g3).from (hS1.trans hs2) (e1.symm.trans e3) (e2.trans e4)
      · have hi := h.atD.1
        have hr := h.red_idx
        rw [Tr.idx_mk, Tr.red_mk] at hr
        rw [Tr.idx_mk]
        exact ⟨0, _, Sink.red hp hi hr, sink_end h hc h2 h3⟩
end Go.Proofs.Ytkajknicgabdkaa

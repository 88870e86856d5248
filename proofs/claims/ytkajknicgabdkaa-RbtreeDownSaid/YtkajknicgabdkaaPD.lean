/-
  Plain: rise, whole.
-/
import Derived.Test.YtkajknicgabdkaaPC
namespace Go.Proofs.Ytkajknicgabdkaa

theorem inord_mk (d : Bool) (i : Int) (c : Bool) (s : Seg) (t o : Tr) : (Tr.mk d i c s t o).inord = if d then o.inord ++ s :: t.inord else t.inord ++ s :: o.inord := by cases d <;> rfl
theorem rise_ex : ∀ (m : Nat) {T : TS} {π : List Frm} {d : Bool} {i : Int} {s : Seg} {l r : Tr} {n : Nat}, π.length ≤ m → Z T π (Tr.mk d i true s l r) → Bal l n → Bal r n → l.red = false → r.red = false →
    BalC π n → ∃ k T', Rise k T i T' ∧ Res T (cbef π ++ (Tr.mk d i true s l r).inord ++ caft π) (cids π ++ (Tr.mk d i true s l r).ids) T' := by
  intro m
  induction m with
  | zero =>
    intro T π d i s l r n hm h hl hr cl cr hc
    have : π = [] := List.eq_nil_of_length_eq_zero (by omega)
    subst this
    obtain ⟨T', h1, h2⟩ := rise_done h hl hr cl cr hc rfl
    exact ⟨_, _, h1, h2⟩
  | succ m ih =>
    intro T π d i s l r n hm h hl hr cl cr hc
    cases hcr : cred π with
    | false =>
      obtain ⟨T', h1, h2⟩ := rise_done h hl hr cl cr hc hcr
      exact ⟨_, _, h1, h2⟩
    | true =>
      cases hc with
      | nil => cases hcr
      | black hc _ _ => simp only [cred, hc] at hcr; cases hcr
      | @red _ f π1 hfc hfo cfo hn hb hc1 =>
        cases hc1 with
        | nil => exact absurd rfl hn
        | red hc2 => simp only [cred, hc2] at hb; cases hb
        | @black _ g π2 hgc hgo hc2 =>
          have hb1 : Bal (Tr.mk d i true s l r) n := Bal.mkr hl hr cl cr
          have hi := h.atD.1
          have hpp : (T.nd i).p = f.i := par_of h
          have hpa := h.par_at
          have hup := Z.up.1 h
          have hga := hup.par_at
          have hp : T.ok f.i := hpa.1
          have hg : T.ok g.i := hga.1
          have hgg : (T.nd f.i).p = g.i := par_of hup
          have hred : T.isRed f.i = true := by have := hup.red_idx; rw [Tr.idx_mk, Tr.red_mk] at this; rw [this]; exact hfc
          have hsd : sideT T f.i g.i = g.d := by
            have := hup.side (by rw [Tr.idx_mk]; intro e; have := hp.1; omega)
            rwa [Tr.idx_mk] at this
          have hsi : sideT T i f.i = f.d := by
            have := h.side (by rw [Tr.idx_mk]; intro e; have := hi.1; omega)
            rwa [Tr.idx_mk] at this
          have hku : T.kid g.i (!g.d) = g.o.idx := (TS.kid_nodeD hga.2).2.1
          have hzu : Z T (⟨!g.d, g.i, g.c, g.s, Tr.mk f.d f.i f.c f.s (Tr.mk d i true s l r) f.o⟩ :: π2) g.o := (Z.up.1 hup).dn'
          have hu := hzu.ok_idx
          have hru := hzu.red_idx
          have h1 := h.setRedP false
          cases hgr : g.o.red with
          | true =>
            rw [hgr] at hru
            cases hgt : g.o with
            | nil => rw [hgt] at hgr; cases hgr
            | node u cu su ul ur =>
              have hcu : cu = true := by rw [hgt] at hgr; exact hgr
              subst hcu
              rw [hgt] at hgo hku hu hru
              have h2 := Z.up.1 (Z.up.1 h1)
              simp only at h2
              have h3 := h2.dn'
              rw [hgt] at h3
              have h4 := h3.setRed false
              have h5 := (Z.up.1 h4).setRedD true
              simp only at h5
              cases hgo with
              | red hul hur cul cur =>
                obtain ⟨k, T', h6, h7⟩ := ih (by simp only [List.length_cons] at hm; omega) h5 (Bal.black hul hur) (Bal.mkb hb1 hfo) rfl (by rw [Tr.red_mk]) hc2
                refine ⟨_, _, Rise.recolor hi hpp hp hred hgg hg hsd hku hu hru h6, h7.from (((Sm.setRed _ _ _).trans (Sm.setRed _ _ _)).trans (Sm.setRed _ _ _)) ?_ ?_⟩
                · obtain ⟨fd, fi, fc, fs, fo⟩ := f
                  obtain ⟨gd, gi, gc, gs, go⟩ := g
                  simp only at hgt
                  subst hgt
                  cases fd <;> cases gd <;> simp [cbef, caft, inord_mk, Tr.inord]
                · rw [List.perm_iff_count]
                  intro x
                  simp only [cids, List.count_append, List.count_cons, count_mk, Tr.ids, hgt]
                  omega
          | false =>
            rw [hgr] at hru
            have h2 := Z.setRedP (f := g) (Z.up.1 h1) true
            simp only at h2
            by_cases hs : f.d = g.d
            · obtain ⟨fd, p, fc, fs, fo⟩ := f
              obtain ⟨gd, gi, gc, gs, go⟩ := g
              simp only at hs hgr hru
              subst hs
              have h3 := Z.up.1 h2
              simp only at h3
              rw [mk_flip fd p false fs (Tr.mk d i true s l r) fo] at h3
              obtain ⟨ho, h4⟩ := Z.rot (d := !fd) (by rw [Bool.not_not]; exact h3)
              rw [Bool.not_not, mk_flip, Bool.not_not] at h4
              obtain ⟨T', h5, h6⟩ := rise_done h4.dn hl hr cl cr (.black rfl (Bal.mkr hfo hgo cfo hgr) hc2) rfl
              refine ⟨_, _, Rise.line hi hpp hp hred hgg hg hsd hku hu hru hsi ho h5, h6.from (((Sm.setRed _ _ _).trans (Sm.setRed _ _ _)).trans (Sm.rot _ _ _)) ?_ ?_⟩
              · cases fd <;> simp [cbef, caft, inord_mk]
              · rw [List.perm_iff_count]
                intro x
                simp only [cids, List.count_append, List.count_cons, count_mk]
                omega
            · obtain ⟨fd, p, fc, fs, fo⟩ := f
              obtain ⟨gd, gi, gc, gs, go⟩ := g
              simp only at hs hgr hru
              have hs : fd = !gd := by cases fd <;> cases gd <;> simp_all
              subst hs
              have hfc : fc = true := hfc
              subst hfc
              have h1 := Z.up.1 h
              simp only at h1
              obtain ⟨a, b, hab, ha, hb', ca, cb⟩ : ∃ a b, Tr.mk d i true s l r = Tr.mk gd i true s a b ∧ Bal a n ∧ Bal b n ∧ a.red = false ∧ b.red = false := by
                by_cases hd : d = gd
                · subst hd; exact ⟨l, r, rfl, hl, hr, cl, cr⟩
                · have : d = !gd := by cases d <;> cases gd <;> simp_all
                  subst this
                  exact ⟨r, l, by rw [mk_flip, Bool.not_not], hr, hl, cr, cl⟩
              rw [hab] at h1
              obtain ⟨ho1, h3⟩ := Z.rot h1
              have hi1 : (rotateT T p gd).ok i := h3.atD.1
              have hg1 : (rotateT T p gd).ok gi := h3.par_at.1
              have h4 := Z.up.1 (Z.setRedP (f := ⟨gd, gi, gc, gs, go⟩) (h3.setRedD false) true)
              simp only at h4
              rw [mk_flip gd i] at h4
              obtain ⟨ho2, h5⟩ := Z.rot (d := !gd) (by rw [Bool.not_not]; exact h4)
              rw [Bool.not_not, mk_flip, Bool.not_not] at h5
              obtain ⟨T', h6, h7⟩ := rise_done h5.dn ha hfo ca cfo (.black rfl (Bal.mkr hb' hgo cb hgr) hc2) rfl
              refine ⟨_, _, Rise.bend hi hpp hp hred hgg hg hsd hku hu hru hsi ho1 hi1 hg1 ho2 h6, h7.from ((((Sm.rot _ _ _).trans (Sm.setRed _ _ _)).trans (Sm.setRed _ _ _)).trans (Sm.rot _ _ _)) ?_ ?_⟩
              · rw [hab]
                cases gd <;> simp [cbef, caft, inord_mk]
              · rw [List.perm_iff_count, hab]
                intro x
                simp only [cids, List.count_append, List.count_cons, count_mk]
                omega
end Go.Proofs.Ytkajknicgabdkaa

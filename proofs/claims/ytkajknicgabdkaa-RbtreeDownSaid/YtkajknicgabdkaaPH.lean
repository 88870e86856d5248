/-
  The law of Delete: what it answers is what the document says, of whatever tree.
-/
import Derived.Test.YtkajknicgabdkaaPG
namespace Go.Proofs.Ytkajknicgabdkaa
open Go.RowKit

theorem plug_append (ρ π : List Frm) (t : Tr) : plug (ρ ++ π) t = plug π (plug ρ t) := by
  induction ρ generalizing t with
  | nil => rfl
  | cons f ρ ih => exact ih _
theorem Z.append {T : TS} {ρ π : List Frm} {t : Tr} : Z T (ρ ++ π) t ↔ Z T π (Go.Proofs.Ytkajknicgabdkaa.plug ρ t) := by
  induction ρ generalizing t with
  | nil => exact Iff.rfl
  | cons f ρ ih => exact Z.up.trans ih
theorem cbef_append {ρ π : List Frm} (h : ∀ f ∈ ρ, f.d = false) : cbef (ρ ++ π) = cbef π := by
  induction ρ with
  | nil => rfl
  | cons f ρ ih =>
    have h1 := h f (by simp)
    have h2 := ih (fun g hg => h g (by simp [hg]))
    simp [cbef, h1, h2]
theorem caft_append' {ρ π : List Frm} (h : ∀ f ∈ ρ, f.d = true) : caft (ρ ++ π) = caft π := by
  induction ρ with
  | nil => rfl
  | cons f ρ ih =>
    have h1 := h f (by simp)
    have h2 := ih (fun g hg => h g (by simp [hg]))
    simp [caft, h1, h2]
theorem caft_append (ρ π : List Frm) : caft (ρ ++ π) = caft ρ ++ caft π := by
  induction ρ with
  | nil => rfl
  | cons f ρ ih => cases hd : f.d <;> simp [caft, hd, ih]
theorem cbef_append' (ρ π : List Frm) : cbef (ρ ++ π) = cbef π ++ cbef ρ := by
  induction ρ with
  | nil => simp [cbef]
  | cons f ρ ih => cases hd : f.d <;> simp [cbef, hd, ih]
theorem idx_ne {T : TS} {π : List Frm} {t : Tr} (h : Z T π t) (hn : t ≠ .nil) : t.idx ≠ -1 := by
  cases t with
  | nil => exact absurd rfl hn
  | node => have := h.at.1.1; simp only [Tr.idx]; omega
theorem end_ex {T : TS} (d : Bool) : ∀ (t : Tr) {π : List Frm}, t ≠ .nil → Z T π t → ∃ n ρ j c s o, t = plug ρ (Tr.mk d j c s .nil o) ∧ (∀ f ∈ ρ, f.d = d) ∧ End T d n t.idx j := by
  intro t
  induction t with
  | nil => intro π h; exact absurd rfl h
  | node i c s l r ihl ihr =>
    intro π _ hz
    obtain ⟨hi, hn⟩ := hz.at
    obtain ⟨a, b, hab, hor⟩ : ∃ a b, Tr.node i c s l r = Tr.mk d i c s a b ∧ (∀ {π : List Frm}, a ≠ .nil → Z T π a → ∃ n ρ j c s o, a = plug ρ (Tr.mk d j c s .nil o) ∧ (∀ f ∈ ρ, f.d = d) ∧ End T d n a.idx j) := by
      cases d
      · exact ⟨l, r, rfl, ihl⟩
      · exact ⟨r, l, rfl, ihr⟩
    rw [hab] at hz ⊢
    have hk := (TS.kid_nodeD hz.atD.2).1
    by_cases ha : a = .nil
    · subst ha
      exact ⟨0, [], i, c, s, b, rfl, by simp, by rw [Tr.idx_mk]; exact End.stop hi hk⟩
    · obtain ⟨n, ρ, j, c', s', o, h1, h2, h3⟩ := hor ha hz.dn
      refine ⟨n + 1, ρ ++ [⟨d, i, c, s, b⟩], j, c', s', o, ?_, ?_, ?_⟩
      · rw [plug_append, ← h1]; rfl
      · intro f hf
        rcases List.mem_append.1 hf with hf | hf
        · exact h2 f hf
        · simp at hf; rw [hf]
      · rw [Tr.idx_mk]; exact End.go hi hk (idx_ne hz.dn ha) h3

theorem hang_nd {T : TS} {i p old : Int} {x : Bool} (hi : i = -1 ∨ T.ok i) (hp : p = -1 ∨ T.ok p) (hx : sideT T old p = x) :
    (∀ j, (hangT T i p old).ok j ↔ T.ok j) ∧ (hangT T i p old).root = (if p = -1 then i else T.root) ∧
    ∀ j, 0 ≤ j → (hangT T i p old).nd j = (fun n : Node => if j = i then { n with p := p } else n) ((fun n => if j = p then nk x i n else n) (T.nd j)) := by
  have hh : hangT T i p old = if i = -1 then (if p = -1 then { T with root := i } else T.upd p (nk x i) : TS) else (if p = -1 then { T with root := i } else T.upd p (nk x i) : TS).upd i (fun n => { n with p := p }) := by
    simp only [hangT, TS.setK_upd, hx]; rfl
  rw [hh]
  clear hh
  obtain ⟨T1, hT1⟩ : ∃ T1 : TS, T1 = if p = -1 then { T with root := i } else T.upd p (nk x i) := ⟨_, rfl⟩
  have ok1 : ∀ j, T1.ok j ↔ T.ok j := by
    intro j
    rw [hT1]
    rcases hp with rfl | hp
    · rfl
    · rw [if_neg (by have := hp.1; omega)]; exact TS.ok_upd hp
  have rt1 : T1.root = if p = -1 then i else T.root := by rw [hT1]; split <;> rfl
  have nd1 : ∀ j, 0 ≤ j → T1.nd j = (fun n => if j = p then nk x i n else n) (T.nd j) := by
    intro j hj
    rw [hT1]
    rcases hp with rfl | hp
    · rw [if_pos rfl]; simp only; exact (if_neg (show ¬ j = -1 by omega)).symm
    · rw [if_neg (by have := hp.1; omega), TS.nd_upd' hp hj]
  rw [← hT1]
  rcases hi with rfl | hi
  · rw [if_pos rfl]
    refine ⟨ok1, rt1, fun j hj => ?_⟩
    rw [nd1 j hj]
    exact (if_neg (show ¬ j = -1 by omega)).symm
  · rw [if_neg (by have := hi.1; omega)]
    exact ⟨fun j => (TS.ok_upd ((ok1 i).2 hi)).trans (ok1 j), rt1, fun j hj => by rw [TS.nd_upd' ((ok1 i).2 hi) hj, nd1 j hj]⟩
theorem TS.freed_pl {T : TS} {j k : Int} (h : 0 ≤ j) (hk : 0 ≤ k) (hn : k ≠ j) : (T.freed j).pl k = T.pl k := by
  simp only [TS.pl, TS.freed, List.getD_eq_getElem?_getD]
  rw [List.getElem?_set_ne (by omega)]
theorem TS.freed_self {T : TS} {j : Int} : (T.freed j).pl j = Place.zero := by
  simp only [TS.pl, TS.freed, List.getD_eq_getElem?_getD]
  by_cases h : j.toNat < T.ps.length
  · simp [h]
  · rw [List.getElem?_eq_none (by simp; omega)]; rfl
theorem TS.freed_ok {T : TS} {j k : Int} (h : 0 ≤ j) (hn : k ≠ j) : (T.freed j).ok k ↔ T.ok k := by
  unfold TS.ok
  by_cases hk : 0 ≤ k
  · rw [TS.freed_pl h hk hn]
    simp [TS.freed]
  · simp [hk]
theorem TS.freed_nd {T : TS} {j k : Int} (h : 0 ≤ j) (hk : 0 ≤ k) (hn : k ≠ j) : (T.freed j).nd k = T.nd k := by unfold TS.nd; rw [TS.freed_pl h hk hn]

theorem Z.unlink {T : TS} {π : List Frm} {j : Int} {c : Bool} {s : Seg} {a b k : Tr} (h : Z T π (.node j c s a b)) (hk : (a = .nil ∧ k = b) ∨ (b = .nil ∧ k = a)) :
    Z ((hangT T k.idx (par π) j).freed j) π k ∧ (Tr.node j c s a b).ids.Perm (j :: k.ids) ∧ (k.idx = -1 ∨ T.ok k.idx) := by
  have hids : (Tr.node j c s a b).ids = j :: k.ids := by
    rcases hk with ⟨rfl, rfl⟩ | ⟨rfl, rfl⟩ <;> simp [Tr.ids]
  have hok : k.idx = -1 ∨ T.ok k.idx := by
    rcases hk with ⟨rfl, rfl⟩ | ⟨rfl, rfl⟩
    · exact h.dr.ok_idx
    · exact h.dl.ok_idx
  have hzk : ∀ e ∈ k.tab j, T.ok e.1 ∧ T.nd e.1 = e.2 := by
    rcases hk with ⟨rfl, rfl⟩ | ⟨rfl, rfl⟩
    · exact h.dr.ent
    · exact h.dl.ent
  refine ⟨?_, by rw [hids], hok⟩
  obtain ⟨hj, hjn⟩ := h.at
  have hnd := h.nodup
  rw [hids] at hnd
  obtain ⟨x, hx⟩ : ∃ x, x = sideT T j (par π) := ⟨_, rfl⟩
  obtain ⟨okr, rtr, ndr⟩ := hang_nd hok h.ok_par hx.symm
  have hj0 := hj.1
  have hkm : k.idx ≠ -1 → k.idx ∈ k.ids := idx_mem
  have hpm : par π ≠ -1 → par π ∈ cids π := by
    cases π with
    | nil => intro h; exact absurd rfl h
    | cons f π => intro _; simp [par, cids]
  have same : ∀ e : Int × Node, T.ok e.1 ∧ T.nd e.1 = e.2 → e.1 ≠ j → e.1 ≠ k.idx → e.1 ≠ par π → ((hangT T k.idx (par π) j).freed j).ok e.1 ∧ ((hangT T k.idx (par π) j).freed j).nd e.1 = e.2 := by
    intro e he h1 h2 h3
    refine ⟨(TS.freed_ok hj0 h1).2 ((okr _).2 he.1), ?_⟩
    rw [TS.freed_nd hj0 he.1.1 h1, ndr _ he.1.1]
    simp only [if_neg h2, if_neg h3]
    exact he.2
  refine ⟨?_, ?_, ?_, by grind⟩
  · show (hangT T k.idx (par π) j).root = _
    rw [rtr]
    cases π with
    | nil => rfl
    | cons f π =>
      have hf : f.i ≠ -1 := by have := h.par_at.1.1; omega
      rw [show par (f :: π) = f.i from rfl, if_neg hf]; exact h.root
  · intro e he
    cases π with
    | nil => simp [ctab] at he
    | cons f π =>
      have hsd : sideT T j f.i = f.d := h.side (by intro e; simp only [Tr.idx] at e; omega)
      obtain ⟨hpo, hpn⟩ := h.par_at
      simp only [cids, par] at hnd hpm hx same ndr okr ⊢
      have hfj : f.i ≠ j := by grind
      have hfk : f.i ≠ k.idx := by intro e; have := hkm (by have := hpo.1; omega); grind
      simp only [ctab, List.mem_cons, List.mem_append] at he
      rcases he with rfl | he | he
      · refine ⟨(TS.freed_ok hj0 hfj).2 ((okr _).2 hpo), ?_⟩
        simp only
        rw [TS.freed_nd hj0 hpo.1 hfj, ndr _ hpo.1]
        simp only [if_neg hfk, if_pos]
        rw [hpn, hx, hsd, nk_nodeD]
      · have hm := Tr.mem_tab he
        have he0 := h.cen e (by simp [ctab, he])
        exact same e he0 (by grind) (by intro e'; have := hkm (by have := he0.1.1; omega); grind) (by grind)
      · have hm := mem_ctab he
        have he0 := h.cen e (by simp [ctab, he])
        exact same e he0 (by grind) (by intro e'; have := hkm (by have := he0.1.1; omega); grind) (by grind)
  · intro e he
    have hsub : k.ids.Nodup := by grind
    rcases tab_move (p := j) he with ⟨e1, e2, y, hy, e3⟩ | ⟨e1, e2⟩ | e1
    · obtain ⟨hok1, hy2⟩ := hzk _ hy
      simp only at hok1 hy2
      have hki := idx_mem e2
      have hkp : k.idx ≠ par π := by intro e'; have := hpm (by have := hok1.1; omega); grind
      have hkj : k.idx ≠ j := by grind
      rw [e1]
      refine ⟨(TS.freed_ok hj0 hkj).2 ((okr _).2 hok1), ?_⟩
      rw [TS.freed_nd hj0 hok1.1 hkj, ndr _ hok1.1, e3]
      simp only [if_pos, if_neg hkp]
      rw [hy2]
    · have hm := Tr.mem_tab e2
      have he0 := hzk e e2
      exact same e he0 (by grind) (e1.resolve_right (fun c => c hsub)) (by intro e'; have := hpm (by have := he0.1.1; omega); grind)
    · rcases hok with hok | hok
      · cases k with
        | nil => simp [Tr.tab] at he
        | node q _ _ _ _ =>
          have := (hzk (q, _) (List.mem_cons_self ..)).1.1
          simp only [Tr.idx] at hok; omega
      · have := hok.1; omega

theorem del_core {T : TS} {π : List Frm} {j : Int} {c : Bool} {s : Seg} {a b k : Tr} {m : Nat} (h : Z T π (.node j c s a b)) (hk : (a = .nil ∧ k = b) ∨ (b = .nil ∧ k = a)) (hb : Bal (plug π (.node j c s a b)) m) (hblk : (plug π (.node j c s a b)).red = false) :
    ∃ T', DelF ((hangT T k.idx (par π) j).freed j) c k.idx (par π) T' ∧ Res ((hangT T k.idx (par π) j).freed j) (cbef π ++ k.inord ++ caft π) (cids π ++ k.ids) T' := by
  obtain ⟨bn, c1, c2, c3⟩ := bal_unplug hb hblk
  obtain ⟨hz, -, -⟩ := h.unlink hk
  cases c2 with
  | red hl hr cl cr =>
    have hkb : Bal k bn ∧ k.red = false := by
      rcases hk with ⟨rfl, rfl⟩ | ⟨rfl, rfl⟩
      · exact ⟨hr, cr⟩
      · exact ⟨hl, cl⟩
    exact ⟨_, DelF.red rfl, Res.plug hz c1 hkb.1 (fun _ => hkb.2)⟩
  | @black m _ _ _ _ hl hr =>
    have hkb : Bal k m := by
      rcases hk with ⟨rfl, rfl⟩ | ⟨rfl, rfl⟩
      · exact hr
      · exact hl
    have hri := hz.red_idx
    cases hkr : k.red with
    | true =>
      rw [hkr] at hri
      obtain ⟨i, s', x, y, hke⟩ := as_mk false (red_ne hkr)
      rw [hkr] at hke
      subst hke
      obtain ⟨h1, h2, -, -⟩ := hkb.unr
      have hki := hz.atD.1
      refine ⟨_, DelF.kid rfl (by rw [Tr.idx_mk]; exact hki) hri, ?_⟩
      rw [Tr.idx_mk]
      exact sink_end (by rw [Tr.idx_mk] at hz; exact hz) c1 h1 h2
    | false =>
      rw [hkr] at hri
      obtain ⟨n, T', h1, h2⟩ := sink_ex π.length (Nat.le_refl _) hz c1 (.inl ⟨hkr, hkb⟩)
      exact ⟨T', DelF.sink rfl hz.ok_idx hri h1, h2⟩
def delR (c : K) (L : List Seg) : List Seg × Bool := if findR c L 0 < 0 then (L, false) else (L.take (findR c L 0).toNat ++ L.drop ((findR c L 0).toNat + 1), true)

section
variable {w : World} {b : Nat} {h : Han} {T : TS} {t : Tr} {R : Ending → World → Prop}
theorem Sm.freed_pl {T T2 : TS} {j k : Int} (hs : Sm T T2) (h : 0 ≤ j) (hk : 0 ≤ k) (hu : (T.pl k).used = false) : ((T2.freed j).pl k).used = false := by
  by_cases e : k = j
  · subst e; rw [TS.freed_self]; rfl
  · rw [TS.freed_pl h hk e, hs.used]; exact hu
theorem del_fin {c : K} {n : Nat} {p i : Int} {d : Bool} {T1 : TS} {π : List Frm} {j : Int} {cj : Bool} {sj : Seg} {a b' k : Tr} {m : Nat} (H : Tree w b h T) (hI : Inv T t) (hf : Find T (canon c) n T.root (-1) false i p d) (hi : T.ok i) (hA : DelA T i T1 j)
    (hs1 : Sm T T1) (hz : Z T1 π (.node j cj sj a b')) (hkk : (a = .nil ∧ k = b') ∨ (b' = .nil ∧ k = a)) (hb : Bal (plug π (.node j cj sj a b')) m) (hblk : (plug π (.node j cj sj a b')).red = false)
    (hids : (plug π (.node j cj sj a b')).ids.Perm t.ids) (hsrt : Srt (cbef π ++ k.inord ++ caft π)) (hgo : ∀ s ∈ cbef π ++ k.inord ++ caft π, goodK s.k = true)
    (hk : ∀ w' h' T' t', Tree w' b h' T' → Inv T' t' → t'.inord = cbef π ++ k.inord ++ caft π → T'.room = T.room → Out h h' w w' → R (.returned (.bool true)) w') :
    Calls Try.prog 13 #[.pointer (some ⟨h.t, 0, none⟩), .agg #[.int .i64 c.1, .int .i64 c.2]] w R := by
  obtain ⟨T', hF, hres⟩ := del_core hz hkk hb hblk
  obtain ⟨hz2, hid2, hko⟩ := hz.unlink hkk
  obtain ⟨hj, hjn⟩ := hz.at
  have hp := hz.ok_par
  have hpp : (T1.nd j).p = par π := by rw [hjn]
  have hsm : Sm T (hangT T1 k.idx (par π) j) := hs1.trans (Sm.hang _ _ _ _)
  have hperm2 : (cids π ++ k.ids ++ [j]).Perm t.ids := by
    refine List.Perm.trans ?_ ((ids_plug _ _).symm.trans hids)
    refine List.Perm.trans ?_ ((List.Perm.refl _).append hid2.symm)
    rw [List.perm_iff_count]; intro x; simp [List.count_append, List.count_cons]
  have hjt : j ∈ t.ids := hperm2.mem_iff.1 (by simp)
  have hl := hI.len
  have hil := ids_inord t
  have hpos : 0 < t.ids.length := List.length_pos_of_mem hjt
  obtain ⟨t2, g1, g2, g3⟩ := Inv.of_res hres (by
      show (cids π ++ k.ids ++ ((hangT T1 k.idx (par π) j).free ++ [j])).Perm ((List.range ((hangT T1 k.idx (par π) j).ps.set _ _).length).map Int.ofNat)
      rw [List.length_set, hsm.len, hsm.free]
      refine List.Perm.trans ?_ hI.perm
      refine List.Perm.trans ?_ (hperm2.append (List.Perm.refl _))
      rw [List.perm_iff_count]; intro x; simp [List.count_append, List.count_cons]) (by
      intro q hq
      have hq : q ∈ (hangT T1 k.idx (par π) j).free ++ [j] := hq
      rw [hsm.free] at hq
      rcases List.mem_append.1 hq with hq | hq
      · exact hsm.freed_pl hj.1 (hI.mem hq).1 (hI.unused q hq)
      · simp at hq; subst hq; rw [TS.freed_self]; rfl) hsrt hgo
  refine Delete_k H hf hi hA hj (kid := k.idx) ?_ hko (by rw [hpp]; exact hp) rfl ?_ ?_ (by rw [hpp, hjn]; exact hF) (fun w' h' H' O' => hk w' h' T' t2 H' g1 g2 (g3.trans hsm.room) O')
  · rw [hjn]
    rcases hkk with ⟨rfl, rfl⟩ | ⟨rfl, rfl⟩
    · simp [Tr.idx]
    · by_cases ha : k = .nil
      · subst ha; simp [Tr.idx]
      · simp only; rw [if_neg (idx_ne hz.dl ha)]
  · rw [hpp]; exact (hsm.ok j).2 ((hs1.ok j).1 hj)
  · rw [hpp, hsm.free, hsm.len]; omega
theorem ne_of_idx {t : Tr} (h : t = .nil) : t.idx = -1 := by rw [h]; rfl
set_option maxHeartbeats 1000000 in
theorem Delete_law {c : K} (H : Tree w b h T) (hI : Inv T t)
    (hk : ∀ w' h' T' t', Tree w' b h' T' → Inv T' t' → t'.inord = (delR c t.inord).1 → T'.room = T.room → Out h h' w w' → R (.returned (.bool (delR c t.inord).2)) w') :
    Calls Try.prog 13 #[.pointer (some ⟨h.t, 0, none⟩), .agg #[.int .i64 c.1, .int .i64 c.2]] w R := by
  unfold delR at hk
  obtain ⟨n, π, t', f1, f2, f3, f4, f5, f6⟩ := hI.find (canon c)
  have hin : t.inord = cbef π ++ t'.inord ++ caft π := by rw [← f3]; exact inord_plug _ _
  have hgo := hI.good
  rw [canon_canon] at f6
  rcases f6 with rfl | ⟨i, cc, x, l, r, rfl, hcx⟩
  · have hnone : findR c t.inord 0 = -1 := by
      refine findR_none (fun x hx e => ?_) 0
      rw [hin] at hx
      simp only [Tr.inord, List.append_nil, List.mem_append] at hx
      rcases hx with hx | hx
      · have := f4 x hx; rw [e] at this; exact ltK_irrefl _ this
      · have := f5 x hx; rw [e] at this; exact ltK_irrefl _ this
    rw [hnone, if_pos (by omega)] at hk
    exact Delete_none H f1 (fun w' hb => hk w' h T t (H.below hb) hI rfl rfl (Out.below hb))
  · replace f1 : Find T (canon c) n T.root (-1) false i (par π) (dirOf π) := f1
    have hxk : x.k = canon c := by
      have := goodK_canon (hgo x (by rw [hin]; simp [Tr.inord]))
      rw [← this, ← hcx]
    have hin2 : t.inord = (cbef π ++ l.inord) ++ x :: (r.inord ++ caft π) := by rw [hin]; simp [Tr.inord]
    have hsr2 := hI.srt
    rw [hin2] at hsr2
    have hsome : findR c t.inord 0 = ((cbef π ++ l.inord).length : Nat) := by
      rw [hin2]
      refine (findR_some (c := c) (x := x) ?_ hxk 0).trans (by omega)
      intro a ha e
      have := hsr2.split.1 a ha
      rw [e, hxk] at this
      exact ltK_irrefl _ this
    rw [hsome, if_neg (by omega)] at hk
    simp only [Int.toNat_natCast] at hk
    have hdel : t.inord.take (cbef π ++ l.inord).length ++ t.inord.drop ((cbef π ++ l.inord).length + 1) = (cbef π ++ l.inord) ++ (r.inord ++ caft π) := by
      rw [hin2, List.take_left' rfl, ← List.drop_drop, List.drop_left' rfl]; rfl
    rw [hdel] at hk
    have hsr3 := hsr2.remove
    have hgo3 : ∀ s ∈ (cbef π ++ l.inord) ++ (r.inord ++ caft π), goodK s.k = true := by
      intro s hs
      refine hgo s ?_
      rw [hin2]
      rcases List.mem_append.1 hs with hs | hs
      · exact List.mem_append_left _ hs
      · exact List.mem_append_right _ (List.mem_cons_of_mem _ hs)
    obtain ⟨hi, hni⟩ := f2.at
    obtain ⟨m0, hm0⟩ := hI.bal
    have hblk := hI.blk
    rw [← f3] at hm0 hblk
    by_cases hl : l = .nil
    · subst hl
      have e : cbef π ++ r.inord ++ caft π = (cbef π ++ Tr.nil.inord) ++ (r.inord ++ caft π) := by simp [Tr.inord]
      exact del_fin H hI f1 hi (DelA.l (by rw [hni]; rfl)) (Sm.refl _) f2 (.inl ⟨rfl, rfl⟩) hm0 hblk (by rw [f3]) (by rw [e]; exact hsr3) (by rw [e]; exact hgo3)
        (fun w' h' T' t' a1 a2 a3 a4 a5 => hk w' h' T' t' a1 a2 (a3.trans e) a4 a5)
    · have hln : (T.nd i).l ≠ -1 := by rw [hni]; exact idx_ne f2.dl hl
      by_cases hr : r = .nil
      · subst hr
        have e : cbef π ++ l.inord ++ caft π = (cbef π ++ l.inord) ++ (Tr.nil.inord ++ caft π) := by simp [Tr.inord]
        exact del_fin H hI f1 hi (DelA.r hln (by rw [hni]; rfl)) (Sm.refl _) f2 (.inr ⟨rfl, rfl⟩) hm0 hblk (by rw [f3]) (by rw [e]; exact hsr3) (by rw [e]; exact hgo3)
          (fun w' h' T' t' a1 a2 a3 a4 a5 => hk w' h' T' t' a1 a2 (a3.trans e) a4 a5)
      · have hrn : (T.nd i).r ≠ -1 := by rw [hni]; exact idx_ne f2.dr hr
        obtain ⟨n2, ρ, j, cj, sj, o, q1, q2, q3⟩ := end_ex false r hr f2.dr
        have hzj : Z T (ρ ++ ⟨true, i, cc, x, l⟩ :: π) (Tr.mk false j cj sj .nil o) := Z.append.2 (by rw [← q1]; exact f2.dr)
        obtain ⟨hj, hjn⟩ := hzj.atD
        have hsj : (T.nd j).s = sj := by rw [hjn]; rfl
        have hz1 := f2.setSeg sj
        have hz2 : Z (T.setSeg i sj) (ρ ++ ⟨true, i, cc, sj, l⟩ :: π) (Tr.mk false j cj sj .nil o) := Z.append.2 (by rw [← q1]; exact hz1.dr)
        have hpl : plug (ρ ++ ⟨true, i, cc, sj, l⟩ :: π) (Tr.mk false j cj sj .nil o) = plug π (.node i cc sj l r) := by
          rw [plug_append, ← q1]; rfl
        obtain ⟨bn, c1, c2, c3⟩ := bal_unplug hm0 hblk
        have hb' : Bal (.node i cc sj l r) bn := by cases c2 with
          | red a b c d => exact .red a b c d
          | black a b => exact .black a b
        obtain ⟨⟨m1, hm1⟩, hblk1⟩ := bal_plug c1 hb' c3
        have hri : r.inord = sj :: (o.inord ++ caft ρ) := by
          rw [q1, inord_plug]
          have : cbef ρ = [] := by have := cbef_append (π := []) q2; simpa [cbef] using this
          rw [this]; simp [Tr.mk, Tr.inord]
        have e : cbef (ρ ++ ⟨true, i, cc, sj, l⟩ :: π) ++ o.inord ++ caft (ρ ++ ⟨true, i, cc, sj, l⟩ :: π) = (cbef π ++ l.inord) ++ (r.inord ++ caft π) := by
          rw [cbef_append q2, caft_append, hri]; simp [cbef, caft]
        exact del_fin H hI f1 hi (by have := DelA.both hln hrn (n := n2) (nx := j) (by rw [hni]; exact q3) hj; rw [hsj] at this; exact this) (Sm.upd _ _ _) hz2 (.inl ⟨rfl, rfl⟩) (by rw [show Tr.node j cj sj Tr.nil o = Tr.mk false j cj sj .nil o from rfl, hpl]; exact hm1) (by rw [show Tr.node j cj sj Tr.nil o = Tr.mk false j cj sj .nil o from rfl, hpl]; exact hblk1)
          (by rw [show Tr.node j cj sj Tr.nil o = Tr.mk false j cj sj .nil o from rfl, hpl]; rw [← f3]; exact (ids_plug _ _).trans (show (cids π ++ (Tr.node i cc x l r).ids).Perm _ from (ids_plug _ _).symm)) (by rw [e]; exact hsr3) (by rw [e]; exact hgo3)
          (fun w' h' T' t' a1 a2 a3 a4 a5 => hk w' h' T' t' a1 a2 (a3.trans e) a4 a5)
end
end Go.Proofs.Ytkajknicgabdkaa

/-
  The law of Put: what it answers is what the document says, of whatever tree.
-/
import Derived.Test.YtkajknicgabdkaaPF
import Derived.Test.YtkajknicgabdkaaVd
namespace Go.Proofs.Ytkajknicgabdkaa
open Go.RowKit

theorem Inv.of_res {T0 T' : TS} {L : List Seg} {I : List Int} (hr : Res T0 L I T') (hp : (I ++ T0.free).Perm ((List.range T0.ps.length).map Int.ofNat)) (hu : ∀ i ∈ T0.free, (T0.pl i).used = false)
    (hs : Srt L) (hg : ∀ s ∈ L, goodK s.k = true) : ∃ t', Inv T' t' ∧ t'.inord = L ∧ T'.room = T0.room := by
  obtain ⟨t, h1, h2, h3, h4, h5, h6⟩ := hr
  refine ⟨t, ⟨h1, h2, h3, ?_, ?_, by rw [h4]; exact hs, by rw [h4]; exact hg⟩, h4, h6.room⟩
  · rw [h6.free, h6.len]
    exact (h5.append (List.Perm.refl _)).trans hp
  · rw [h6.free]
    intro i hi
    rw [h6.used]
    exact hu i hi

def linkT (T : TS) (π : List Frm) (i : Int) : TS := match π with | [] => { T with root := i } | f :: _ => T.setK f.i f.d i
theorem Z.link {T T1 : TS} {π : List Frm} {i : Int} {s : Seg} (h : Z T π .nil) (hi : T1.ok i) (hn : T1.nd i = ⟨s, -1, -1, par π, true⟩) (hf : i ∉ cids π) (hsame : ∀ j ∈ cids π, T.ok j → T1.ok j ∧ T1.nd j = T.nd j)
    (hroot : T1.root = T.root) : Z (linkT T1 π i) π (.node i true s .nil .nil) := by
  have hnd := h.nodup
  simp only [Tr.ids, List.append_nil] at hnd
  cases π with
  | nil =>
    refine ⟨rfl, by simp [ctab], ?_, by simp [cids, Tr.ids]⟩
    intro e he
    simp only [Tr.tab, List.append_nil, List.mem_singleton] at he
    subst he
    exact ⟨hi, hn⟩
  | cons f π =>
    obtain ⟨hpo, hpn⟩ := h.par_at
    obtain ⟨hp1, hp2⟩ := hsame f.i (by simp [cids]) hpo
    have hif : i ≠ f.i := fun e => hf (by simp [cids, e])
    simp only [linkT, TS.setK_upd]
    have hok : ∀ j, (T1.upd f.i (nk f.d i)).ok j ↔ T1.ok j := fun j => TS.ok_upd hp1
    refine ⟨?_, ?_, ?_, ?_⟩
    · rw [TS.root_upd, hroot]; exact h.root
    · intro e he
      simp only [ctab, List.mem_cons, List.mem_append] at he
      rcases he with rfl | he
      · refine ⟨(hok _).2 hp1, ?_⟩
        simp only
        rw [TS.nd_upd' hp1 hpo.1, if_pos rfl, hp2, hpn, nk_nodeD]
        rfl
      · have hm : e.1 ∈ f.o.ids ++ cids π := by
          rcases he with he | he
          · exact List.mem_append_left _ (Tr.mem_tab he)
          · exact List.mem_append_right _ (mem_ctab he)
        have he0 := h.cen e (by simp only [ctab, List.mem_cons, List.mem_append]; exact .inr he)
        obtain ⟨h1, h2⟩ := hsame e.1 (List.mem_cons_of_mem _ hm) he0.1
        simp only [cids] at hnd
        refine ⟨(hok _).2 h1, ?_⟩
        rw [TS.nd_upd' hp1 h1.1, if_neg (by grind), h2]
        exact he0.2
    · intro e he
      simp only [Tr.tab, List.append_nil, List.mem_singleton] at he
      subst he
      refine ⟨(hok _).2 hi, ?_⟩
      simp only
      rw [TS.nd_upd' hp1 hi.1, if_neg hif, hn]
      rfl
    · simp only [Tr.ids, List.append_nil]
      grind

theorem Inv.mem {T : TS} {t : Tr} (h : Inv T t) {i : Int} (hi : i ∈ T.free) : 0 ≤ i ∧ i < T.ps.length ∧ i ∉ t.ids := by
  have h1 : i ∈ (List.range T.ps.length).map Int.ofNat := h.perm.mem_iff.1 (by simp [hi])
  obtain ⟨k, hk, rfl⟩ := List.mem_map.1 h1
  have hk := List.mem_range.1 hk
  refine ⟨by simp, by simpa using hk, fun h2 => ?_⟩
  have hn : ((List.range T.ps.length).map Int.ofNat).Nodup := by
    refine List.Pairwise.map _ ?_ List.nodup_range
    intro a b hab e; exact hab (Int.ofNat.inj e)
  have hn2 := h.perm.nodup_iff.2 hn
  rw [List.nodup_append] at hn2
  exact hn2.2.2 _ h2 _ hi rfl
theorem Inv.nodup {T : TS} {t : Tr} (h : Inv T t) : (t.ids ++ T.free).Nodup := by
  refine h.perm.nodup_iff.2 ?_
  refine List.Pairwise.map _ ?_ List.nodup_range
  intro a b hab e; exact hab (Int.ofNat.inj e)

theorem PutAt.facts {T T1 : TS} {n : Node} {i : Int} {t : Tr} (h : Inv T t) (hp : PutAt T n i T1) : T1.ok i ∧ T1.nd i = n ∧ T1.root = T.root ∧ T1.room = T.room ∧ i ∉ t.ids ∧ (∀ j ∈ t.ids, T.ok j → T1.ok j ∧ T1.nd j = T.nd j) ∧
    (∀ I : List Int, I.Perm (i :: t.ids) → (I ++ T1.free).Perm ((List.range T1.ps.length).map Int.ofNat)) ∧ (∀ j ∈ T1.free, (T1.pl j).used = false) := by
  cases hp with
  | app hf =>
    have hp := h.perm
    rw [hf, List.append_nil] at hp
    have hpl : TS.pl { T with ps := T.ps ++ [⟨n, true⟩] } (T.ps.length : Int) = ⟨n, true⟩ := by simp [TS.pl, List.getD_eq_getElem?_getD]
    refine ⟨⟨by omega, by simp only [List.length_append, List.length_singleton]; omega, by rw [hpl]⟩, by rw [TS.nd, hpl], rfl, rfl, ?_, ?_, ?_, ?_⟩
    · intro hm
      obtain ⟨k, hk, e⟩ := List.mem_map.1 (hp.mem_iff.1 hm)
      have := List.mem_range.1 hk
      have : (k : Int) = T.ps.length := e
      omega
    · intro j _ hj
      have h1 := hj.2.1
      have h0 := hj.1
      have e : TS.pl { T with ps := T.ps ++ [⟨n, true⟩] } j = T.pl j := by
        simp only [TS.pl, List.getD_eq_getElem?_getD]
        rw [List.getElem?_append_left (by omega)]
      exact ⟨⟨h0, by simp; omega, by rw [e]; exact hj.2.2⟩, by rw [TS.nd, e]; rfl⟩
    · intro I hI
      simp only [hf, List.append_nil, List.length_append, List.length_singleton, List.range_succ, List.map_append, List.map_cons, List.map_nil]
      refine hI.trans ((List.Perm.cons _ hp).trans ?_)
      exact (List.perm_append_comm (l₁ := [(T.ps.length : Int)]))
    · simp [hf]
  | @reuse fs _ hf h0 h1 =>
    have hfresh := (h.mem (i := i) (by rw [hf]; simp)).2.2
    have hlt : i.toNat < T.ps.length := by omega
    have hpl : TS.pl { T with ps := T.ps.set i.toNat ⟨n, true⟩, free := fs } i = ⟨n, true⟩ := by simp [TS.pl, List.getD_eq_getElem?_getD, hlt]
    have hne : ∀ j, 0 ≤ j → j ≠ i → TS.pl { T with ps := T.ps.set i.toNat ⟨n, true⟩, free := fs } j = T.pl j := by
      intro j hj hji
      simp only [TS.pl, List.getD_eq_getElem?_getD]
      rw [List.getElem?_set_ne (by omega)]
    refine ⟨⟨h0, by simpa using h1, by rw [hpl]⟩, by rw [TS.nd, hpl], rfl, rfl, hfresh, ?_, ?_, ?_⟩
    · intro j hjm hj
      have e := hne j hj.1 (fun e => hfresh (e ▸ hjm))
      exact ⟨⟨hj.1, by simpa using hj.2.1, by rw [e]; exact hj.2.2⟩, by rw [TS.nd, e]; rfl⟩
    · intro I hI
      simp only [List.length_set]
      have := h.perm
      rw [hf] at this
      refine List.Perm.trans ?_ this
      refine (hI.append (List.Perm.refl _)).trans ?_
      rw [List.perm_iff_count]; intro x; simp [List.count_append, List.count_cons]; omega
    · intro j hj
      have hnd := h.nodup
      rw [hf] at hnd
      have hm := h.mem (i := j) (by rw [hf]; simp [hj])
      have : j ≠ i := by
        rintro rfl
        rw [← List.append_assoc, List.nodup_append] at hnd
        exact hnd.2.2 j (by simp [hj]) j (by simp) rfl
      rw [hne j hm.1 this]
      exact h.unused j (by rw [hf]; simp [hj])

theorem findR_none {c : K} {L : List Seg} (h : ∀ x ∈ L, x.k ≠ canon c) : ∀ i, findR c L i = -1 := by
  induction L with
  | nil => intro i; rfl
  | cons x L ih =>
    intro i
    have : (x.ls == (canon c).1 && x.la == (canon c).2) = false := by
      have h1 := h x (by simp)
      rw [Bool.and_eq_false_iff]
      by_cases e : x.ls = (canon c).1
      · right
        rw [beq_eq_false_iff_ne]
        intro e2; exact h1 (Prod.ext e e2)
      · left; rw [beq_eq_false_iff_ne]; exact e
    rw [findR_cons, this]
    exact ih (fun x hx => h x (by simp [hx])) _
theorem findR_some {c : K} {A B : List Seg} {x : Seg} (h : ∀ a ∈ A, a.k ≠ canon c) (hx : x.k = canon c) : ∀ i, findR c (A ++ x :: B) i = i + A.length := by
  induction A with
  | nil =>
    intro i
    have : (x.ls == (canon c).1 && x.la == (canon c).2) = true := by rw [← hx]; simp [Seg.k]
    rw [List.nil_append, findR_cons, this]; simp
  | cons a A ih =>
    intro i
    have : (a.ls == (canon c).1 && a.la == (canon c).2) = false := by
      have h1 := h a (by simp)
      rw [Bool.and_eq_false_iff]
      by_cases e : a.ls = (canon c).1
      · right
        rw [beq_eq_false_iff_ne]
        intro e2; exact h1 (Prod.ext e e2)
      · left; rw [beq_eq_false_iff_ne]; exact e
    rw [List.cons_append, findR_cons, this]
    simp only [if_neg (show ¬ false = true by simp)]
    rw [ih (fun y hy => h y (by simp [hy])) _]
    simp only [List.length_cons]; omega
theorem lessK_iff (c d : K) : lessK c d = true ↔ ltK c d := by
  unfold lessK ltK
  by_cases h : (canon c).1 = (canon d).1 <;> simp [h]
theorem insR_at {s : Seg} {A B : List Seg} (ha : ∀ a ∈ A, ltK a.k s.k) (hb : ∀ b ∈ B, ltK s.k b.k) : insR s (A ++ B) = A ++ s :: B := by
  induction A with
  | nil =>
    cases B with
    | nil => rfl
    | cons b B =>
      have : lessK (s.ls, s.la) (b.ls, b.la) = true := (lessK_iff _ _).2 (hb b (by simp))
      simp [insR, this]
  | cons a A ih =>
    have : ¬ lessK (s.ls, s.la) (a.ls, a.la) = true := by
      rw [lessK_iff]; intro h; exact ltK_irrefl _ (ltK_trans (ha a (by simp)) h)
    simp only [List.cons_append, insR, if_neg this]
    rw [ih (fun x hx => ha x (by simp [hx]))]
theorem goodR_eq (c : K) : goodR c = goodK c := by
  rw [Bool.eq_iff_iff, goodK_iff]
  unfold goodR
  rw [Bool.and_eq_true, Bool.and_eq_true, beq_iff_eq, beq_iff_eq, Prod.ext_iff]
  simp

section
variable {w : World} {b : Nat} {h : Han} {T : TS} {t : Tr} {R : Ending → World → Prop}
theorem cids_sub {π : List Frm} {t' : Tr} {j : Int} (h : j ∈ cids π) : j ∈ (plug π t').ids := (ids_plug π t').mem_iff.2 (List.mem_append_left _ h)
set_option maxHeartbeats 1000000 in
theorem Put_law {s : Seg} (H : Tree w b h T) (hI : Inv T t)
    (hk : ∀ w' h' T' t', Tree w' b h' T' → Inv T' t' → t'.inord = (putR T.room s t.inord).1 → T'.room = T.room → Out h h' w w' → R (.returned (.int .i64 (putR T.room s t.inord).2)) w') :
    Calls Try.prog 11 #[.pointer (some ⟨h.t, 0, none⟩), .agg #[.int .i64 s.ls, .int .i64 s.la, .int .i64 s.hs, .int .i64 s.ha, .int .i64 s.v]] w R := by
  unfold putR at hk
  rw [goodR_eq] at hk
  cases hg : goodK (s.ls, s.la) with
  | false =>
    rw [hg] at hk
    exact Put_bad H hg (fun w' hb => hk w' h T t (H.below hb) hI rfl rfl (Out.below hb))
  | true =>
    rw [hg] at hk
    rw [if_neg (show ¬ true = false by simp)] at hk
    have hgk : goodK s.k = true := hg
    have hck := goodK_canon hgk
    obtain ⟨n, π, t', f1, f2, f3, f4, f5, f6⟩ := hI.find s.k
    have hin : t.inord = cbef π ++ t'.inord ++ caft π := by rw [← f3]; exact inord_plug _ _
    have hsr := hI.srt
    rw [hin] at hsr
    have hgo := hI.good
    obtain ⟨m0, hm0⟩ := hI.bal
    have hblk := hI.blk
    rw [← f3] at hm0 hblk
    obtain ⟨bn, c1, c2, c3⟩ := bal_unplug hm0 hblk
    have hids : t.ids.Perm (cids π ++ t'.ids) := by rw [← f3]; exact ids_plug _ _
    rcases f6 with rfl | ⟨i, cc, x, l, r, rfl, hcx⟩
    · have hnone : findR (s.ls, s.la) t.inord 0 = -1 := by
        refine findR_none (fun x hx e => ?_) 0
        have hx' := goodK_canon (hgo x hx)
        have e : x.k = canon s.k := e
        rw [hin] at hx
        simp only [Tr.inord, List.append_nil, List.mem_append] at hx
        rw [hck] at e
        rcases hx with hx | hx
        · have := f4 x hx; rw [e] at this; exact ltK_irrefl _ this
        · have := f5 x hx; rw [e] at this; exact ltK_irrefl _ this
      rw [hnone, if_neg (by omega)] at hk
      have hlen := hI.len
      by_cases hroom : T.room ≤ (t.inord.length : Int)
      · rw [if_pos hroom] at hk
        exact Put_full H hg f1 (by omega) (fun w' hb => hk w' h T t (H.below hb) hI rfl rfl (Out.below hb))
      · rw [if_neg hroom] at hk
        have hins : insR s t.inord = cbef π ++ s :: caft π := by
          rw [hin]; simp only [Tr.inord, List.append_nil]
          exact insR_at f4 f5
        rw [hins] at hk
        have hbn : bn = 0 := by cases c2; rfl
        subst hbn
        obtain ⟨i, T1, hp⟩ : ∃ i T1, PutAt T ⟨s, -1, -1, par π, true⟩ i T1 := by
          rcases List.eq_nil_or_concat T.free with e | ⟨fs, i, e⟩
          · exact ⟨_, _, .app e⟩
          · rw [List.concat_eq_append] at e
            have := hI.mem (i := i) (by rw [e]; simp)
            exact ⟨i, _, .reuse e this.1 this.2.1⟩
        obtain ⟨p1, p2, p3, p4, p5, p6, p7, p8⟩ := hp.facts hI
        have hsub : ∀ j, j ∈ cids π → j ∈ t.ids := fun j hj => by rw [← f3]; exact cids_sub hj
        have hz := f2.link p1 p2 (fun hj => p5 (hsub i hj)) (fun j hj => p6 j (hsub j hj)) p3
        obtain ⟨k, T', hr, hres⟩ := rise_ex π.length (d := false) (Nat.le_refl _) (show Z _ π (Tr.mk false i true s .nil .nil) from hz) .nil .nil rfl rfl c1
        have hsm : Sm T1 (linkT T1 π i) := by
          cases π with
          | nil => exact Sm.root _ _
          | cons f π => exact Sm.setK _ _ _ _
        obtain ⟨t2, g1, g2, g3⟩ := Inv.of_res (hres.from hsm rfl (List.Perm.refl _)) (p7 _ (by
            simp only [Tr.ids, List.append_nil] at hids
            refine List.Perm.trans ?_ (List.Perm.cons _ hids.symm)
            show (cids π ++ [i]).Perm (i :: cids π)
            exact List.perm_append_comm)) p8 (by
            show Srt (cbef π ++ [s] ++ caft π)
            simp only [Tr.inord, List.append_nil] at hsr
            simpa using hsr.insert f4 f5) (by
            intro x hx
            have hx : x ∈ cbef π ++ [s] ++ caft π := hx
            simp only [List.mem_append, List.mem_singleton] at hx
            rcases hx with (hx | rfl) | hx
            · exact hgo x (by rw [hin]; simp [hx])
            · exact hgk
            · exact hgo x (by rw [hin]; simp [hx]))
        have g2' : t2.inord = cbef π ++ s :: caft π := by rw [g2]; simp [Tr.mk, Tr.inord]
        cases π with
        | nil => exact Put_new0 H hg f1 (by omega) hp hr (fun w' h' H' O' => hk w' h' T' t2 H' g1 g2' (g3.trans p4) O')
        | cons f π =>
          obtain ⟨d, p, c, fs, o⟩ := f
          have hpo : T1.ok p := (p6 p (hsub p (by simp [cids])) f2.par_at.1).1
          cases d with
          | false => exact Put_new_setL H hg f1 (by omega) hp hpo hr (fun w' h' H' O' => hk w' h' T' t2 H' g1 g2' (g3.trans p4) O')
          | true => exact Put_new_setR H hg f1 (by omega) hp hpo hr (fun w' h' H' O' => hk w' h' T' t2 H' g1 g2' (g3.trans p4) O')
    · have hxk : x.k = s.k := by
        have := goodK_canon (hgo x (by rw [hin]; simp [Tr.inord]))
        rw [← this, ← hcx, hck]
      have hin2 : t.inord = (cbef π ++ l.inord) ++ x :: (r.inord ++ caft π) := by rw [hin]; simp [Tr.inord]
      have hsr2 := hI.srt
      rw [hin2] at hsr2
      have hsome : findR (s.ls, s.la) t.inord 0 = ((cbef π ++ l.inord).length : Nat) := by
        rw [hin2]
        refine (findR_some (c := s.k) (x := x) ?_ (by rw [hck]; exact hxk) 0).trans (by omega)
        · intro a ha e
          have := hsr2.split.1 a ha
          rw [e, hck, hxk] at this
          exact ltK_irrefl _ this
      rw [hsome, if_pos (by omega)] at hk
      simp only [Int.toNat_natCast] at hk
      have hset : t.inord.set (cbef π ++ l.inord).length s = (cbef π ++ l.inord) ++ s :: (r.inord ++ caft π) := by
        rw [hin2, List.set_append_right _ _ (Nat.le_refl _)]; simp
      rw [hset] at hk
      have hz := f2.setSeg s
      have hb' : Bal (.node i cc s l r) bn := by cases c2 with
        | red a b c d => exact .red a b c d
        | black a b => exact .black a b
      obtain ⟨t2, g1, g2, g3⟩ := Inv.of_res ((Res.plug hz c1 hb' c3).from (Sm.upd _ _ _) rfl (List.Perm.refl _)) ((hids.symm.append (List.Perm.refl _)).trans hI.perm) hI.unused (by
          simpa [Tr.inord] using hsr2.replace (y := s) (by rw [hxk])) (by
          intro y hy
          have hy : y ∈ cbef π ++ (l.inord ++ s :: r.inord) ++ caft π := hy
          simp only [List.mem_append, List.mem_cons] at hy
          rcases hy with (hy | hy | rfl | hy) | hy
          · exact hgo y (by rw [hin2]; simp [hy])
          · exact hgo y (by rw [hin2]; simp [hy])
          · exact hgk
          · exact hgo y (by rw [hin2]; simp [hy])
          · exact hgo y (by rw [hin2]; simp [hy]))
      exact Put_set H hg f1 f2.at.1 (fun w' H' O' => hk w' h _ t2 H' g1 (by rw [g2]; simp [Tr.inord]) g3 O')
end
end Go.Proofs.Ytkajknicgabdkaa

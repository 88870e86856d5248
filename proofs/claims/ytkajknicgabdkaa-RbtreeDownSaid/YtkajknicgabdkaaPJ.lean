/-
  The laws of Height, Check, all, Clear, New: of whatever tree.
-/
import Derived.Test.YtkajknicgabdkaaPI
namespace Go.Proofs.Ytkajknicgabdkaa
open Go.RowKit
def Tr.ht : Tr → Nat
  | .nil => 0
  | .node _ _ _ l r => max l.ht r.ht + 1
theorem ht_mk (d : Bool) (i : Int) (c : Bool) (s : Seg) (a b : Tr) : (Tr.mk d i c s a b).ht = max a.ht b.ht + 1 := by
  cases d <;> simp [Tr.mk, Tr.ht, Nat.max_comm]
theorem ht_plug (π : List Frm) (t : Tr) : π.length + t.ht ≤ (plug π t).ht := by
  induction π generalizing t with
  | nil => simp [plug]
  | cons f π ih =>
    have := ih (Tr.mk f.d f.i f.c f.s t f.o)
    rw [ht_mk] at this
    simp only [plug, List.length_cons]; omega
theorem ht_ex : ∀ (t : Tr), t ≠ .nil → ∀ π0, ∃ π i c s l r, plug π0 t = plug π (.node i c s l r) ∧ π.length + 1 = π0.length + t.ht := by
  intro t
  induction t with
  | nil => intro h; exact absurd rfl h
  | node j c s l r h1 h2 =>
    intro _ π0
    by_cases hl : l.ht = 0 ∧ r.ht = 0
    · exact ⟨π0, j, c, s, l, r, rfl, by simp [Tr.ht, hl.1, hl.2]⟩
    · by_cases hm : r.ht ≤ l.ht
      · obtain ⟨π, i, c', s', l', r', e1, e2⟩ := h1 (by rintro rfl; simp [Tr.ht] at hl hm; omega) (⟨false, j, c, s, r⟩ :: π0)
        exact ⟨π, i, c', s', l', r', e1, by rw [e2]; simp only [List.length_cons, Tr.ht]; omega⟩
      · obtain ⟨π, i, c', s', l', r', e1, e2⟩ := h2 (by rintro rfl; simp [Tr.ht] at hl hm) (⟨true, j, c, s, l⟩ :: π0)
        exact ⟨π, i, c', s', l', r', e1, by rw [e2]; simp only [List.length_cons, Tr.ht]; omega⟩
theorem bal_ht {t : Tr} {n : Nat} (h : Bal t n) : t.ht ≤ 2 * n + (if t.red then 1 else 0) := by
  induction h with
  | nil => simp [Tr.ht]
  | red _ _ c1 c2 h1 h2 => simp [c1, c2] at h1 h2; simp [Tr.ht, Tr.red]; omega
  | black _ _ h1 h2 => 
    simp only [Tr.ht, Tr.red]
    have a1 : ∀ b : Bool, (if b = true then 1 else 0) ≤ 1 := by intro b; cases b <;> simp
    have := a1 
    rename_i l r _ _
    have := a1 l.red; have := a1 r.red
    simp; omega
theorem bal0_len {t : Tr} (h : Bal t 0) : t.inord.length ≤ 1 ∧ (t.red = false → t = .nil) := by
  cases h with
  | nil => exact ⟨by simp [Tr.inord], fun _ => rfl⟩
  | red hl hr cl cr =>
    have h1 : ∀ {t : Tr}, Bal t 0 → t.red = false → t = .nil := by
      intro t h c; cases h with
      | nil => rfl
      | red _ _ _ _ => cases c
    rw [h1 hl cl, h1 hr cr]
    exact ⟨by simp [Tr.inord], fun h => by cases h⟩
theorem ht_one {t : Tr} (h : t.inord.length = 1) : t.ht = 1 := by
  cases t with
  | nil => simp [Tr.inord] at h
  | node i c s l r =>
    simp [Tr.inord] at h
    have hl : l = .nil := by cases l with
      | nil => rfl
      | node => simp [Tr.inord] at h; omega
    have hr : r = .nil := by cases r with
      | nil => rfl
      | node => simp [Tr.inord] at h; omega
    subst hl hr; rfl
theorem ht_three {t : Tr} {n : Nat} (h : Bal t n) (hc : t.red = false) (hl : t.inord.length = 3) : t.ht = 2 := by
  cases h with
  | nil => simp [Tr.inord] at hl
  | red => cases hc
  | @black n i s l r h1 h2 =>
    simp only [Tr.inord, List.length_append, List.length_cons] at hl
    have key : l.inord.length ≠ 0 ∧ r.inord.length ≠ 0 := by
      constructor
      · intro h0
        have : l = .nil := by cases l with
          | nil => rfl
          | node => simp [Tr.inord] at h0
        subst this
        cases h1
        have := (bal0_len h2).1; omega
      · intro h0
        have : r = .nil := by cases r with
          | nil => rfl
          | node => simp [Tr.inord] at h0
        subst this
        cases h2
        have := (bal0_len h1).1; omega
    rw [Tr.ht, ht_one (by omega : l.inord.length = 1), ht_one (by omega : r.inord.length = 1)]
    rfl

section
variable {w : World} {b : Nat} {h : Han} {T : TS} {t : Tr} {R : Ending → World → Prop}
theorem Inv.mem_ok (h : Inv T t) {i : Int} (hi : T.ok i) : i ∈ t.ids := by
  have h1 : i ∈ (List.range T.ps.length).map Int.ofNat := by
    refine List.mem_map.2 ⟨i.toNat, List.mem_range.2 (by have := hi.1; have := hi.2.1; omega), ?_⟩
    have := hi.1
    show (i.toNat : Int) = i
    omega
  rcases List.mem_append.1 (h.perm.mem_iff.2 h1) with h2 | h2
  · exact h2
  · have := h.unused i h2
    rw [hi.2.2] at this; cases this
theorem Inv.node (h : Inv T t) {i : Int} (hi : T.ok i) : ∃ π c s l r, t = plug π (.node i c s l r) ∧ Z T π (.node i c s l r) := by
  obtain ⟨π, c, s, l, r, e⟩ := node_ex (h.mem_ok hi)
  exact ⟨π, c, s, l, r, e, Z.plug.2 (by rw [← e]; exact h.z)⟩
theorem each_ex (T : TS) : ∀ (d k : Nat), k + d = T.ps.length → ∃ xs, EachL T k xs ∧ ∀ i (h : T.ok i), (k : Int) ≤ i → (⟨i, h⟩ : { i : Int // T.ok i }) ∈ xs := by
  intro d
  induction d with
  | zero => intro k hk; exact ⟨[], .stop (by omega), fun i h hi => by have := h.2.1; omega⟩
  | succ d ih =>
    intro k hk
    obtain ⟨xs, h1, h2⟩ := ih (k + 1) (by omega)
    by_cases hu : (T.pl (k : Int)).used = true
    · have hok : T.ok (k : Int) := ⟨by omega, by omega, hu⟩
      refine ⟨⟨k, hok⟩ :: xs, .use hok h1, fun i h hi => ?_⟩
      by_cases e : i = (k : Int)
      · subst e; simp
      · exact List.mem_cons_of_mem _ (h2 i h (by omega))
    · refine ⟨xs, .skip (by omega) (by simpa using hu) h1, fun i h hi => ?_⟩
      by_cases e : i = (k : Int)
      · subst e; exact absurd h.2.2 hu
      · exact h2 i h (by omega)
open Classical in
noncomputable def depF (T : TS) (i : Int) : Nat := if h : ∃ m k, Deep T i m k ∧ m < 100000 then h.choose else 0
open Classical in
noncomputable def blkF (T : TS) (i : Int) : Nat := if h : ∃ k m, Deep T i m k ∧ m < 100000 then h.choose else 0
theorem depF_lt (T : TS) (i : Int) : depF T i < 100000 := by
  unfold depF
  split
  · rename_i h; exact h.choose_spec.choose_spec.2
  · omega
theorem dep_of {m k : Nat} {i : Int} (h : Deep T i m k) (hm : m < 100000) : depF T i = m ∧ blkF T i = k := by
  constructor
  · unfold depF
    have h1 : ∃ m k, Deep T i m k ∧ m < 100000 := ⟨m, k, h, hm⟩
    rw [dif_pos h1]
    exact (h1.choose_spec.choose_spec.1.det h).1
  · unfold blkF
    have h1 : ∃ k m, Deep T i m k ∧ m < 100000 := ⟨k, m, h, hm⟩
    rw [dif_pos h1]
    exact (h1.choose_spec.choose_spec.1.det h).2
theorem len_plug (π : List Frm) (t : Tr) : π.length + t.ids.length ≤ (plug π t).ids.length := by
  have := (ids_plug π t).length_eq
  rw [this]
  have h : ∀ π : List Frm, π.length ≤ (cids π).length := by
    intro π
    induction π with
    | nil => simp
    | cons f π ih => simp [cids]; omega
  have := h π
  simp; omega
theorem Inv.dep (h : Inv T t) (hn : T.ps.length ≤ 65536) {π : List Frm} {i : Int} {c : Bool} {s : Seg} {l r : Tr} (e : t = plug π (.node i c s l r)) :
    Deep T i (depF T i) (blkF T i) ∧ depF T i = π.length + 1 ∧ blkF T i = blacks π + if c then 0 else 1 := by
  have hz : Z T π (.node i c s l r) := Z.plug.2 (by rw [← e]; exact h.z)
  have h1 := deep_node hz
  have h2 := len_plug π (.node i c s l r)
  rw [← e] at h2
  have h5 := h.len
  have h6 := ids_inord t
  obtain ⟨h3, h4⟩ := dep_of h1 (by omega)
  rw [h3, h4]
  exact ⟨h1, rfl, rfl⟩
theorem maxL_le {l : List Nat} {m : Nat} (h : ∀ x ∈ l, x ≤ m) : maxL l ≤ m := by
  unfold maxL
  suffices H : ∀ a, a ≤ m → l.foldl max a ≤ m from H 0 (Nat.zero_le _)
  induction l with
  | nil => intro a ha; exact ha
  | cons x l ih => intro a ha; exact ih (fun y hy => h y (by simp [hy])) _ (by have := h x (by simp); omega)
theorem le_maxL {l : List Nat} {x : Nat} (h : x ∈ l) : x ≤ maxL l := by
  unfold maxL
  suffices H : ∀ a, a ≤ l.foldl max a ∧ (x ∈ l → x ≤ l.foldl max a) from (H 0).2 h
  clear h
  induction l with
  | nil => intro a; exact ⟨Nat.le_refl _, fun h => by cases h⟩
  | cons y l ih =>
    intro a
    have := ih (max a y)
    refine ⟨by simp only [List.foldl_cons]; omega, fun h => ?_⟩
    rcases List.mem_cons.1 h with rfl | h
    · simp only [List.foldl_cons]; omega
    · exact this.2 h
theorem Height_law (H : Tree w b h T) (hI : Inv T t) (hk : ∀ w', Below w.heap.size w w' → R (.returned (.int .i64 t.ht)) w') : Calls Try.prog 18 #[.pointer (some ⟨h.t, 0, none⟩)] w R := by
  obtain ⟨xs, h1, h2⟩ := each_ex T T.ps.length 0 (by omega)
  have hd : ∀ i, T.ok i → ∃ k, Deep T i (depF T i) k := fun i hi => by
    obtain ⟨π, c, s, l, r, e, hz⟩ := hI.node hi
    exact ⟨_, (hI.dep H.ln e).1⟩
  have hh : hgt (T := T) (depF T) xs = t.ht := by
    refine Nat.le_antisymm (maxL_le fun x hx => ?_) ?_
    · obtain ⟨y, hy, rfl⟩ := List.mem_map.1 hx
      obtain ⟨π, c, s, l, r, e, hz⟩ := hI.node y.2
      rw [(hI.dep H.ln e).2.1, e]
      have := ht_plug π (.node y.1 c s l r)
      simp only [Tr.ht] at this ⊢
      omega
    · by_cases ht : t = .nil
      · rw [ht]; simp [Tr.ht]
      · obtain ⟨π, i, c, s, l, r, e1, e2⟩ := ht_ex t ht []
        have hz : Z T π (.node i c s l r) := Z.plug.2 (by rw [← e1]; exact hI.z)
        have hm := h2 i hz.at.1 (by have := hz.at.1.1; omega)
        have h3 := (hI.dep H.ln (show t = plug π _ from e1)).2.1
        have h4 : depF T i ≤ hgt (depF T) xs := le_maxL (List.mem_map.2 ⟨_, hm, rfl⟩)
        rw [h3, e2] at h4
        simpa using h4
  rw [← hh] at hk
  exact Height_k H h1 hd (depF_lt T) hk

theorem Inv.fine (hI : Inv T t) {i : Int} (hi : T.ok i) (d : Bool) : FineS T i d := by
  obtain ⟨π, c, s, l, r, e, hz⟩ := hI.node hi
  obtain ⟨m, hm⟩ := hI.bal
  have hb := hI.blk
  rw [e] at hm hb
  obtain ⟨n, c1, c2, c3⟩ := bal_unplug hm hb
  obtain ⟨a, o, hao⟩ : ∃ a o, Tr.node i c s l r = Tr.mk d i c s a o := by
    cases d
    · exact ⟨l, r, rfl⟩
    · exact ⟨r, l, rfl⟩
  rw [hao] at hz c2 c3
  have hk := (TS.kid_nodeD hz.atD.2).1
  unfold FineS
  rw [hk]
  by_cases ha : a = .nil
  · subst ha; exact .inl rfl
  · right
    have hza := hz.dn
    refine ⟨hza.ok_idx.resolve_left (idx_ne hza ha), ?_, ?_⟩
    · obtain ⟨j, s', x, y, hja⟩ := as_mk d ha
      rw [hja] at hza ⊢
      rw [Tr.idx_mk]
      exact par_of hza
    · have h1 := hz.red_idx
      rw [Tr.idx_mk, Tr.red_mk] at h1
      rw [h1, hza.red_idx]
      cases c with
      | false => exact .inl rfl
      | true => exact .inr c2.unr.2.2.1
theorem Srt.rising {L : List Seg} (h : Srt L) : Rising L := by
  intro p x c q e
  rw [e] at h
  exact (cmpC_neg _ _).2 (h.split.2 c (by simp))
theorem Check_law (H : Tree w b h T) (hI : Inv T t) (hk : ∀ w', Below w.heap.size w w' → R (.returned (.bool true)) w') : Calls Try.prog 14 #[.pointer (some ⟨h.t, 0, none⟩)] w R := by
  have hlen := hI.len
  have hroot : T.root = t.idx := hI.z.root
  by_cases ht : t = .nil
  · subst ht
    exact Check_empty H hroot (by simp [Tr.inord] at hlen; omega) hk
  · obtain ⟨xs, h1, -⟩ := each_ex T T.ps.length 0 (by omega)
    obtain ⟨k, i0, h3, h4⟩ := hI.walk true
    obtain ⟨m, hm⟩ := hI.bal
    refine Check_true (B := m) (dep := depF T) (blk := blkF T) H ?_ ?_ h1 (fun i hi => ⟨hI.fine hi false, hI.fine hi true⟩) (fun i hi => ?_) (depF_lt T) (fun i hi hl => ?_) h3 h4 hI.srt.rising (by show t.inord.length + _ = _; omega) hk
    · rw [hroot]; exact hI.z.ok_idx.resolve_left (idx_ne hI.z ht)
    · rw [hroot, hI.z.red_idx]; exact hI.blk
    · obtain ⟨π, c, s, l, r, e, hz⟩ := hI.node hi
      exact (hI.dep H.ln e).1
    · obtain ⟨π, c, s, l, r, e, hz⟩ := hI.node hi
      rw [(hI.dep H.ln e).2.2]
      have hb := hI.blk
      rw [e] at hm hb
      obtain ⟨n, c1, c2, c3⟩ := bal_unplug hm hb
      have h5 := balC_blacks c1 c2 hm c3
      rw [hz.at.2] at hl
      have h6 : l = .nil ∨ r = .nil := by
        rcases hl with hl | hl
        · left; by_cases e : l = .nil
          · exact e
          · exact absurd hl (idx_ne hz.dl e)
        · right; by_cases e : r = .nil
          · exact e
          · exact absurd hl (idx_ne hz.dr e)
      cases c2 with
      | red a1 a2 _ _ =>
        have : n = 0 := by
          rcases h6 with rfl | rfl
          · cases a1; rfl
          · cases a2; rfl
        simp; omega
      | @black n' _ _ _ _ a1 a2 =>
        have : n' = 0 := by
          rcases h6 with rfl | rfl
          · cases a1; rfl
          · cases a2; rfl
        simp; omega
theorem all_law (H : Tree w b h T) (hI : Inv T t) (hk : ∀ v w', SRow w' w.heap.size v t.inord → Below w.heap.size w w' → R (.returned v) w') :
    Calls Try.prog 16 #[.pointer (some ⟨h.t, 0, none⟩)] w R := by
  obtain ⟨k, i0, h3, h4⟩ := hI.walk true
  have := hI.len
  have := H.ln
  exact all_k H h3 h4 (by show t.inord.length ≤ 65536; omega) hk
theorem Inv.nil (room : Int) : Inv ⟨room, -1, [], []⟩ .nil :=
  ⟨⟨rfl, by simp [ctab], by simp [Tr.tab], by simp [cids, Tr.ids]⟩, ⟨0, .nil⟩, rfl, by simp [Tr.ids], by simp, by simp [Srt, Tr.inord], by simp [Tr.inord]⟩
theorem bits_ge {m : Nat} : ∀ (f n : Nat), n < 2 ^ f → 2 ^ m ≤ n → m + 1 ≤ bitsR f n := by
  induction m with
  | zero =>
    intro f n h1 h2
    cases f with
    | zero => simp at h1 h2; omega
    | succ f => simp only [bitsR]; rw [if_neg (by simp at h2; omega)]; omega
  | succ m ih =>
    intro f n h1 h2
    cases f with
    | zero => have := Nat.one_le_two_pow (n := m + 1); simp at h1; omega
    | succ f =>
      have h3 : n ≠ 0 := by have := Nat.one_le_two_pow (n := m + 1); omega
      simp only [bitsR]
      rw [if_neg h3]
      have := ih f (n / 2) (by rw [Nat.pow_succ] at h1; omega) (by rw [Nat.pow_succ] at h2; omega)
      omega
theorem Inv.ht_le (hI : Inv T t) {f : Nat} (hf : t.inord.length + 1 < 2 ^ f) : t.ht ≤ 2 * bitsR f (t.inord.length + 1) ∧ (t.ht = 0 ↔ t.inord.length = 0) := by
  obtain ⟨m, hm⟩ := hI.bal
  have h1 := bal_ht hm
  have h2 := bits_ge f _ hf (bal_size hm)
  rw [hI.blk] at h1
  refine ⟨by simp at h1; omega, ?_⟩
  cases t <;> simp [Tr.ht, Tr.inord]
end
end Go.Proofs.Ytkajknicgabdkaa

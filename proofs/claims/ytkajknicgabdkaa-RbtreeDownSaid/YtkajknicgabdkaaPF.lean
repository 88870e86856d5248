/-
  Plain: the order of keys; a tree whose segments rise; the way down to a key.
-/
import Derived.Test.YtkajknicgabdkaaPE
import Derived.Test.YtkajknicgabdkaaWd
namespace Go.Proofs.Ytkajknicgabdkaa

def ltK (a b : K) : Prop := (canon a).1 < (canon b).1 ∨ ((canon a).1 = (canon b).1 ∧ (canon a).2 < (canon b).2)
theorem cmpC_neg (a b : K) : cmpC a b < 0 ↔ ltK a b := by
  unfold cmpC cmpK cmpI ltK; grind
theorem cmpC_zero (a b : K) : cmpC a b = 0 ↔ canon a = canon b := by
  rw [Prod.ext_iff]; unfold cmpC cmpK cmpI; grind
theorem cmpC_pos (a b : K) : 0 < cmpC a b ↔ ltK b a := by
  unfold cmpC cmpK cmpI ltK; grind
theorem ltK_trans {a b c : K} (h : ltK a b) (k : ltK b c) : ltK a c := by unfold ltK at *; omega
theorem ltK_irrefl (a : K) : ¬ ltK a a := by unfold ltK; omega
theorem ltK_tri (a b : K) : ltK a b ∨ canon a = canon b ∨ ltK b a := by rw [Prod.ext_iff]; unfold ltK; omega
theorem ltK_congr {a b c : K} (h : canon a = canon b) : (ltK a c ↔ ltK b c) ∧ (ltK c a ↔ ltK c b) := by unfold ltK; rw [h]; exact ⟨Iff.rfl, Iff.rfl⟩
theorem canon_canon (c : K) : canon (canon c) = canon c := by
  unfold canon
  split
  · rw [if_pos (by simp)]
  · split
    · rw [if_neg (by simp), if_pos (by simp)]
    · rename_i h1 h2
      simp [h1, h2]
theorem goodK_canon {c : K} (h : goodK c = true) : canon c = c := by
  have := (good_parts h).1
  unfold rightB at this
  rw [Bool.and_eq_true, beq_iff_eq, beq_iff_eq] at this
  exact Prod.ext this.1 this.2
theorem goodK_iff (c : K) : goodK c = true ↔ canon c = c ∧ ¬ 0 < c.1 := by
  constructor
  · intro h
    refine ⟨goodK_canon h, fun h1 => ?_⟩
    have h2 := goodK_canon h
    have h3 := (good_parts h).2
    rw [canon, if_neg (by omega), if_pos h1] at h2
    rw [← h2] at h3
    simp at h3
  · rintro ⟨h1, h2⟩
    unfold goodK rightB
    rw [h1]
    have : ¬ c.1 = 1 := by omega
    simp [this]

def Seg.k (s : Seg) : K := (s.ls, s.la)
def Srt (L : List Seg) : Prop := L.Pairwise (fun a b => ltK a.k b.k)
theorem Srt.split {A B : List Seg} {x : Seg} (h : Srt (A ++ x :: B)) : (∀ a ∈ A, ltK a.k x.k) ∧ (∀ b ∈ B, ltK x.k b.k) := by
  unfold Srt at h
  rw [List.pairwise_append, List.pairwise_cons] at h
  exact ⟨fun a ha => h.2.2 a ha x (by simp), h.2.1.1⟩
theorem Srt.replace {A B : List Seg} {x y : Seg} (h : Srt (A ++ x :: B)) (hk : canon y.k = canon x.k) : Srt (A ++ y :: B) := by
  unfold Srt at *
  rw [List.pairwise_append, List.pairwise_cons] at *
  refine ⟨h.1, ⟨fun b hb => (ltK_congr hk).1.2 (h.2.1.1 b hb), h.2.1.2⟩, fun a ha b hb => ?_⟩
  rcases List.mem_cons.1 hb with rfl | hb
  · exact (ltK_congr hk).2.2 (h.2.2 a ha x (by simp))
  · exact h.2.2 a ha b (by simp [hb])
theorem Srt.insert {A B : List Seg} {x : Seg} (h : Srt (A ++ B)) (ha : ∀ a ∈ A, ltK a.k x.k) (hb : ∀ b ∈ B, ltK x.k b.k) : Srt (A ++ x :: B) := by
  unfold Srt at *
  rw [List.pairwise_append, List.pairwise_cons] at *
  refine ⟨h.1, ⟨hb, h.2.1⟩, fun a ha' b hb' => ?_⟩
  rcases List.mem_cons.1 hb' with rfl | hb'
  · exact ha a ha'
  · exact h.2.2 a ha' b hb'
theorem Srt.remove {A B : List Seg} {x : Seg} (h : Srt (A ++ x :: B)) : Srt (A ++ B) := by
  unfold Srt at *
  rw [List.pairwise_append, List.pairwise_cons] at *
  exact ⟨h.1, h.2.1.2, fun a ha b hb => h.2.2 a ha b (by simp [hb])⟩

/-- What holds of a tree between two calls. -/
structure Inv (T : TS) (t : Tr) : Prop where
  z : Z T [] t
  bal : ∃ m, Bal t m
  blk : t.red = false
  perm : (t.ids ++ T.free).Perm ((List.range T.ps.length).map Int.ofNat)
  unused : ∀ i ∈ T.free, (T.pl i).used = false
  srt : Srt t.inord
  good : ∀ s ∈ t.inord, goodK s.k = true
theorem ids_inord (t : Tr) : t.ids.length = t.inord.length := by
  induction t with
  | nil => rfl
  | node i c s l r h1 h2 => simp [Tr.ids, Tr.inord, h1, h2]; omega
theorem Inv.len {T : TS} {t : Tr} (h : Inv T t) : T.ps.length = t.inord.length + T.free.length := by
  have := h.perm.length_eq
  simp only [List.length_append, List.length_map, List.length_range, ids_inord] at this
  omega
def dirOf : List Frm → Bool
  | [] => false
  | f :: _ => f.d
theorem find_ex {T : TS} {c : K} : ∀ (t : Tr) {π : List Frm}, Z T π t → Srt (cbef π ++ t.inord ++ caft π) → (∀ x ∈ cbef π, ltK x.k c) → (∀ x ∈ caft π, ltK c x.k) →
    ∃ n π' t', Find T c n t.idx (par π) (dirOf π) t'.idx (par π') (dirOf π') ∧ Z T π' t' ∧ plug π' t' = plug π t ∧ (∀ x ∈ cbef π', ltK x.k c) ∧ (∀ x ∈ caft π', ltK c x.k) ∧
      (t' = .nil ∨ ∃ i cc s l r, t' = .node i cc s l r ∧ canon c = canon s.k) := by
  intro t
  induction t with
  | nil => intro π h _ h1 h2; exact ⟨0, π, .nil, Find.none, h, rfl, h1, h2, .inl rfl⟩
  | node i cc s l r ihl ihr =>
    intro π h hs h1 h2
    obtain ⟨hi, hn⟩ := h.at
    have hkey : (T.nd i).key = s.k := by rw [hn]; rfl
    have hs' : Srt ((cbef π ++ l.inord) ++ s :: (r.inord ++ caft π)) := by simpa [Tr.inord] using hs
    obtain ⟨s1, s2⟩ := hs'.split
    rcases ltK_tri c s.k with hlt | heq | hgt
    · obtain ⟨n, π', t', f1, f2, f3, f4, f5, f6⟩ := ihl h.dl (by simpa [cbef, caft, Tr.inord] using hs) (by simpa [cbef] using h1) (by
        intro x hx
        simp only [caft, List.mem_cons, List.mem_append] at hx
        rcases hx with rfl | hx | hx
        · exact hlt
        · exact ltK_trans hlt (s2 x (by simp [hx]))
        · exact h2 x hx)
      refine ⟨n + 1, π', t', Find.less hi ?_ ?_ f1, f2, ?_, f4, f5, f6⟩
      · show cmpC c (T.nd i).key < 0; rw [hkey]; exact (cmpC_neg _ _).2 hlt
      · show (T.nd i).l = _; rw [hn]
      · rw [f3]; rfl
    · exact ⟨0, π, _, Find.hit hi (by show cmpC c (T.nd i).key = 0; rw [hkey]; exact (cmpC_zero _ _).2 heq), h, rfl, h1, h2, .inr ⟨_, _, _, _, _, rfl, heq⟩⟩
    · obtain ⟨n, π', t', f1, f2, f3, f4, f5, f6⟩ := ihr h.dr (by simpa [cbef, caft, Tr.inord] using hs) (by
        intro x hx
        simp only [cbef, List.mem_cons, List.mem_append, List.mem_singleton, List.not_mem_nil, or_false] at hx
        rcases hx with hx | hx | rfl
        · exact h1 x hx
        · exact ltK_trans (s1 x (by simp [hx])) hgt
        · exact hgt) (by simpa [caft] using h2)
      refine ⟨n + 1, π', t', Find.more hi ?_ ?_ f1, f2, ?_, f4, f5, f6⟩
      · show 0 < cmpC c (T.nd i).key; rw [hkey]; exact (cmpC_pos _ _).2 hgt
      · show (T.nd i).r = _; rw [hn]
      · rw [f3]; rfl
theorem Inv.find {T : TS} {t : Tr} (h : Inv T t) (c : K) : ∃ n π' t', Find T c n T.root (-1) false t'.idx (par π') (dirOf π') ∧ Z T π' t' ∧ plug π' t' = t ∧ (∀ x ∈ cbef π', ltK x.k c) ∧ (∀ x ∈ caft π', ltK c x.k) ∧
      (t' = .nil ∨ ∃ i cc s l r, t' = .node i cc s l r ∧ canon c = canon s.k) := by
  obtain ⟨n, π', t', f1, f2, f3, f4, f5, f6⟩ := find_ex (c := c) t h.z (by simpa [cbef, caft] using h.srt) (by simp [cbef]) (by simp [caft])
  rw [show t.idx = T.root from h.z.root.symm] at f1
  exact ⟨n, π', t', f1, f2, f3, f4, f5, f6⟩
end Go.Proofs.Ytkajknicgabdkaa

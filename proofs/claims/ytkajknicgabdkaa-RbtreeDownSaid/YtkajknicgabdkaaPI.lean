/-
  Plain: going through a tree from one end on; how deep its nodes stand.
-/
import Derived.Test.YtkajknicgabdkaaPH
import Derived.Test.YtkajknicgabdkaaWj
namespace Go.Proofs.Ytkajknicgabdkaa

def inD (s : Bool) (t : Tr) : List Seg := match s with | true => t.inord | false => t.inord.reverse
def afD (s : Bool) (π : List Frm) : List Seg := match s with | true => caft π | false => (cbef π).reverse
theorem inD_mk (s : Bool) (i : Int) (c : Bool) (sg : Seg) (a b : Tr) : inD s (Tr.mk s i c sg a b) = inD s b ++ sg :: inD s a := by
  cases s <;> simp [inD, Tr.mk, Tr.inord]
theorem afD_same {s : Bool} {f : Frm} (h : f.d = s) (π : List Frm) : afD s (f :: π) = afD s π := by
  cases s <;> simp [afD, caft, cbef, h]
theorem afD_other {s : Bool} {f : Frm} (h : f.d = !s) (π : List Frm) : afD s (f :: π) = f.s :: (inD s f.o ++ afD s π) := by
  cases s <;> simp at h <;> simp [afD, caft, cbef, h, inD]
theorem afD_append (s : Bool) (ρ π : List Frm) : afD s (ρ ++ π) = afD s ρ ++ afD s π := by
  cases s
  · simp [afD, cbef_append']
  · exact caft_append _ _
theorem inD_plug {s : Bool} {ρ : List Frm} (h : ∀ f ∈ ρ, f.d = !s) (t : Tr) : inD s (plug ρ t) = inD s t ++ afD s ρ := by
  cases s
  · have : caft ρ = [] := by have := caft_append' (π := []) h; simpa [caft] using this
    simp [inD, afD, inord_plug, this]
  · have : cbef ρ = [] := by have := cbef_append (π := []) h; simpa [cbef] using this
    simp [inD, afD, inord_plug, this]
theorem climb_ex {T : TS} (s : Bool) : ∀ (π : List Frm) {t : Tr}, t ≠ .nil → Z T π t →
    ∃ m, (Climb T s m t.idx (par π) (-1) ∧ afD s π = []) ∨ (∃ i c sg o t1 π1, Climb T s m t.idx (par π) i ∧ Z T π1 (Tr.mk s i c sg o t1) ∧ afD s π = sg :: (inD s o ++ afD s π1)) := by
  intro π
  induction π with
  | nil => intro t _ h; exact ⟨0, .inl ⟨Climb.root, by cases s <;> rfl⟩⟩
  | cons f π ih =>
    intro t ht h
    have hsd := h.side (fun e => absurd e (idx_ne h ht))
    by_cases hf : f.d = s
    · have hup := Z.up.1 h
      obtain ⟨m, hm⟩ := ih (by cases hd : f.d <;> simp [Tr.mk]) hup
      have hpp : (T.nd f.i).p = par π := par_of hup
      rw [Tr.idx_mk] at hm
      rcases hm with ⟨h1, h2⟩ | ⟨i, c, sg, o, t1, π1, h1, h2, h3⟩
      · exact ⟨m + 1, .inl ⟨Climb.go h.par_at.1 (hsd.trans hf) hpp h1, (afD_same hf π).trans h2⟩⟩
      · exact ⟨m + 1, .inr ⟨i, c, sg, o, t1, π1, Climb.go h.par_at.1 (hsd.trans hf) hpp h1, h2, (afD_same hf π).trans h3⟩⟩
    · have hf' : f.d = !s := by cases hd : f.d <;> cases s <;> simp_all
      refine ⟨0, .inr ⟨f.i, f.c, f.s, f.o, t, π, Climb.stop h.par_at.1 (hsd.trans hf'), ?_, afD_other hf' π⟩⟩
      have := Z.up.1 h
      rw [hf', mk_flip, Bool.not_not] at this
      exact this
theorem walks_ex {T : TS} (s : Bool) : ∀ (m : Nat) {π : List Frm} {i : Int} {c : Bool} {sg : Seg} {a b : Tr}, (inD s a ++ afD s π).length ≤ m → Z T π (Tr.mk s i c sg a b) → Walks T s i (sg :: (inD s a ++ afD s π)) := by
  intro m
  induction m with
  | zero =>
    intro π i c sg a b hm h
    have hn := List.eq_nil_of_length_eq_zero (Nat.le_zero.1 hm)
    have hi := h.atD.1
    obtain ⟨k1, -, k3, -, k5⟩ := TS.kid_nodeD h.atD.2
    rw [hn]
    have ha : a = .nil := by
      cases a with
      | nil => rfl
      | node => have := congrArg List.length hn; cases s <;> simp [inD, Tr.inord] at this
    subst ha
    obtain ⟨m, ⟨h1, h2⟩ | ⟨i1, c1, sg1, o, t1, π1, h1, h2, h3⟩⟩ := climb_ex s π (t := Tr.mk s i c sg .nil b) (by cases s <;> simp [Tr.mk]) h
    · rw [Tr.idx_mk] at h1
      have := Walks.cons hi (.inr ⟨k1, par π, k3, m, h1⟩) (Walks.nil (T := T) (s := s))
      rwa [k5] at this
    · rw [h3] at hn; simp at hn
  | succ m ih =>
    intro π i c sg a b hm h
    have hi := h.atD.1
    obtain ⟨k1, -, k3, -, k5⟩ := TS.kid_nodeD h.atD.2
    by_cases ha : a = .nil
    · subst ha
      obtain ⟨q, ⟨h1, h2⟩ | ⟨i1, c1, sg1, o, t1, π1, h1, h2, h3⟩⟩ := climb_ex s π (t := Tr.mk s i c sg .nil b) (by cases s <;> simp [Tr.mk]) h
      · rw [Tr.idx_mk] at h1
        rw [h2]
        have := Walks.cons hi (.inr ⟨k1, par π, k3, q, h1⟩) (Walks.nil (T := T) (s := s))
        rw [k5] at this
        cases s <;> exact this
      · rw [Tr.idx_mk] at h1
        have e : inD s Tr.nil = [] := by cases s <;> rfl
        rw [e, List.nil_append, h3] at hm ⊢
        have := Walks.cons hi (.inr ⟨k1, par π, k3, q, h1⟩) (ih (by simp only [List.length_cons] at hm; omega) h2)
        rwa [k5] at this
    · obtain ⟨n, ρ, j, c', s', o, q1, q2, q3⟩ := end_ex (!s) a ha h.dn
      have hz : Z T (ρ ++ ⟨s, i, c, sg, b⟩ :: π) (Tr.mk (!s) j c' s' .nil o) := Z.append.2 (by rw [← q1]; exact h.dn)
      rw [mk_flip, Bool.not_not] at hz
      have e1 : inD s a = s' :: (inD s o ++ afD s ρ) := by
        rw [q1, inD_plug q2, mk_flip, Bool.not_not, inD_mk]
        have e : inD s Tr.nil = [] := by cases s <;> rfl
        rw [e]; simp
      have e2 : afD s (ρ ++ ⟨s, i, c, sg, b⟩ :: π) = afD s ρ ++ afD s π := by rw [afD_append, afD_same (s := s) (f := ⟨s, i, c, sg, b⟩) rfl]
      have e3 : inD s a ++ afD s π = s' :: (inD s o ++ afD s (ρ ++ ⟨s, i, c, sg, b⟩ :: π)) := by rw [e1, e2]; simp
      rw [e3] at hm ⊢
      have := Walks.cons hi (.inl ⟨a.idx, k1, idx_ne h.dn ha, n, q3⟩) (ih (by simp only [List.length_cons] at hm; omega) hz)
      rwa [k5] at this
theorem Inv.walk {T : TS} {t : Tr} (h : Inv T t) (s : Bool) : ∃ k i, End T (!s) k T.root i ∧ Walks T s i (inD s t) := by
  have hr : T.root = t.idx := h.z.root
  by_cases ht : t = .nil
  · subst ht
    rw [hr]
    exact ⟨0, -1, End.none, by cases s <;> exact Walks.nil⟩
  · obtain ⟨n, ρ, j, c', s', o, q1, q2, q3⟩ := end_ex (!s) t ht h.z
    have hz : Z T (ρ ++ []) (Tr.mk (!s) j c' s' .nil o) := Z.append.2 (by rw [← q1]; exact h.z)
    rw [mk_flip, Bool.not_not, List.append_nil] at hz
    have e1 : inD s t = s' :: (inD s o ++ afD s ρ) := by
      rw [q1, inD_plug q2, mk_flip, Bool.not_not, inD_mk]
      have e : inD s Tr.nil = [] := by cases s <;> rfl
      rw [e]; simp
    rw [hr, e1]
    exact ⟨n, j, q3, walks_ex s _ (Nat.le_refl _) hz⟩

/-- The way to a node. -/
theorem node_ex {t : Tr} {i : Int} (h : i ∈ t.ids) : ∃ π c s l r, t = plug π (.node i c s l r) := by
  suffices H : ∀ (t : Tr), i ∈ t.ids → ∀ π0, ∃ π c s l r, plug π0 t = plug π (.node i c s l r) from H t h []
  intro t
  induction t with
  | nil => intro h; simp [Tr.ids] at h
  | node j c s l r h1 h2 =>
    intro h π0
    simp only [Tr.ids, List.mem_cons, List.mem_append] at h
    rcases h with rfl | h | h
    · exact ⟨π0, c, s, l, r, rfl⟩
    · exact h1 h (⟨false, j, c, s, r⟩ :: π0)
    · exact h2 h (⟨true, j, c, s, l⟩ :: π0)
def blacks : List Frm → Nat
  | [] => 0
  | f :: π => blacks π + if f.c then 0 else 1
theorem deep_par {T : TS} {π : List Frm} {t : Tr} (h : Z T π t) : Deep T (par π) π.length (blacks π) := by
  induction π generalizing t with
  | nil => exact Deep.none
  | cons f π ih =>
    have hup := Z.up.1 h
    have := Deep.go h.par_at.1 (par_of hup) (ih hup)
    rw [(TS.kid_nodeD h.par_at.2).2.2.2.1] at this
    exact this
theorem deep_node {T : TS} {π : List Frm} {i : Int} {c : Bool} {s : Seg} {l r : Tr} (h : Z T π (.node i c s l r)) : Deep T i (π.length + 1) (blacks π + if c then 0 else 1) := by
  have := Deep.go h.at.1 (by rw [h.at.2]) (deep_par h)
  rw [h.at.2] at this
  exact this
theorem Deep.det {T : TS} {i : Int} {m k m' k' : Nat} (h : Deep T i m k) (h' : Deep T i m' k') : m = m' ∧ k = k' := by
  induction h generalizing m' k' with
  | none => 
    cases h' with
    | none => exact ⟨rfl, rfl⟩
    | go hi _ _ => have := hi.1; omega
  | @go i p m k hi hp rest ih =>
    cases h' with
    | none => have := hi.1; omega
    | go hi' hp' rest' =>
      rw [hp] at hp'; subst hp'
      obtain ⟨rfl, rfl⟩ := ih rest'
      exact ⟨rfl, rfl⟩
/-- As many black ones above a place as its height lacks. -/
theorem balC_blacks {π : List Frm} {n m : Nat} {t : Tr} (hc : BalC π n) (ht : Bal t n) (hp : Bal (plug π t) m) (hr : (π = [] ∨ cred π = true) → t.red = false) : m = n + blacks π := by
  have uniq : ∀ {t : Tr} {a b : Nat}, Bal t a → Bal t b → a = b := by
    intro t a b h1
    induction h1 generalizing b with
    | nil => intro h; cases h; rfl
    | red _ _ _ _ ih _ => intro h; cases h with | red a _ _ _ => exact ih a
    | black _ _ ih _ => intro h; cases h with | black a _ => rw [ih a]
  induction hc generalizing t with
  | nil => exact (uniq ht hp).symm ▸ rfl
  | @red n f π hc ho co hn hb rest ih =>
    have := ih (t := Tr.mk f.d f.i f.c f.s t f.o) (by rw [hc]; exact Bal.mkr ht ho (hr (.inr hc)) co) hp (fun h1 => by rcases h1 with h1 | h1 <;> simp_all)
    simp [blacks, hc]; omega
  | @black n f π hc ho rest ih =>
    have := ih (t := Tr.mk f.d f.i f.c f.s t f.o) (by rw [hc]; exact Bal.mkb ht ho) hp (fun _ => by rw [Tr.red_mk]; exact hc)
    simp [blacks, hc]; omega
theorem balC_len {π : List Frm} {n : Nat} (hc : BalC π n) : π.length ≤ 2 * blacks π ∧ (π ≠ [] → cred π = false → π.length + 1 ≤ 2 * blacks π) := by
  induction hc with
  | nil => exact ⟨by simp, fun h => absurd rfl h⟩
  | @red n f π hc ho co hn hb rest ih =>
    have h2 := ih.2 hn hb
    refine ⟨by simp only [blacks, hc, List.length_cons]; simp; omega, fun _ h => ?_⟩
    simp only [cred] at h; rw [hc] at h; cases h
  | @black n f π hc ho rest ih =>
    have h1 := ih.1
    constructor <;> simp [blacks, hc] <;> omega
theorem bal_size {t : Tr} {n : Nat} (h : Bal t n) : 2 ^ n ≤ t.inord.length + 1 := by
  induction h with
  | nil => simp [Tr.inord]
  | red _ _ _ _ h1 h2 => simp [Tr.inord]; omega
  | black _ _ h1 h2 => simp [Tr.inord, Nat.pow_succ]; omega
end Go.Proofs.Ytkajknicgabdkaa

/-
  What a law holds between two calls: a tree and the document's row, apart; and each call's contract in these words.
-/
import Derived.Test.YtkajknicgabdkaaVg
import Derived.Test.YtkajknicgabdkaaW8
namespace Go.Proofs.Ytkajknicgabdkaa
open Go.RowKit
attribute [local go_sem high] eqCut eqSpan eqSeg
section
variable {w w0 : World} {b tt : Nat} {T : TS} {t : Tr} {v : Value} {L : List Seg} {R : Ending → World → Prop}
def LI (w0 : World) (tt : Nat) (w : World) (T : TS) (t : Tr) (v : Value) (L : List Seg) : Prop :=
  ∃ h : Han, h.t = tt ∧ Tree w w0.heap.size h T ∧ Inv T t ∧ Below w0.heap.size w0 w ∧ SRow w w0.heap.size v L ∧ ∀ k, v.ownBlock = some k → ¬ h.own k
theorem LI.bel (X : LI w0 tt w T t v L) : Below w0.heap.size w0 w := by obtain ⟨h, -, -, -, h4, -⟩ := X; exact h4
theorem LI.row (X : LI w0 tt w T t v L) : SRow w w0.heap.size v L := by obtain ⟨h, -, -, -, -, h5, -⟩ := X; exact h5
theorem LI.inv (X : LI w0 tt w T t v L) : Inv T t := by obtain ⟨h, -, -, h3, -⟩ := X; exact h3
theorem LI.ln (X : LI w0 tt w T t v L) : t.inord.length ≤ 65536 := by
  obtain ⟨h, -, h2, h3, -⟩ := X
  have := h3.len
  have := h2.ln
  omega
theorem LI.below {w' : World} (X : LI w0 tt w T t v L) (hb : Below w.heap.size w w') : LI w0 tt w' T t v L := by
  obtain ⟨h, h1, h2, h3, h4, h5, h6⟩ := X
  exact ⟨h, h1, h2.below hb, h3, h4.trans (hb.mono h4.size), h5.below hb, h6⟩
theorem LI.out {w' : World} {h h' : Han} {T' : TS} {t' : Tr} (h1 : h.t = tt) (h2 : Tree w w0.heap.size h T) (h4 : Below w0.heap.size w0 w) (h5 : SRow w w0.heap.size v L) (h6 : ∀ k, v.ownBlock = some k → ¬ h.own k)
    (H' : Tree w' w0.heap.size h' T') (I' : Inv T' t') (O : Out h h' w w') : LI w0 tt w' T' t' v L := by
  refine ⟨h', O.t.trans h1, H', I', h4.trans (O.fr.below h4.size (fun k hk => (h2.lt hk).1)), h5.fr O.fr h6, fun k hk hk' => ?_⟩
  rcases O.own k hk' with h7 | h7
  · exact h6 k hk h7
  · have := (h5.lt hk).2; omega
theorem LI.news {w' : World} {v' : Value} {L' : List Seg} (X : LI w0 tt w T t v L) (hb : Below w.heap.size w w') (hr : SRow w' w0.heap.size v' L') (hn : News v v' w) : LI w0 tt w' T t v' L' := by
  obtain ⟨h, h1, h2, h3, h4, h5, h6⟩ := X
  refine ⟨h, h1, h2.below hb, h3, h4.trans (hb.mono h4.size), hr, fun k hk hk' => ?_⟩
  rcases hn k hk with h7 | h7
  · exact h6 k h7 hk'
  · have := (h2.lt hk').2; omega

theorem LNew (room : Int) (hb : Below w0.heap.size w0 w) (h0 : 0 ≤ room) (h1 : room ≤ 4096)
    (hk : ∀ w' tt, LI w0 tt w' ⟨room, -1, [], []⟩ .nil (.slice none 0 0) [] → R (.returned (.tuple #[.pointer (some ⟨tt, 0, none⟩), .int .i64 0])) w') :
    Calls Try.prog 7 #[.int .i64 room] w R :=
  New_k room hb.size h0 h1 (fun w' t a H _ _ hB => hk w' t ⟨_, rfl, H, Inv.nil room, hb.trans (hB.mono hb.size), SRow.nil, fun k hk => by cases hk⟩)
theorem LPut {s : Seg} (X : LI w0 tt w T t v L) (hk : ∀ w' T' t', LI w0 tt w' T' t' v L → t'.inord = (putR T.room s t.inord).1 → T'.room = T.room → R (.returned (.int .i64 (putR T.room s t.inord).2)) w') :
    Calls Try.prog 11 #[.pointer (some ⟨tt, 0, none⟩), .agg #[.int .i64 s.ls, .int .i64 s.la, .int .i64 s.hs, .int .i64 s.ha, .int .i64 s.v]] w R := by
  obtain ⟨h, rfl, h2, h3, h4, h5, h6⟩ := X
  exact Put_law h2 h3 (fun w' h' T' t' H' I' e1 e2 O => hk w' T' t' (LI.out rfl h2 h4 h5 h6 H' I' O) e1 e2)
theorem LDelete {c : K} (X : LI w0 tt w T t v L) (hk : ∀ w' T' t', LI w0 tt w' T' t' v L → t'.inord = (delR c t.inord).1 → T'.room = T.room → R (.returned (.bool (delR c t.inord).2)) w') :
    Calls Try.prog 13 #[.pointer (some ⟨tt, 0, none⟩), .agg #[.int .i64 c.1, .int .i64 c.2]] w R := by
  obtain ⟨h, rfl, h2, h3, h4, h5, h6⟩ := X
  exact Delete_law h2 h3 (fun w' h' T' t' H' I' e1 e2 O => hk w' T' t' (LI.out rfl h2 h4 h5 h6 H' I' O) e1 e2)
theorem LClear (X : LI w0 tt w T t v L) (hk : ∀ w', LI w0 tt w' ⟨T.room, -1, [], []⟩ .nil v L → R (.returned (.tuple #[])) w') :
    Calls Try.prog 49 #[.pointer (some ⟨tt, 0, none⟩)] w R := by
  obtain ⟨h, rfl, h2, h3, h4, h5, h6⟩ := X
  exact Clear_k h2 (fun w' H' O => hk w' (LI.out rfl h2 h4 h5 h6 H' (Inv.nil _) O))
theorem LCheck (X : LI w0 tt w T t v L) (hk : ∀ w', Below w.heap.size w w' → R (.returned (.bool true)) w') : Calls Try.prog 14 #[.pointer (some ⟨tt, 0, none⟩)] w R := by
  obtain ⟨h, rfl, h2, h3, -⟩ := X
  exact Check_law h2 h3 hk
theorem LHeight (X : LI w0 tt w T t v L) (hk : ∀ w', Below w.heap.size w w' → R (.returned (.int .i64 t.ht)) w') : Calls Try.prog 18 #[.pointer (some ⟨tt, 0, none⟩)] w R := by
  obtain ⟨h, rfl, h2, h3, -⟩ := X
  exact Height_law h2 h3 hk
theorem LLen (X : LI w0 tt w T t v L) (hk : ∀ w', Below w.heap.size w w' → R (.returned (.int .i64 t.inord.length)) w') : Calls Try.prog 20 #[.pointer (some ⟨tt, 0, none⟩)] w R := by
  obtain ⟨h, rfl, h2, h3, -⟩ := X
  have := h3.len
  exact Len_k h2 (fun w' hb => by rw [show (T.ps.length : Int) - T.free.length = (t.inord.length : Nat) by omega]; exact hk w' hb)
theorem LRoom (X : LI w0 tt w T t v L) (hk : R (.returned (.int .i64 T.room)) w) : Calls Try.prog 24 #[.pointer (some ⟨tt, 0, none⟩)] w R := by
  obtain ⟨h, rfl, h2, h3, -⟩ := X
  exact Room_k h2 hk
theorem LAll (X : LI w0 tt w T t v L) (hk : ∀ v' w', SRow w' w.heap.size v' t.inord → Below w.heap.size w w' → R (.returned v') w') : Calls Try.prog 16 #[.pointer (some ⟨tt, 0, none⟩)] w R := by
  obtain ⟨h, rfl, h2, h3, -⟩ := X
  exact all_law h2 h3 hk
theorem LRPut {room : Int} {s : Seg} (X : LI w0 tt w T t v L) (hn : L.length ≤ 65536) (hk : ∀ w' v', LI w0 tt w' T t v' (putR room s L).1 → Below w.heap.size w w' → R (.returned (.tuple #[v', .int .i64 (putR room s L).2])) w') :
    Calls Try.prog 9 #[v, .int .i64 room, .agg #[.int .i64 s.ls, .int .i64 s.la, .int .i64 s.hs, .int .i64 s.ha, .int .i64 s.v]] w R :=
  RPut_k X.bel.size X.row hn (fun w' v' h1 h2 h3 => hk w' v' (X.news h3 h1 h2) h3)
theorem LRDelete {c : K} (X : LI w0 tt w T t v L) (hn : L.length ≤ 65536) (hk : ∀ w' v', LI w0 tt w' T t v' (delR c L).1 → Below w.heap.size w w' → R (.returned (.tuple #[v', .bool (delR c L).2])) w') :
    Calls Try.prog 12 #[v, .agg #[.int .i64 c.1, .int .i64 c.2]] w R :=
  RDelete_k X.bel.size X.row hn (fun w' v' h1 h2 h3 => hk w' v' (X.news h3 h1 h2) h3)
theorem LRDo {room : Int} {o : Opn} (X : LI w0 tt w T t v L) (hn : L.length ≤ 65536) (hk : ∀ w' v', LI w0 tt w' T t v' (doR room L o).1 → Below w.heap.size w w' → R (.returned (.tuple #[v', .bool (doR room L o).2.1, .int .i64 (doR room L o).2.2])) w') :
    Calls Try.prog 25 #[v, .int .i64 room, .agg #[.int .i64 o.kind, .int .i64 o.s.ls, .int .i64 o.s.la, .int .i64 o.s.hs, .int .i64 o.s.ha, .int .i64 o.s.v]] w R :=
  RDo_k X.bel.size X.row hn (fun w' v' h1 h2 h3 => hk w' v' (X.news h3 h1 h2) h3)

def fitsS (c : K) (own : Bool) (x : Seg) : Bool := (cmpC x.k c == 0 && own) || decide (cmpC x.k c < 0)
theorem fitsS_mono {c : K} {own : Bool} {x y : Seg} (h : ltK y.k x.k) (hx : fitsS c own x = true) : fitsS c own y = true := by
  have hy : ltK y.k c := by
    unfold fitsS at hx
    rw [Bool.or_eq_true, Bool.and_eq_true, beq_iff_eq, decide_eq_true_eq] at hx
    rcases hx with ⟨h1, -⟩ | h1
    · exact (ltK_congr ((cmpC_zero _ _).1 h1)).2.1 h
    · exact ltK_trans h ((cmpC_neg _ _).1 h1)
  unfold fitsS
  rw [Bool.or_eq_true]
  exact .inr (decide_eq_true ((cmpC_neg _ _).2 hy))
theorem near_ex {T : TS} {c : K} {own : Bool} : ∀ (t : Tr) {π : List Frm} {best : Int}, Z T π t → Srt t.inord →
    ∃ n r, Near T c own n t.idx best r ∧ ((t.inord.filter (fitsS c own) = [] ∧ r = best) ∨ ∃ x, (t.inord.filter (fitsS c own)).getLast? = some x ∧ T.ok r ∧ (T.nd r).s = x) := by
  intro t
  induction t with
  | nil => intro π best _ _; exact ⟨0, best, Near.none, .inl ⟨rfl, rfl⟩⟩
  | node i cc s l r ihl ihr =>
    intro π best h hs
    obtain ⟨hi, hn⟩ := h.at
    have hkey : fitsB T c own i = fitsS c own s := by unfold fitsB fitsS Node.key; rw [hn]; rfl
    have hs1 : Srt (l.inord ++ s :: r.inord) := hs
    obtain ⟨s1, s2⟩ := hs1.split
    have hs2 : Srt l.inord ∧ Srt r.inord := by
      unfold Srt at hs1 ⊢
      rw [List.pairwise_append, List.pairwise_cons] at hs1
      exact ⟨hs1.1, hs1.2.1.2⟩
    cases hf : fitsS c own s with
    | true =>
      obtain ⟨n, q, h1, h2⟩ := ihr (best := i) h.dr hs2.2
      refine ⟨n + 1, q, Near.fit hi (hkey.trans hf) (by show (T.nd i).r = _; rw [hn]) h1, .inr ?_⟩
      rcases h2 with ⟨h3, rfl⟩ | ⟨x, h3, h4, h5⟩
      · refine ⟨s, ?_, hi, by rw [hn]⟩
        simp [Tr.inord, List.filter_append, List.filter_cons, hf, h3]
      · refine ⟨x, ?_, h4, h5⟩
        simp [Tr.inord, List.filter_append, List.filter_cons, hf]
        rw [List.getLast?_cons, h3]
        simp
    | false =>
      obtain ⟨n, q, h1, h2⟩ := ihl (best := best) h.dl hs2.1
      have hr0 : r.inord.filter (fitsS c own) = [] := by
        rw [List.filter_eq_nil_iff]
        intro y hy hy2
        have := fitsS_mono (s2 y hy) hy2
        rw [hf] at this; cases this
      refine ⟨n + 1, q, Near.miss hi (hkey.trans hf) (by show (T.nd i).l = _; rw [hn]) h1, ?_⟩
      simpa [Tr.inord, List.filter_append, List.filter_cons, hf, hr0] using h2
theorem LFloor {c : K} {x : Seg} (X : LI w0 tt w T t v L) (hx : (t.inord.filter (fitsS c true)).getLast? = some x) (hk : ∀ w', Below w.heap.size w w' → R (.returned (.tuple #[.agg #[.int .i64 x.ls, .int .i64 x.la, .int .i64 x.hs, .int .i64 x.ha, .int .i64 x.v], .bool true])) w') :
    Calls Try.prog 27 #[.pointer (some ⟨tt, 0, none⟩), .agg #[.int .i64 c.1, .int .i64 c.2]] w R := by
  obtain ⟨h, rfl, h2, h3, -⟩ := X
  obtain ⟨n, r, h4, h5⟩ := near_ex (c := c) (own := true) t (best := -1) h3.z h3.srt
  rw [show t.idx = T.root from h3.z.root.symm] at h4
  rcases h5 with ⟨h5, -⟩ | ⟨y, h5, h6, h7⟩
  · rw [h5] at hx; cases hx
  · rw [h5] at hx; cases hx
    refine Floor_k h2 h4 (.inr h6) (fun w' hb => ?_)
    have : toldS T r = (x, true) := by unfold toldS; rw [if_neg (by have := h6.1; omega), h7]
    rw [this]; exact hk w' hb
theorem LLower {c : K} {x : Seg} (X : LI w0 tt w T t v L) (hx : (t.inord.filter (fitsS c false)).getLast? = some x) (hk : ∀ w', Below w.heap.size w w' → R (.returned (.tuple #[.agg #[.int .i64 x.ls, .int .i64 x.la, .int .i64 x.hs, .int .i64 x.ha, .int .i64 x.v], .bool true])) w') :
    Calls Try.prog 28 #[.pointer (some ⟨tt, 0, none⟩), .agg #[.int .i64 c.1, .int .i64 c.2]] w R := by
  obtain ⟨h, rfl, h2, h3, -⟩ := X
  obtain ⟨n, r, h4, h5⟩ := near_ex (c := c) (own := false) t (best := -1) h3.z h3.srt
  rw [show t.idx = T.root from h3.z.root.symm] at h4
  rcases h5 with ⟨h5, -⟩ | ⟨y, h5, h6, h7⟩
  · rw [h5] at hx; cases hx
  · rw [h5] at hx; cases hx
    refine Lower_k h2 h4 (.inr h6) (fun w' hb => ?_)
    have : toldS T r = (x, true) := by unfold toldS; rw [if_neg (by have := h6.1; omega), h7]
    rw [this]; exact hk w' hb

set_option maxHeartbeats 1000000 in
theorem LDoes {o : Opn} (X : LI w0 tt w T t v L) (hk : ∀ w' T' t', LI w0 tt w' T' t' v L → t'.inord = (doR T.room t.inord o).1 → T'.room = T.room → R (.returned (.tuple #[.bool (doR T.room t.inord o).2.1, .int .i64 (doR T.room t.inord o).2.2])) w') :
    Calls Try.prog 17 #[.pointer (some ⟨tt, 0, none⟩), .agg #[.int .i64 o.kind, .int .i64 o.s.ls, .int .i64 o.s.la, .int .i64 o.s.hs, .int .i64 o.s.ha, .int .i64 o.s.v]] w R := by
  have hB0 : Below w.heap.size w (w.alloc (.cells #[.int .i64 o.kind, .int .i64 o.s.ls, .int .i64 o.s.la, .int .i64 o.s.hs, .int .i64 o.s.ha, .int .i64 o.s.v] 47)) := (Below.refl _ _).alloc (Nat.le_refl _) _
  by_cases h0 : o.kind = 0
  · have e : doR T.room t.inord o = ((putR T.room o.s t.inord).1, false, (putR T.room o.s t.inord).2) := by simp [doR, h0]
    rw [e] at hk
    have HK := Lib.hid hk
    clear e hk
    rw [h0] at hB0 ⊢
    have HX := Lib.hid (X.below hB0)
    clear h0 X
    go_enter Try.func17, Try.ntmps17
    go_wp2_with (go_at_call 11; refine LPut HX.out (fun w2 T2 t2 X2 e1 e2 => ?_); have HX2 := Lib.hid X2; have HE1 := Lib.hid e1; have HE2 := Lib.hid e2; clear X2 e1 e2)
    exact HK.out _ _ _ HX2.out HE1.out HE2.out
  · by_cases h1 : o.kind = 1
    · have e : doR T.room t.inord o = ((delR (o.s.ls, o.s.la) t.inord).1, (delR (o.s.ls, o.s.la) t.inord).2, 0) := by simp [doR, h1]
      rw [e] at hk
      have HK := Lib.hid hk
      clear e hk h0
      rw [h1] at hB0 ⊢
      have HX := Lib.hid (X.below hB0)
      clear h1 X
      go_enter Try.func17, Try.ntmps17
      go_wp2_with (go_at_call 13; refine LDelete (c := (o.s.ls, o.s.la)) HX.out (fun w2 T2 t2 X2 e1 e2 => ?_); have HX2 := Lib.hid X2; have HE1 := Lib.hid e1; have HE2 := Lib.hid e2; clear X2 e1 e2)
      exact HK.out _ _ _ HX2.out HE1.out HE2.out
    · have f0 : (o.kind == 0) = false := beq_eq_false_iff_ne.2 h0
      have f1 : (o.kind == 1) = false := beq_eq_false_iff_ne.2 h1
      by_cases h2 : o.kind = 2
      · have e : doR T.room t.inord o = ([], false, 0) := by simp [doR, h2]
        rw [e] at hk
        have HK := Lib.hid hk
        clear e hk h0 h1 f0 f1
        rw [h2] at hB0 ⊢
        have HX := Lib.hid (X.below hB0)
        clear h2 X
        go_enter Try.func17, Try.ntmps17
        go_wp2_with (go_at_call 49; refine LClear HX.out (fun w2 X2 => ?_); have HX2 := Lib.hid X2; clear X2)
        exact HK.out _ _ _ HX2.out rfl rfl
      · have f2 : (o.kind == 2) = false := beq_eq_false_iff_ne.2 h2
        have e : doR T.room t.inord o = (t.inord, false, 0) := by simp [doR, h0, h1, h2]
        rw [e] at hk
        have HK := Lib.hid hk
        have HX := Lib.hid (X.below hB0)
        clear e hk h0 h1 h2 X
        go_enter Try.func17, Try.ntmps17
        go_wp2
        exact HK.out _ _ _ HX.out rfl rfl
end
end Go.Proofs.Ytkajknicgabdkaa

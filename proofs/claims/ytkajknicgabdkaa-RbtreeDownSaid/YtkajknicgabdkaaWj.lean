/-
  The tree's Check.
-/
import Derived.Test.YtkajknicgabdkaaWi
import Derived.Test.YtkajknicgabdkaaW9
namespace Go.Proofs.Ytkajknicgabdkaa
open Go.RowKit Go.Shelf
attribute [local go_sem] Oper.semAt_some
section
variable {w : World} {b : Nat} {h : Han} {T : TS} {R : Ending → World → Prop}
set_option maxHeartbeats 2000000 in
set_option maxRecDepth 100000 in
theorem Check_empty (H : Tree w b h T) (hr : T.root = -1) (hn : T.ps.length = T.free.length) (hk : ∀ w', Below w.heap.size w w' → R (.returned (.bool true)) w') :
    Calls Try.prog 14 #[.pointer (some ⟨h.t, 0, none⟩)] w R := by
  have HK := Lib.hid hk
  clear hk
  obtain ⟨W0, hW0⟩ : ∃ W0, W0 = (w.alloc (.cells #[.pointer (some ⟨h.t, 0, none⟩)] 23)).alloc (.cells #[.bool false] 4) := ⟨_, rfl⟩
  have hz0 : W0.heap.size = w.heap.size + 2 := by rw [hW0]; simp
  have hB0 : Below w.heap.size w W0 := by rw [hW0]; exact ((Below.refl _ _).alloc (Nat.le_refl _) _).alloc (by simp) _
  have d1 : W0.cell? ⟨w.heap.size, 0, none⟩ = some (.pointer (some ⟨h.t, 0, none⟩)) := by rw [hW0]; simp
  have d2 : W0.cell? ⟨w.heap.size + 1, 0, none⟩ = some (.bool false) := by rw [hW0]; simp
  have d3 : W0.frozen? ⟨w.heap.size + 1, 0, none⟩ = false := by rw [hW0]; simp
  have H0 := H.below hB0
  have hW0' := Lib.hid hW0
  clear hW0
  have c1 := H0.c_root
  rw [hr] at c1
  have hred : Hid (T.isRed (-1) = false) := Lib.hid (by simp [TS.isRed])
  go_enter Try.func14, Try.ntmps14
  go_wp2_with fail
  rw [← hW0'.out]
  have HA : Hid (∀ n : Nat, Calls Try.prog 43 #[.pointer (some ⟨h.t, 0, none⟩), .int .i64 (-1)] (W0.drewN n) fun e w' => e = .returned (.bool false) ∧ w' = W0.drewN n) :=
    Lib.hid (fun n => red_k (H0.drewN n) (.inl rfl) hred ⟨rfl, rfl⟩)
  have HD := Lib.hid (fun n => (Fr.drewN (fun _ => False) W0 n).below (B := W0.heap.size) (Nat.le_refl _) (fun _ h => h.elim))
  refine wp_region_qt (fun w' => ∃ n, w' = World.drewN W0 n) 12 (by kernel_rfl) (by kernel_rfl) ⟨1, rfl⟩ ?_
  simp only [List.take_succ_cons, List.take_zero, List.drop_succ_cons, List.drop_zero]
  repeat (quiet_step ((go_at_call 43; exact Calls.quiet_of_same (HA.out _))))
  refine wpQuiet_nil ?_
  intro _ hw'
  obtain ⟨nq, hw''⟩ := hw'
  subst hw''
  have H1 := H0.drewN nq
  have hB1 := hB0.trans ((HD.out nq).mono (by omega))
  have hz1 : (W0.drewN nq).heap.size = w.heap.size + 2 := by have := (HD.out nq).size; simp; exact hz0
  have f1 : (W0.drewN nq).cell? ⟨w.heap.size, 0, none⟩ = some (.pointer (some ⟨h.t, 0, none⟩)) := ((bcell (HD.out nq)).1 _ _ (by omega)).trans d1
  have f2 : (W0.drewN nq).cell? ⟨w.heap.size + 1, 0, none⟩ = some (.bool false) := ((bcell (HD.out nq)).1 _ _ (by omega)).trans d2
  have f3 : (W0.drewN nq).frozen? ⟨w.heap.size + 1, 0, none⟩ = false := ((bcell (HD.out nq)).2 _ _ (by omega)).trans d3
  clear HD HA d1 d2 d3 H0 hW0' hB0 c1
  revert H1 hB1 hz1 f1 f2 f3
  generalize W0.drewN nq = W1
  intro H1 hB1 hz1 f1 f2 f3
  have c1 := H1.c_root
  rw [hr] at c1
  have hn0 : ((T.ps.length : Int) - T.free.length == 0) = true := by rw [hn]; simp
  go_wp2_with (go_at_call 20; refine Len_k H1 (fun w3 hb3 => ?_); obtain ⟨g1, g2⟩ := bcell hb3; have e2 := (g1 _ _ (by omega)).trans f2; have e3 := (g2 _ _ (by omega)).trans f3)
  refine bodyPost_ret (v := .bool true) (by simp [results, Try.results14, go_sem, e2]) rfl (HK.out _ ?_)
  exact (hB1.trans (hb3.mono (by omega))).setCell (by simp) _

/-- The loop's start: the boxes of Check. -/
structure CB (m t : Nat) (v3 v4 : Int) (W : World) : Prop where
  c1 : W.cell? ⟨m, 0, none⟩ = some (.pointer (some ⟨t, 0, none⟩))
  c2 : W.cell? ⟨m + 1, 0, none⟩ = some (.bool false)
  f2 : W.frozen? ⟨m + 1, 0, none⟩ = false
  c3 : W.cell? ⟨m + 2, 0, none⟩ = some (.int .i64 v3)
  f3 : W.frozen? ⟨m + 2, 0, none⟩ = false
  c4 : W.cell? ⟨m + 2 + 1, 0, none⟩ = some (.int .i64 v4)
  f4 : W.frozen? ⟨m + 2 + 1, 0, none⟩ = false
  sz : m + 4 ≤ W.heap.size
theorem CB.below {m t : Nat} {v3 v4 : Int} {W W' : World} {B : Nat} (h : CB m t v3 v4 W) (hb : Below B W W') (hB : m + 4 ≤ B) : CB m t v3 v4 W' := by
  obtain ⟨g1, g2⟩ := bcell hb
  exact ⟨(g1 _ _ (by omega)).trans h.c1, (g1 _ _ (by omega)).trans h.c2, (g2 _ _ (by omega)).trans h.f2, (g1 _ _ (by omega)).trans h.c3, (g2 _ _ (by omega)).trans h.f3, (g1 _ _ (by omega)).trans h.c4, (g2 _ _ (by omega)).trans h.f4, Nat.le_trans h.sz hb.size⟩
theorem CB.set3 {m t : Nat} {v3 v4 : Int} {W : World} (h : CB m t v3 v4 W) (v : Int) : CB m t v v4 (W.setCell ⟨m + 2, 0, none⟩ (.int .i64 v)) :=
  ⟨(World.cell?_setCell_far _ _ _ _ (by simp)).trans h.c1, (World.cell?_setCell_far _ _ _ _ (by simp)).trans h.c2, by rw [World.frozen?_setCell]; exact h.f2, World.cell?_setCell_same _ _ _ h.c3, by rw [World.frozen?_setCell]; exact h.f3, (World.cell?_setCell_far _ _ _ _ (by simp)).trans h.c4, by rw [World.frozen?_setCell]; exact h.f4, by simpa using h.sz⟩
theorem CB.set4 {m t : Nat} {v3 v4 : Int} {W : World} (h : CB m t v3 v4 W) (v : Int) : CB m t v3 v (W.setCell ⟨m + 2 + 1, 0, none⟩ (.int .i64 v)) :=
  ⟨(World.cell?_setCell_far _ _ _ _ (by simp; omega)).trans h.c1, (World.cell?_setCell_far _ _ _ _ (by simp)).trans h.c2, by rw [World.frozen?_setCell]; exact h.f2, (World.cell?_setCell_far _ _ _ _ (by simp)).trans h.c3, by rw [World.frozen?_setCell]; exact h.f3, World.cell?_setCell_same _ _ _ h.c4, by rw [World.frozen?_setCell]; exact h.f4, by simpa using h.sz⟩
/-- Each key is below the next one's. -/
def Rising (L : List Seg) : Prop := ∀ p a c q, L = p ++ a :: c :: q → cmpC (a.ls, a.la) (c.ls, c.la) < 0
theorem Rising.prefix {L p : List Seg} (h : Rising L) (hp : p <+: L) : Rising p := by
  obtain ⟨t, rfl⟩ := hp
  intro q a c r e
  exact h q a c (r ++ t) (by rw [e]; simp)
/-- The box of the last key. -/
def LC (m : Nat) (pre : List Seg) (W : World) : Prop := ∃ a0 a1 : Int, W.heap[m]? = some (.cells #[.int .i64 a0, .int .i64 a1] 32 (0, 0)) ∧ ∀ q a, pre = q ++ [a] → a0 = a.ls ∧ a1 = a.la
theorem LC.below {m B : Nat} {pre : List Seg} {W W' : World} (h : LC m pre W) (hb : Below B W W') (hB : m < B) : LC m pre W' := by
  obtain ⟨a0, a1, h1, h2⟩ := h
  exact ⟨a0, a1, (hb.block m hB).trans h1, h2⟩
theorem check_end {m n D B k : Nat} {v3 : Int} {pre : List Seg} {x : Seg} {a0 a1 : Int} {S : Nat → Prop} {W1 w6 : World} (x1 : CB m h.t v3 k W1) (hk : k = pre.length) (bL : W1.heap[n]? = some (.cells #[.int .i64 a0, .int .i64 a1] 32 (0, 0)))
    (x3 : Tree W1 b h T) (x4 : Below m w W1) (x5 : W1.heap[D]? = some (.deferred (some []))) (x6 : B ≤ W1.heap.size) (hb : Below W1.heap.size W1 w6) (hmn : m + 4 ≤ n) (hDn : D ≠ n) (hDm : D ≠ m + 2 + 1) (hown : ∀ k, h.own k → k < m)
    (hS1 : ¬ S n) (hS2 : ¬ S (m + 2 + 1)) {Wf : World} (hWf : Wf = ((w6.setCell ⟨n, 0, none⟩ (.int .i64 x.ls)).setCell ⟨n, 1, none⟩ (.int .i64 x.la)).setCell ⟨m + 2 + 1, 0, none⟩ (.int .i64 ((k : Int) + 1))) :
    KeepsFrom B W1 Wf ∧ Kq S W1 Wf ∧ CB m h.t v3 (pre ++ [x]).length Wf ∧ LC n (pre ++ [x]) Wf ∧ Tree Wf b h T ∧ Below m w Wf ∧ Wf.heap[D]? = some (.deferred (some [])) ∧ B ≤ Wf.heap.size := by
  subst hWf
  subst hk
  have F : Fr (fun k => k = n ∨ k = m + 2 + 1) w6 (((w6.setCell ⟨n, 0, none⟩ (.int .i64 x.ls)).setCell ⟨n, 1, none⟩ (.int .i64 x.la)).setCell ⟨m + 2 + 1, 0, none⟩ (.int .i64 ((pre.length : Int) + 1))) :=
    ((Fr.setCell (S := fun k => k = n ∨ k = m + 2 + 1) _ _ _ (.inl rfl)).trans (Fr.setCell (S := fun k => k = n ∨ k = m + 2 + 1) _ _ _ (.inl rfl))).trans (Fr.setCell (S := fun k => k = n ∨ k = m + 2 + 1) _ _ _ (.inr rfl))
  have bL6 : w6.heap[n]? = _ := (hb.block n (lt_of_heap bL)).trans bL
  have C6 := (x1.below hb x1.sz).below (B := m + 4) (((Below.refl _ w6).setCell (p := ⟨n, 0, none⟩) hmn (.int .i64 x.ls)).setCell (p := ⟨n, 1, none⟩) hmn (.int .i64 x.la)) (Nat.le_refl _)
  refine ⟨(keeps_below hb).trans (((KeepsOthers.setCell _ _ _).trans ((KeepsOthers.setCell _ _ _).trans (KeepsOthers.setCell _ _ _))).from _), (below_kq hb).t (F.mono (fun k hk hs => hk.elim (fun e => hS1 (e ▸ hs)) (fun e => hS2 (e ▸ hs)))), ?_, ⟨x.ls, x.la, ?_, ?_⟩, ?_, ?_, ?_, ?_⟩
  · have := C6.set4 ((pre.length : Int) + 1)
    simpa using this
  · have := setCell_block (i := 1) (v := .int .i64 x.la) (setCell_block (i := 0) (v := .int .i64 x.ls) bL6)
    rw [setCell_other (by omega)]
    simpa using this
  · intro q a e
    have := (List.append_inj' e rfl).2
    simp at this
    subst this; exact ⟨rfl, rfl⟩
  · exact (x3.below hb).fr F (fun k hk => by have := hown k hk; omega)
  · exact x4.trans ((hb.mono (by have := x1.sz; omega)).trans (F.below (by have := hb.size; have := x1.sz; omega) (fun k hk => by omega)))
  · rw [F.block D (Nat.lt_of_lt_of_le (lt_of_heap x5) hb.size) (by omega), hb.block D (lt_of_heap x5)]; exact x5
  · exact Nat.le_trans x6 (Nat.le_trans hb.size F.size)
set_option maxHeartbeats 8000000 in
set_option maxRecDepth 100000 in
theorem Check_true {ids : List { i : Int // T.ok i }} {dep blk : Int → Nat} {B k : Nat} {i0 : Int} {xs : List Seg} (H : Tree w b h T) (hro : T.ok T.root) (hrb : T.isRed T.root = false)
    (hI : EachL T 0 ids) (hfine : ∀ i, T.ok i → FineS T i false ∧ FineS T i true) (hdeep : ∀ i, T.ok i → Deep T i (dep i) (blk i)) (hdm : ∀ i, dep i < 100000)
    (hleaf : ∀ i, T.ok i → (T.nd i).l = -1 ∨ (T.nd i).r = -1 → blk i = B) (hE : End T false k T.root i0) (hL : Walks T true i0 xs) (hrise : Rising xs) (hlen : xs.length + T.free.length = T.ps.length)
    (hk : ∀ w', Below w.heap.size w w' → R (.returned (.bool true)) w') : Calls Try.prog 14 #[.pointer (some ⟨h.t, 0, none⟩)] w R := by
  have HK := Lib.hid hk
  clear hk
  obtain ⟨W0, hW0⟩ : ∃ W0, W0 = (w.alloc (.cells #[.pointer (some ⟨h.t, 0, none⟩)] 23)).alloc (.cells #[.bool false] 4) := ⟨_, rfl⟩
  have hz0 : W0.heap.size = w.heap.size + 2 := by rw [hW0]; simp
  have hB0 : Below w.heap.size w W0 := by rw [hW0]; exact ((Below.refl _ _).alloc (Nat.le_refl _) _).alloc (by simp) _
  have d1 : W0.cell? ⟨w.heap.size, 0, none⟩ = some (.pointer (some ⟨h.t, 0, none⟩)) := by rw [hW0]; simp
  have d2 : W0.cell? ⟨w.heap.size + 1, 0, none⟩ = some (.bool false) := by rw [hW0]; simp
  have d3 : W0.frozen? ⟨w.heap.size + 1, 0, none⟩ = false := by rw [hW0]; simp
  have H0 := H.below hB0
  have hW0' := Lib.hid hW0
  clear hW0
  have c1 := H0.c_root
  have hred : Hid (T.isRed T.root = false) := Lib.hid hrb
  have hrn : (T.root == -1) = false := by have := hro.1; rw [beq_eq_false_iff_ne]; omega
  refine (callsIn_wide (n := 9)).1 ?_
  refine callsIn_of_wp_marks Try.func14 rfl trivial ?_ rfl
  simp only [Try.ntmps14, List.size_toArray, List.length_cons, List.length_nil, Nat.reduceAdd, Nat.reduceSub, Array.replicate_succ, Array.replicate_zero, List.push_toArray, List.append_toArray, List.nil_append, List.cons_append]
  gi_wp2_with fail
  refine wpIn_wide.2 ?_
  rw [← hW0'.out]
  have HA : Hid (∀ n : Nat, Calls Try.prog 43 #[.pointer (some ⟨h.t, 0, none⟩), .int .i64 T.root] (W0.drewN n) fun e w' => e = .returned (.bool false) ∧ w' = W0.drewN n) :=
    Lib.hid (fun n => red_k (H0.drewN n) (.inr hro) hred ⟨rfl, rfl⟩)
  have HD := Lib.hid (fun n => (Fr.drewN (fun _ => False) W0 n).below (B := W0.heap.size) (Nat.le_refl _) (fun _ h => h.elim))
  refine wp_region_qt (fun w' => ∃ n, w' = World.drewN W0 n) 12 (by kernel_rfl) (by kernel_rfl) ⟨1, rfl⟩ ?_
  simp only [List.take_succ_cons, List.take_zero, List.drop_succ_cons, List.drop_zero]
  repeat (quiet_step ((go_at_call 43; exact Calls.quiet_of_same (HA.out _))))
  refine wpQuiet_nil ?_
  intro _ hw'
  obtain ⟨nq, hw''⟩ := hw'
  subst hw''
  have H1 := H0.drewN nq
  have hB1 := hB0.trans ((HD.out nq).mono (by omega))
  have hz1 : (W0.drewN nq).heap.size = w.heap.size + 2 := by have := (HD.out nq).size; simp; exact hz0
  have f1 : (W0.drewN nq).cell? ⟨w.heap.size, 0, none⟩ = some (.pointer (some ⟨h.t, 0, none⟩)) := ((bcell (HD.out nq)).1 _ _ (by omega)).trans d1
  have f2 : (W0.drewN nq).cell? ⟨w.heap.size + 1, 0, none⟩ = some (.bool false) := ((bcell (HD.out nq)).1 _ _ (by omega)).trans d2
  have f3 : (W0.drewN nq).frozen? ⟨w.heap.size + 1, 0, none⟩ = false := ((bcell (HD.out nq)).2 _ _ (by omega)).trans d3
  clear HD HA d1 d2 d3 H0 hW0' hB0 c1 hz0 hred
  revert H1 hB1 hz1 f1 f2 f3
  generalize W0.drewN nq = W1
  intro H1 hB1 hz1 f1 f2 f3
  go_wp2
  obtain ⟨W2, hW2⟩ : ∃ W2, W2 = (W1.alloc (.cells #[.int .i64 (-1)] 3)).alloc (.cells #[.int .i64 0] 3) := ⟨_, rfl⟩
  have hB12 : Below W1.heap.size W1 W2 := by rw [hW2]; exact ((Below.refl _ _).alloc (Nat.le_refl _) _).alloc (by simp) _
  have hz2 : W2.heap.size = w.heap.size + 4 := by rw [hW2]; simp; omega
  have CB2 : CB w.heap.size h.t (-1) 0 W2 := by
    obtain ⟨g1, g2⟩ := bcell hB12
    refine ⟨(g1 _ _ (by omega)).trans f1, (g1 _ _ (by omega)).trans f2, (g2 _ _ (by omega)).trans f3, ?_, ?_, ?_, ?_, by omega⟩
    · rw [hW2, show w.heap.size + 2 = W1.heap.size by omega]; simp
    · rw [hW2, show w.heap.size + 2 = W1.heap.size by omega]; simp
    · rw [hW2, show w.heap.size + 2 + 1 = W1.heap.size + 1 by omega]; simp
    · rw [hW2, show w.heap.size + 2 + 1 = W1.heap.size + 1 by omega]; simp
  have H2 := H1.below hB12
  have hB2 := hB1.trans (hB12.mono (by omega))
  have hW2' := Lib.hid hW2
  have hl1 : w.heap.size < W1.heap.size := by omega
  have hl2 : h.t < w.heap.size + 2 := by have := lt_of_heap H1.ht; omega
  have hl3 : h.t < w.heap.size + 2 + 1 := by omega
  have ca := H1.c_arena
  clear hW2 f2 f3 hB1 hB12
  gi_wp2_with (refine ⟨trivial, ?_⟩; gi_at_call 45; rw [← hW2'.out]; refine callsIn_wide.2 (Each_k h (fun m1 w3 B3 b3 hm1 hm2 => ?_)))
  have hz3 := B3.size
  have hown : ∀ k, h.own k → k < w.heap.size := fun k hk => (H.lt hk).2
  have hS : ∀ k, ES h m1 k → k < w3.heap.size := fun k hk => hk.elim (fun e => by have := hown k e; omega) (fun e => by omega)
  clear hl1 hl2 hl3 ca H1 hz1 f1
  refine wpIn_rangeFunc_ownH (n := 9) rfl (by omega) (gf := 60) (lb := #[.pointer (some ⟨m1, 0, none⟩)]) rfl trivial (enters_of Try.func60 (by kernel_rfl) rfl)
    (each_stops 8 (by omega) (H2.below B3) b3 hI) Kq.t (Kq.put hS) (Below.refl _ _) (fun _ => rfl)
    (fun pre W => ∃ v3 : Int, (v3 = -1 ∨ v3 = B) ∧ CB w.heap.size h.t v3 0 W ∧ Tree W b h T ∧ Below w.heap.size w W ∧ w3.heap.size ≤ W.heap.size)
    (fun _ _ _ => False)
    (ownFrom_of (fun _ _ hs => by obtain ⟨_, _, _, _, _, h⟩ := hs; exact h) ?own) (fun _ => ownFrom_of (fun _ _ hs => hs.elim) (fun _ _ _ hs => hs.elim)) ?start
    (fun x a' _ => a' = { tmps := #[Value.pointer (some { block := h.t, off := 0 }), Value.pointer (some { block := w.heap.size, off := 0 }), Value.pointer (some { block := w.heap.size + 1, off := 0 }), Value.pointer (some { block := w.heap.size + 2, off := 0 }), Value.pointer (some { block := w.heap.size + 2 + 1, off := 0 }), .int .i64 x.1, undef, undef, undef, undef, Value.pointer (some { block := h.t, off := 0 }), Value.pointer (some { block := h.t, off := 0 }), Value.pointer (some { block := h.t, off := 1 }), Value.int IntKind.i64 T.root, Value.bool false, Value.bool false, Value.pointer (some { block := h.t, off := 0 }), Value.pointer (some { block := h.t, off := 0 }), Value.pointer (some { block := h.t, off := 0 }), Value.pointer (some { block := h.t, off := 1 }), Value.int IntKind.i64 T.root, Value.bool false, Value.bool false, undef, undef, undef, undef, undef, undef, undef, undef, undef, undef, Value.pointer (some { block := h.t, off := 0 }), Value.pointer (some { block := h.t, off := 0 }), Value.pointer (some { block := h.t, off := 0 }), Value.pointer (some { block := h.a, off := 0 }), Value.func (Fn.func 60) #[] #[Value.pointer (some { block := m1, off := 0 })], .int .i64 x.1, (T.pl x.1).n.val, undef, undef, undef, undef, undef, undef, undef, undef, undef, undef, undef, undef, undef, undef, undef, undef, undef, undef, undef, undef, undef, undef, undef, undef, undef, undef, undef, undef, undef, undef, undef, undef, undef, undef, undef, undef, undef, undef, undef, undef, undef, undef, undef, undef, undef, undef, undef, undef, undef, undef, undef, undef, undef, undef, undef, undef, undef, undef], defers := [] })
    (fun _ _ _ _ _ _ hs _ _ => hs) ?assign ?body ?done ?stop
  case own =>
    rintro pre W W' ⟨v3, x1, x2, x3, x4, x5⟩ hb
    exact ⟨v3, x1, x2.below hb (by omega), x3.fr (below_frm hb) (fun k hk => by have := hown k hk; omega), x4.trans (hb.mono (by omega)), Nat.le_trans x5 hb.size⟩
  case start => exact ⟨-1, .inl rfl, CB2.below B3 (by omega), H2.below B3, hB2.trans (B3.mono (by omega)), Nat.le_refl _⟩
  case assign =>
    intro l pre x W K hI hK
    gi_wp2
    exact hK _ _ (KeepsFrom.refl _ _) (Fr.refl _ _) hI rfl
  case stop => exact fun _ _ _ _ _ _ h _ => h.elim
  case body =>
    rintro l pre x a' W hl hr ⟨v3, x1, x2, x3, x4, x5⟩ rfl hlt
    have c1 := x2.c1
    have c2 := x2.c2
    have c3 := x2.c3
    have f3 := x2.f3
    have hdx := hdeep x.1 x.2
    have hmx := hdm x.1
    obtain ⟨fl, fr⟩ := hfine x.1 x.2
    have hlf := hleaf x.1 x.2
    have yl := x3.c_l x.2
    have yr := x3.c_r x.2
    have hx4 := Lib.hid x4
    clear x4 HK CB2 H2 B3 hB2 b3 hW2' hleaf hfine hdeep hdm
    by_cases hlf1 : (T.nd x.1).l = -1
    · have hb := hlf (.inl hlf1)
      have g1 : ((T.nd x.1).l == -1) = true := by rw [hlf1]; rfl
      rw [hb] at hdx
      clear hlf hb
      clear hlf1
      rcases x1 with rfl | rfl
      · gi_wp2_with (first | (refine ⟨trivial, ?_⟩; gi_at_call 36; refine CallsIn.inRound l (callsIn_wide.2 (at_k x3 x.2 ?_))) | (refine ⟨trivial, ?_⟩; gi_at_call 47; refine CallsIn.inRound l (callsIn_wide.2 (deep_k x3 hdx (by omega) ?_))) | (refine ⟨trivial, ?_⟩; gi_at_call 46; refine CallsIn.inRound l (callsIn_wide.2 (fine_k x3 x.2 fl fr ?_))))
        try (refine ⟨trivial, ?_⟩; gi_wp2)
        exact ⟨(KeepsOthers.setCell _ _ _).from _, Kq.setCell _ _ _ (fun hS' => hS'.elim (fun e => by have := hown _ e; simp only at this; omega) (fun e => by simp only at e; omega)), _, .inr rfl, x2.set3 _, x3.fr (Fr.setCell (S := fun k => k = w.heap.size + 2) _ _ _ rfl) (fun k hk => by have := hown k hk; omega), hx4.out.setCell (p := ⟨w.heap.size + 2, 0, none⟩) (by simp) _, by simpa using x5⟩
      · have gB : decide ((0 : Int) ≤ (B : Int)) = true := decide_eq_true (by omega)
        gi_wp2_with (first | (refine ⟨trivial, ?_⟩; gi_at_call 36; refine CallsIn.inRound l (callsIn_wide.2 (at_k x3 x.2 ?_))) | (refine ⟨trivial, ?_⟩; gi_at_call 47; refine CallsIn.inRound l (callsIn_wide.2 (deep_k x3 hdx (by omega) ?_))) | (refine ⟨trivial, ?_⟩; gi_at_call 46; refine CallsIn.inRound l (callsIn_wide.2 (fine_k x3 x.2 fl fr ?_))))
        try (refine ⟨trivial, ?_⟩; gi_wp2)
        exact ⟨(KeepsOthers.setCell _ _ _).from _, Kq.setCell _ _ _ (fun hS' => hS'.elim (fun e => by have := hown _ e; simp only at this; omega) (fun e => by simp only at e; omega)), _, .inr rfl, x2.set3 _, x3.fr (Fr.setCell (S := fun k => k = w.heap.size + 2) _ _ _ rfl) (fun k hk => by have := hown k hk; omega), hx4.out.setCell (p := ⟨w.heap.size + 2, 0, none⟩) (by simp) _, by simpa using x5⟩
    · by_cases hlf2 : (T.nd x.1).r = -1
      · have hb := hlf (.inr hlf2)
        have g1 : ((T.nd x.1).l == -1) = false := by rw [beq_eq_false_iff_ne]; exact hlf1
        have g2 : ((T.nd x.1).r == -1) = true := by rw [hlf2]; rfl
        rw [hb] at hdx
        clear hlf hb
        clear hlf1
        rcases x1 with rfl | rfl
        · gi_wp2_with (first | (refine ⟨trivial, ?_⟩; gi_at_call 36; refine CallsIn.inRound l (callsIn_wide.2 (at_k x3 x.2 ?_))) | (refine ⟨trivial, ?_⟩; gi_at_call 47; refine CallsIn.inRound l (callsIn_wide.2 (deep_k x3 hdx (by omega) ?_))) | (refine ⟨trivial, ?_⟩; gi_at_call 46; refine CallsIn.inRound l (callsIn_wide.2 (fine_k x3 x.2 fl fr ?_))))
          try (refine ⟨trivial, ?_⟩; gi_wp2)
          exact ⟨(KeepsOthers.setCell _ _ _).from _, Kq.setCell _ _ _ (fun hS' => hS'.elim (fun e => by have := hown _ e; simp only at this; omega) (fun e => by simp only at e; omega)), _, .inr rfl, x2.set3 _, x3.fr (Fr.setCell (S := fun k => k = w.heap.size + 2) _ _ _ rfl) (fun k hk => by have := hown k hk; omega), hx4.out.setCell (p := ⟨w.heap.size + 2, 0, none⟩) (by simp) _, by simpa using x5⟩
        · have gB : decide ((0 : Int) ≤ (B : Int)) = true := decide_eq_true (by omega)
          gi_wp2_with (first | (refine ⟨trivial, ?_⟩; gi_at_call 36; refine CallsIn.inRound l (callsIn_wide.2 (at_k x3 x.2 ?_))) | (refine ⟨trivial, ?_⟩; gi_at_call 47; refine CallsIn.inRound l (callsIn_wide.2 (deep_k x3 hdx (by omega) ?_))) | (refine ⟨trivial, ?_⟩; gi_at_call 46; refine CallsIn.inRound l (callsIn_wide.2 (fine_k x3 x.2 fl fr ?_))))
          try (refine ⟨trivial, ?_⟩; gi_wp2)
          exact ⟨(KeepsOthers.setCell _ _ _).from _, Kq.setCell _ _ _ (fun hS' => hS'.elim (fun e => by have := hown _ e; simp only at this; omega) (fun e => by simp only at e; omega)), _, .inr rfl, x2.set3 _, x3.fr (Fr.setCell (S := fun k => k = w.heap.size + 2) _ _ _ rfl) (fun k hk => by have := hown k hk; omega), hx4.out.setCell (p := ⟨w.heap.size + 2, 0, none⟩) (by simp) _, by simpa using x5⟩
      · have g1 : ((T.nd x.1).l == -1) = false := by rw [beq_eq_false_iff_ne]; exact hlf1
        have g2 : ((T.nd x.1).r == -1) = false := by rw [beq_eq_false_iff_ne]; exact hlf2
        clear hlf hlf1 hlf2
        gi_wp2_with (first | (refine ⟨trivial, ?_⟩; gi_at_call 36; refine CallsIn.inRound l (callsIn_wide.2 (at_k x3 x.2 ?_))) | (refine ⟨trivial, ?_⟩; gi_at_call 47; refine CallsIn.inRound l (callsIn_wide.2 (deep_k x3 hdx (by omega) ?_))) | (refine ⟨trivial, ?_⟩; gi_at_call 46; refine CallsIn.inRound l (callsIn_wide.2 (fine_k x3 x.2 fl fr ?_))))
        exact ⟨KeepsFrom.refl _ _, Fr.refl _ _, v3, x1, x2, x3, hx4.out, x5⟩
  case done =>
    rintro D ys W hD rfl ⟨v3, -, x2, x3, x4, x5⟩ hK
    have c1 := x2.c1
    have hx4 := Lib.hid x4
    have hl0 : w.heap.size < W.heap.size := by have := x2.sz; omega
    have htl : h.t < W.heap.size := by have := hown h.t (.inl rfl); omega
    obtain ⟨W4, hW4⟩ : ∃ W4, W4 = W.alloc (.cells #[.int .i64 0, .int .i64 0] 32) := ⟨_, rfl⟩
    have hB4 : Below W.heap.size W W4 := by rw [hW4]; exact (Below.refl _ _).alloc (Nat.le_refl _) _
    have bx4 : W4.heap[W.heap.size]? = some (.cells #[.int .i64 0, .int .i64 0] 32 (0, 0)) := by rw [hW4]; exact heap_alloc_new _ _
    have hW4' := Lib.hid hW4
    clear x4 CB2 H2 B3 hB2 b3 hW2' hleaf hfine hdeep hdm hW4
    gi_wp2_with (refine ⟨trivial, ?_⟩; gi_at_call 23; rw [← hW4'.out]; refine callsIn_wide.2 (All_k h (fun m2 m3 w5 B5 X5 hm2 hm3 hm4 hm5 => ?_)))
    have hz4 : W4.heap.size = W.heap.size + 1 := by rw [hW4'.out]; simp
    have hz5 := B5.size
    have hszW := x2.sz
    have hS2 : ∀ k, WS h m2 m3 k → k < w5.heap.size := fun k hk => hk.elim (fun e => by have := hown k e; omega) (fun e => by omega)
    have CB5 : CB w.heap.size h.t v3 0 w5 := (x2.below hB4 (by omega)).below B5 (by omega)
    have LC5 : LC W.heap.size [] w5 := ⟨0, 0, (B5.block _ (lt_of_heap bx4)).trans bx4, fun q a e => by simp at e⟩
    have K5 : w5.heap[D]? = some (.deferred (some [])) := (B5.block D (by have := lt_of_heap hK; omega)).trans ((hB4.block D (lt_of_heap hK)).trans hK)
    have hDl := lt_of_heap hK
    have H5 := (x3.below hB4).below B5
    have hB5 := hx4.out.trans ((hB4.mono (by omega)).trans (B5.mono (by omega)))
    have hpsl := H.ln
    clear x2 x3 hK hB4 bx4 hW4' hx4 c1
    refine wpIn_rangeFunc_ownH (n := 9) rfl (by omega) (gf := 65) (lb := #[.pointer (some ⟨m2, 0, none⟩), .pointer (some ⟨m3, 0, none⟩)]) rfl trivial (enters_of Try.func65 (by kernel_rfl) rfl)
      (up_stops 8 (by omega) H5 X5 hE hL) Kq.t (Kq.put hS2) (Below.refl _ _) (fun _ => rfl)
      (fun pre W' => CB w.heap.size h.t v3 pre.length W' ∧ LC W.heap.size pre W' ∧ Tree W' b h T ∧ Below w.heap.size w W' ∧ W'.heap[D]? = some (.deferred (some [])) ∧ w5.heap.size ≤ W'.heap.size)
      (fun _ pre _ => ¬ Rising pre)
      (ownFrom_of (fun _ _ hs => hs.2.2.2.2.2) ?own2) (fun _ _ _ _ _ hs _ _ => hs) ⟨CB5, LC5, H5, hB5, K5, Nat.le_refl _⟩
      (fun s a' W' => ∃ Bx, w5.heap.size ≤ Bx ∧ SegAt W' Bx s ∧ a' = { tmps := #[Value.pointer (some { block := h.t, off := 0 }), Value.pointer (some { block := w.heap.size, off := 0 }), Value.pointer (some { block := w.heap.size + 1, off := 0 }), Value.pointer (some { block := w.heap.size + 2, off := 0 }), Value.pointer (some { block := w.heap.size + 2 + 1, off := 0 }), undef, undef, undef, Value.pointer (some { block := W.heap.size, off := 0 }), .pointer (some ⟨Bx, 0, none⟩), Value.pointer (some { block := h.t, off := 0 }), Value.pointer (some { block := h.t, off := 0 }), Value.pointer (some { block := h.t, off := 1 }), Value.int IntKind.i64 T.root, Value.bool false, Value.bool false, Value.pointer (some { block := h.t, off := 0 }), Value.pointer (some { block := h.t, off := 0 }), Value.pointer (some { block := h.t, off := 0 }), Value.pointer (some { block := h.t, off := 1 }), Value.int IntKind.i64 T.root, Value.bool false, Value.bool false, undef, undef, undef, undef, undef, undef, undef, undef, undef, undef, Value.pointer (some { block := h.t, off := 0 }), Value.pointer (some { block := h.t, off := 0 }), Value.pointer (some { block := h.t, off := 0 }), Value.pointer (some { block := h.a, off := 0 }), Value.func (Fn.func 60) #[] #[Value.pointer (some { block := m1, off := 0 })], undef, undef, undef, undef, undef, undef, undef, undef, undef, undef, undef, undef, undef, undef, undef, undef, undef, undef, undef, undef, undef, undef, undef, undef, undef, undef, undef, undef, undef, undef, undef, undef, undef, undef, undef, undef, undef, undef, Value.pointer (some { block := h.t, off := 0 }), Value.func (Fn.func 65) #[] #[Value.pointer (some { block := m2, off := 0 }), Value.pointer (some { block := m3, off := 0 })], .agg #[.int .i64 s.ls, .int .i64 s.la, .int .i64 s.hs, .int .i64 s.ha, .int .i64 s.v], undef, undef, undef, undef, undef, undef, undef, undef, undef, undef, undef, undef, undef, undef, undef, undef, undef, undef, undef], defers := [] })
      (fun s a' _ W W' row hs hg hr => by
        obtain ⟨Bx, h1, h2, h3⟩ := hs
        exact ⟨Bx, h1, cells_kept h2 hg (fun r e => (hr r e).2), h3⟩) ?assign2 ?body2 ?done2 ?stop2
    case own2 =>
      rintro pre W1 W2 ⟨x1, x2, x3, x4, x5, x6⟩ hb
      exact ⟨x1.below hb (by omega), x2.below hb (by omega), x3.fr (below_frm hb) (fun k hk => by have := hown k hk; omega), x4.trans (hb.mono (by omega)), (hb.block D (by omega)).trans x5, Nat.le_trans x6 hb.size⟩
    case stop2 =>
      rintro D2 c pre W2 _ hp hx _
      exact absurd (hrise.prefix hp) hx
    case assign2 =>
      rintro l pre x W1 K ⟨x1, x2, x3, x4, x5, x6⟩ hK
      have hb : Below W1.heap.size W1 (W1.alloc (.cells #[.int .i64 x.ls, .int .i64 x.la, .int .i64 x.hs, .int .i64 x.ha, .int .i64 x.v] 36)) := (Below.refl _ _).alloc (Nat.le_refl _) _
      have hK' := Lib.hid (hK _ _ ((KeepsOthers.alloc W1 (.cells #[.int .i64 x.ls, .int .i64 x.la, .int .i64 x.hs, .int .i64 x.ha, .int .i64 x.v] 36)).from _) (Fr.alloc _ _ _) ⟨x1.below hb (by omega), x2.below hb (by omega), x3.below hb, x4.trans (hb.mono (by omega)), (hb.block D (by omega)).trans x5, by simp; omega⟩ ⟨W1.heap.size, by omega, heap_alloc_new _ _, rfl⟩)
      clear hb hK
      gi_wp2
      exact hK'.out
    case body2 =>
      rintro l pre x a' W1 hl hr ⟨x1, x2, x3, x4, x5, x6⟩ ⟨Bx, hBx, bX, rfl⟩ hlt
      have bX' : W1.heap[Bx]? = _ := bX
      have q0 : W1.cell? ⟨Bx, 0, none⟩ = some (.int .i64 x.ls) := by simp [World.cell?, bX']
      have q1 : W1.cell? ⟨Bx, 1, none⟩ = some (.int .i64 x.la) := by simp [World.cell?, bX']
      obtain ⟨a0, a1, bL, hL2⟩ := x2
      have r0 : W1.cell? ⟨W.heap.size, 0, none⟩ = some (.int .i64 a0) := by simp [World.cell?, bL]
      have r1 : W1.cell? ⟨W.heap.size, 1, none⟩ = some (.int .i64 a1) := by simp [World.cell?, bL]
      have rf : ∀ k, W1.frozen? ⟨W.heap.size, k, none⟩ = false := fun k => by simp [World.frozen?, bL]
      have c2 := x1.c2
      have f2 := x1.f2
      have c4 := x1.c4
      have f4 := x1.f4
      have hn64 : pre.length < 65536 := by omega
      have hx4 := Lib.hid x4
      have hx5 := Lib.hid x5
      have hBl := lt_of_heap bX'
      have hl0 : w.heap.size + 1 < W1.heap.size := by omega
      have hl1 : w.heap.size + 2 + 1 < W1.heap.size := by omega
      have hl2 : W.heap.size < W1.heap.size := by omega
      have hnS1 : ¬ WS h m2 m3 W.heap.size := fun hs => by
        rcases hs with hs | hs | hs
        · have := hown _ hs; omega
        · omega
        · omega
      have hnS2 : ¬ WS h m2 m3 (w.heap.size + 2 + 1) := fun hs => by
        rcases hs with hs | hs | hs
        · have := hown _ hs; omega
        · omega
        · omega
      clear x4 x5 HK CB5 LC5 H5 hB5 K5 X5 B5
      rcases List.eq_nil_or_concat pre with rfl | ⟨q, a, rfl⟩
      · gi_wp2_with fail
        refine ⟨trivial, ?_⟩
        gi_wp2_with fail
        exact check_end (k := 0) (pre := []) x1 rfl bL x3 hx4.out hx5.out x6 (Below.refl _ _) (by omega) (by omega) (by omega) hown hnS1 hnS2 (by simp)
      · have hL3 := hL2 q a (by simp)
        obtain ⟨rfl, rfl⟩ := hL3
        have hlen2 : (q.concat a).length = q.length + 1 := by simp
        have hpos : decide ((0 : Int) < ((q.concat a).length : Int)) = true := decide_eq_true (by omega)
        have hn64' := hn64
        obtain ⟨pl, hpl⟩ : ∃ pl, pl = (q.concat a).length := ⟨_, rfl⟩
        rw [← hpl] at c4 x1 hn64
        have hpos2 : 0 < pl := by omega
        have hPl := Lib.hid hpl
        clear hL2 hlen2 hpl hpos hn64'
        by_cases hcmp : cmpC (a.ls, a.la) (x.ls, x.la) < 0
        · have hc0 : decide ((0 : Int) ≤ cmpC (a.ls, a.la) (x.ls, x.la)) = false := decide_eq_false (by omega)
          clear hcmp
          gi_wp2_with (refine ⟨trivial, ?_⟩; gi_at_call 48; refine CallsIn.inRound l (callsIn_wide.2 (Compare_k _ _ _ _ (fun w6 hb6 => ?_))); obtain ⟨g1, g2⟩ := bcell hb6; have q0' := (g1 _ _ (by assumption)).trans q0; have q1' := (g1 _ _ (by assumption)).trans q1; have r0' := (g1 _ _ (by assumption)).trans r0; have r1' := (g1 _ _ (by assumption)).trans r1; have rf' := fun k => (g2 _ k (by assumption)).trans (rf k); have c4' := (g1 _ _ (by assumption)).trans c4; have f4' := (g2 _ _ (by assumption)).trans f4; have hz6 := hb6.size; have hx6 := Nat.lt_of_lt_of_le hBl hz6)
          exact check_end (pre := q.concat a) x1 hPl.out bL x3 hx4.out hx5.out x6 hb6 (by omega) (by omega) (by omega) hown hnS1 hnS2 (by simp)
        · have hc0 : decide ((0 : Int) ≤ cmpC (a.ls, a.la) (x.ls, x.la)) = true := decide_eq_true (by omega)
          have c2' := fun (w6 : World) (g1 : ∀ (b o : Nat), b < W1.heap.size → w6.cell? ⟨b, o, none⟩ = W1.cell? ⟨b, o, none⟩) => (g1 (w.heap.size + 1) 0 (by assumption)).trans c2
          have f2' := fun (w6 : World) (g1 : ∀ (b o : Nat), b < W1.heap.size → w6.frozen? ⟨b, o, none⟩ = W1.frozen? ⟨b, o, none⟩) => (g1 (w.heap.size + 1) 0 (by assumption)).trans f2
          have hCC := Lib.hid c2'
          have hFF := Lib.hid f2'
          have hcmp' := Lib.hid hcmp
          clear hcmp c2' f2'
          gi_wp2_with (refine ⟨trivial, ?_⟩; gi_at_call 48; refine CallsIn.inRound l (callsIn_wide.2 (Compare_k _ _ _ _ (fun w6 hb6 => ?_))); obtain ⟨g1, g2⟩ := bcell hb6; have q0' := (g1 _ _ (by assumption)).trans q0; have q1' := (g1 _ _ (by assumption)).trans q1; have r0' := (g1 _ _ (by assumption)).trans r0; have r1' := (g1 _ _ (by assumption)).trans r1; have rf' := fun k => (g2 _ k (by assumption)).trans (rf k); have c4' := (g1 _ _ (by assumption)).trans c4; have f4' := (g2 _ _ (by assumption)).trans f4; have hz6 := hb6.size; have hx6 := Nat.lt_of_lt_of_le hBl hz6; have c2' := hCC.out w6 g1; have f2' := hFF.out w6 g2)
          refine ⟨(keeps_below hb6).trans ((KeepsOthers.setCell _ _ _).from _), fun hR => absurd (hR q a x [] (by simp)) (by have := hcmp'.out; omega)⟩
    case done2 =>
      rintro D2 ys W2 hD2 rfl ⟨x1, x2, x3, x4, x5, x6⟩ hK2
      have c1 := x1.c1
      have c4 := x1.c4
      have hl0 : w.heap.size < W2.heap.size := by omega
      have hl4 : w.heap.size + 2 + 1 < W2.heap.size := by omega
      have hl2 : w.heap.size + 1 < W2.heap.size := by omega
      have hx4 := Lib.hid x4
      have hx5 := Lib.hid x5
      have hx1 := Lib.hid x1
      have hK2' := Lib.hid hK2
      have hxsl := Lib.hid hlen
      have hlq : ((ys.length : Int) == (T.ps.length : Int) - T.free.length) = true := by rw [beq_iff_eq]; omega
      clear x4 x5 x1 hK2 CB5 LC5 H5 hB5 K5 X5 B5 hlen hE hL
      gi_wp2
      refine wpIn_wide.2 ?_
      refine wp_region_qbt 4 (by kernel_rfl) (by kernel_rfl) ?_
      simp only [List.take_succ_cons, List.take_zero, List.drop_succ_cons, List.drop_zero]
      repeat (first | (with_reducible refine wpQuiet_step (fun K hK => ?_); go_simp; first | (with_reducible refine hK _ ?_; clear hK K) | (apply Exists.intro; with_reducible refine ⟨fun W hW => ?_, hK _ ?_⟩; (first | (go_at_call 20; refine Len_k (x3.below hW) (fun w1 hb => ⟨rfl, ?_⟩); exact hW.trans (hb.mono hW.size)) | ((try obtain ⟨hc, hf⟩ := bcell hW); (try go_simp); first | done | exact ⟨rfl, rfl⟩ | rfl)); clear hK K)) | (with_reducible refine wpQ_skip (by with_unfolding_all rfl) ?_))
      refine wpQuiet_nil ?_
      intro w7 hb7
      have C7 := hx1.out.below hb7 (by omega)
      have c2 := C7.c2
      have f2 := C7.f2
      go_wp2
      gi_wp2
      have hD2l := lt_of_heap hK2'.out
      have ka : (w7.setCell ⟨w.heap.size + 1, 0, none⟩ (.bool true)).heap[D2]? = some (.deferred (some [])) := by
        rw [setCell_other (by omega), hb7.block D2 hD2l]; exact hK2'.out
      have kb : ((w7.setCell ⟨w.heap.size + 1, 0, none⟩ (.bool true)).putObj D2 (.deferred none)).heap[D]? = some (.deferred (some [])) := by
        rw [World.putObj_heap_other (by omega), setCell_other (by omega), hb7.block D (lt_of_heap hx5.out)]; exact hx5.out
      have cz : (((w7.setCell ⟨w.heap.size + 1, 0, none⟩ (.bool true)).putObj D2 (.deferred none)).putObj D (.deferred none)).cell? ⟨w.heap.size + 1, 0, none⟩ = some (.bool true) := by
        rw [World.cell?_of_block (w := (w7.setCell ⟨w.heap.size + 1, 0, none⟩ (.bool true)).putObj D2 (.deferred none)) (World.putObj_heap_other (by simp only; omega)), World.cell?_of_block (w := w7.setCell ⟨w.heap.size + 1, 0, none⟩ (.bool true)) (World.putObj_heap_other (by simp only; omega))]
        exact World.cell?_setCell_same _ _ _ c2
      refine ⟨by simp, .inl ⟨_, _, rfl, run_takeDeferred ka, ⟨by simp, .inl ⟨_, _, rfl, run_takeDeferred kb, ?_⟩⟩⟩⟩
      refine ⟨.bool true, by simp [results, Try.results14, go_sem, cz], HK.out _ ?_⟩
      exact (((hx4.out.trans (hb7.mono (by omega))).setCell (p := ⟨w.heap.size + 1, 0, none⟩) (by simp) _).trans (putObj_below (by omega))).trans (putObj_below (by omega))
end
end Go.Proofs.Ytkajknicgabdkaa

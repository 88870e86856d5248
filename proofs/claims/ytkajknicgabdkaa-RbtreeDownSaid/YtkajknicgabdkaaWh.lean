/-
  The law's all.
-/
import Derived.Test.YtkajknicgabdkaaWg
namespace Go.Proofs.Ytkajknicgabdkaa
open Go.RowKit Go.Shelf
attribute [local go_sem] Oper.semAt_some
section
variable {w : World} {b : Nat} {h : Han} {T : TS} {R : Ending → World → Prop}
theorem info_seg : (Try.prog.info? 36).map (fun i => (i.zero, i.size, i.bytes)) = some (some (.agg #[.int .i64 0, .int .i64 0, .int .i64 0, .int .i64 0, .int .i64 0]), 5, 40) := by kernel_rfl
theorem Seg.enc_one {p : Seg} : ∀ u ∈ p.enc, u.oneCell' = true := by simp [Seg.enc, Value.oneCell']
/-- A box of five cells that was laid for a loop's variable. -/
def SegAt (W : World) (B : Nat) (s : Seg) : Prop := W.heap[B]? = some (.cells #[.int .i64 s.ls, .int .i64 s.la, .int .i64 s.hs, .int .i64 s.ha, .int .i64 s.v] 36 (0, 0))
theorem cells_kept {W W' : World} {row : Option Nat} {k : Nat} {c : Array Value} {t : TypeId} {f : Nat × Nat} (h : W.heap[k]? = some (.cells c t f)) (hg : W.grownBy W' row) (hr : ∀ r, row = some r → ∃ o : Obj, W.heap[r]? = some o ∧ o.isCells = false) : W'.heap[k]? = some (.cells c t f) :=
  (hg.block k (lt_of_heap h) (fun e => by obtain ⟨o, ho, hc⟩ := hr k e.symm; rw [h] at ho; cases ho; cases hc)).trans h
theorem row_kept {W W' : World} {base e s n : Nat} {v : Value} {xs : List Value} {row : Option Nat} (h : W.ownsRow base e s v n xs) (hg : W.grownBy W' row) (hr : ∀ r, row = some r → ∃ o : Obj, W.heap[r]? = some o ∧ o.isCells = false) : W'.ownsRow base e s v n xs := by
  refine h.kept hg ?_
  rcases h.2 with ⟨rfl, _⟩ | ⟨g, cap, cur, rfl, _, hgb, _⟩
  · exact .inl rfl
  · refine .inr fun e' => ?_
    obtain ⟨o, ho, hc⟩ := hr g (by simpa [Value.ownBlock] using e'.symm)
    rw [hgb] at ho; cases ho; cases hc
theorem ownsRow_base {W : World} {b b' e s n : Nat} {v : Value} {xs : List Value} (h : W.ownsRow b e s v n xs) (hb : b' ≤ b) : W.ownsRow b' e s v n xs := by
  refine ⟨h.1, ?_⟩
  rcases h.2 with h2 | ⟨g, cap, cur, rfl, hb', rest⟩
  · exact .inl h2
  · exact .inr ⟨g, cap, cur, rfl, Nat.le_trans hb hb', rest⟩
set_option maxHeartbeats 4000000 in
set_option maxRecDepth 100000 in
theorem all_k {k : Nat} {i : Int} {xs : List Seg} (H : Tree w b h T) (hE : End T false k T.root i) (hL : Walks T true i xs) (hlen : xs.length ≤ 65536)
    (hk : ∀ v w', w'.ownsRow w.heap.size 36 5 v xs.length (xs.flatMap Seg.enc) → Below w.heap.size w w' → R (.returned v) w') :
    Calls Try.prog 16 #[.pointer (some ⟨h.t, 0, none⟩)] w R := by
  have HK := Lib.hid hk
  clear hk
  refine (callsIn_wide (n := 9)).1 ?_
  refine callsIn_of_wp_marks Try.func16 rfl trivial ?_ rfl
  simp only [Try.ntmps16, List.size_toArray, List.length_cons, List.length_nil, Nat.reduceAdd, Nat.reduceSub, Array.replicate_succ, Array.replicate_zero, List.push_toArray, List.append_toArray, List.nil_append, List.cons_append]
  obtain ⟨W0, hW0⟩ : ∃ W0, W0 = w.alloc (.cells #[.slice none 0 0] 28) := ⟨_, rfl⟩
  have hz0 : W0.heap.size = w.heap.size + 1 := by rw [hW0]; simp
  have hB0 : Below w.heap.size w W0 := by rw [hW0]; exact (Below.refl _ _).alloc (Nat.le_refl _) _
  have bx0 : Boxed W0 w.heap.size 28 (.slice none 0 0) := by rw [hW0]; exact Boxed.new _ _ _
  have H0 := H.below hB0
  have hW0' := Lib.hid hW0
  clear hW0
  gi_wp2_with (refine ⟨trivial, ?_⟩; gi_at_call 23; rw [← hW0'.out]; refine callsIn_wide.2 (All_k h (fun m1 m2 w2 B2 X2 hm1 hm2 hm3 hm4 => ?_)))
  have hz2 := B2.size
  have hown : ∀ k, h.own k → k < w.heap.size := fun k hk => (H.lt hk).2
  have hS : ∀ k, WS h m1 m2 k → k < w2.heap.size := fun k hk => hk.elim (fun e => by have := hown k e; omega) (fun e => by omega)
  obtain ⟨i0, hi9, hz9, hz1, hz3⟩ := info_parts info_seg
  have bx2 : Boxed w2 w.heap.size 28 (.slice none 0 0) := (B2.block _ bx0.lt).trans bx0
  refine wpIn_rangeFunc_ownH (n := 9) rfl (by omega) (gf := 65) (lb := #[.pointer (some ⟨m1, 0, none⟩), .pointer (some ⟨m2, 0, none⟩)]) rfl trivial (enters_of Try.func65 (by kernel_rfl) rfl)
    (up_stops 8 (by omega) (H0.below B2) X2 hE hL) Kq.t (Kq.put hS) (Below.refl _ _) (fun _ => rfl)
    (fun pre W => ∃ v, Boxed W w.heap.size 28 v ∧ W.ownsRow w2.heap.size 36 5 v pre.length (pre.flatMap Seg.enc) ∧ Below w.heap.size w W ∧ w2.heap.size ≤ W.heap.size)
    (fun _ _ _ => False)
    ?own (fun _ _ _ _ _ hs _ _ => hs) ⟨_, bx2, World.ownsRow_nil _ _ _ _, hB0.trans (B2.mono (by omega)), Nat.le_refl _⟩
    (fun s a' W => ∃ Bx, w2.heap.size ≤ Bx ∧ SegAt W Bx s ∧ a' = { tmps := #[.pointer (some ⟨h.t, 0, none⟩), undef, .slice none 0 0, .pointer (some ⟨w.heap.size, 0, none⟩), .pointer (some ⟨Bx, 0, none⟩), .pointer (some ⟨h.t, 0, none⟩), .func (.func 65) #[] #[.pointer (some ⟨m1, 0, none⟩), .pointer (some ⟨m2, 0, none⟩)], .agg #[.int .i64 s.ls, .int .i64 s.la, .int .i64 s.hs, .int .i64 s.ha, .int .i64 s.v], undef, undef, undef, undef, undef], defers := [] })
    (fun s a' _ W W' row hs hg hr => by
      obtain ⟨Bx, h1, h2, h3⟩ := hs
      exact ⟨Bx, h1, cells_kept h2 hg (fun r e => (hr r e).2), h3⟩) ?assign ?body ?done ?stop
  case own =>
    rintro pre W W' row ⟨v, x1, x2, x3, x4⟩ hg hr
    have hr' := fun r e => (hr r e).2
    exact ⟨v, cells_kept x1 hg hr', row_kept x2 hg hr', x3.trans (grown_below hg (by omega) (fun r e => ⟨by have := (hr r e).1; omega, hr' r e⟩)), Nat.le_trans x4 hg.size⟩
  case assign =>
    rintro l pre x W K ⟨v, x1, x2, x3, x4⟩ hK
    gi_wp2
    refine hK _ _ ((KeepsOthers.alloc _ _).from _) (Fr.alloc _ _ _) ⟨v, x1.alloc _, x2.alloc _, x3.alloc (by omega) _, by simp; omega⟩ ⟨W.heap.size, by omega, heap_alloc_new _ _, rfl⟩
  case body =>
    rintro l pre x a' W hl hr ⟨v, x1, x2, x3, x4⟩ ⟨Bx, hBx, bX, rfl⟩ hlt
    have hc := x1.cell
    have e0 : W.cell? ⟨Bx, 0, none⟩ = some (.int .i64 x.ls) := by have := bX; unfold SegAt at this; simp [World.cell?, this]
    have e1 : W.cell? ⟨Bx, 1, none⟩ = some (.int .i64 x.la) := by have := bX; unfold SegAt at this; simp [World.cell?, this]
    have e2 : W.cell? ⟨Bx, 2, none⟩ = some (.int .i64 x.hs) := by have := bX; unfold SegAt at this; simp [World.cell?, this]
    have e3 : W.cell? ⟨Bx, 3, none⟩ = some (.int .i64 x.ha) := by have := bX; unfold SegAt at this; simp [World.cell?, this]
    have e4 : W.cell? ⟨Bx, 4, none⟩ = some (.int .i64 x.v) := by have := bX; unfold SegAt at this; simp [World.cell?, this]
    have hx3 := Lib.hid x3
    have hbx := Lib.hid bX
    clear bX x3 HK
    gi_wp2_with (gi_at_builtin; refine wpListIn_append_own _ rfl _ _ 28 rfl w2.heap.size 36 i0 (.agg #[.int .i64 0, .int .i64 0, .int .i64 0, .int .i64 0, .int .i64 0]) 5 40 Try.underlying28 hi9 hz9 hz1 hz3 rfl (by decide) _ _ _ rfl (x2.alloc _) ⟨W.heap.size, 0, none⟩ 1 1 x.enc rfl rfl (World.news_of_block (heap_alloc_new _ _)) Seg.enc_one (by simp only [maxLen]; omega) (by omega) (by simp; omega) ?_; intro v' w1 hown' hgrow _; obtain ⟨g', cap', rfl⟩ := ownsRow_succ hown'; have hv1 := (x1.alloc _).kept hgrow (x1.not_row (by decide) x2); have hc1 := hv1.cell; have hf1 := hv1.frozen)
    have hlt2 := x2.lt
    have hgrow2 : (W.alloc (.cells x.enc.toArray 36)).grownBy w1 v.ownBlock := hgrow
    have F1 : Fr (fun k => v.ownBlock = some k) W w1 := by
      refine (Fr.alloc _ W (.cells x.enc.toArray 36)).trans ⟨hgrow2.os, hgrow2.tape, hgrow2.output, hgrow2.size, fun k hk hn => hgrow2.block k hk (fun e => hn e.symm)⟩
    have FA := (F1.mono (S' := fun k => v.ownBlock = some k ∨ k = w.heap.size) (fun k hk => .inl hk)).trans (Fr.setCell w1 ⟨w.heap.size, 0, none⟩ (.slice (some ⟨g', 0, none⟩) (pre.length + 1) cap') (.inr rfl))
    refine ⟨?_, FA.mono ?_, _, hv1.set _, ?_, ?_, Nat.le_trans x4 FA.size⟩
    · refine (((KeepsOthers.alloc W (.cells x.enc.toArray 36)).trans (KeepsOthers.of_grownBy hgrow2 fun j o ej hj => ?_)).trans (KeepsOthers.setCell _ _ _)).from _
      rcases (x2.alloc (.cells x.enc.toArray 36)).2 with ⟨rfl, _⟩ | ⟨g, cap, cur, rfl, _, hgb, _⟩
      · simp [Value.ownBlock] at ej
      · obtain rfl : g = j := by simpa [Value.ownBlock] using ej
        rw [hgb] at hj; cases hj; rfl
    · intro k hk hs
      have := hS k hs
      rcases hk with hk | hk
      · have := (hlt2 k hk).1; omega
      · rcases hs with hs | hs | hs
        · have := hown k hs; omega
        · omega
        · omega
    · have := hown'.kept (grownBy_setCell' w1 w.heap.size (.slice (some ⟨g', 0, none⟩) (pre.length + 1) cap')) (.inr (hv1.not_row (by decide) hown').symm)
      simpa [List.flatMap_append] using this
    · refine hx3.out.trans (FA.below (by omega) (fun k hk => ?_))
      rcases hk with hk | hk
      · have := (hlt2 k hk).1; omega
      · omega
  case done =>
    rintro D ys W hD rfl ⟨v, x1, x2, x3, x4⟩ hK
    have hc := x1.cell
    have hx3 := Lib.hid x3
    clear x3
    gi_wp2
    refine ⟨by simp, .inl ⟨_, _, rfl, run_takeDeferred hK, ?_⟩⟩
    refine ⟨_, results_tmp rfl _ _ _, ?_⟩
    exact HK.out v (W.putObj D (.deferred none)) (ownsRow_base (ownsRow_putObj x2 _ hK rfl) (by omega)) (hx3.out.trans (putObj_below (by omega)))
  case stop => exact fun _ _ _ _ _ _ h _ => h.elim
end
end Go.Proofs.Ytkajknicgabdkaa

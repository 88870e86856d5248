/-
  Callers of the iterators: the tree's Height, the law's all.
-/
import Derived.Test.YtkajknicgabdkaaWf
import Derived.Maps.AppendAt
namespace Go.Proofs.Ytkajknicgabdkaa
open Go.RowKit Go.Shelf
attribute [local go_sem] Oper.semAt_some
section
variable {w : World} {b : Nat} {h : Han} {T : TS} {R : Ending → World → Prop}
theorem grown_below {B : Nat} {W W' : World} {row : Option Nat} (hg : W.grownBy W' row) (hB : B ≤ W.heap.size) (hr : ∀ r, row = some r → B ≤ r ∧ ∃ o : Obj, W.heap[r]? = some o ∧ o.isCells = false) : Below B W W' :=
  ⟨hg.os, hg.tape, hg.output, hg.size, fun k hk => hg.block k (by omega) (fun e => by have := (hr k e.symm).1; omega)⟩
theorem ownFrom_of {β : Type} {B : Nat} {I : β → World → Prop} (hb : ∀ s W, I s W → B ≤ W.heap.size) (h : ∀ s W W', I s W → Below B W W' → I s W') : OwnFrom B I :=
  fun s W W' _ hs hg hr => h s W W' hs (grown_below hg (hb s W hs) hr)
theorem keeps_below {B : Nat} {W W' : World} (k : Below W.heap.size W W') : KeepsFrom B W W' :=
  ⟨k.size, fun i o _ hi _ => by rw [k.block i (lt_of_heap hi)]; exact hi⟩
theorem putObj_below {W : World} {D B : Nat} {o : Obj} (h : B ≤ D) : Below B W (W.putObj D o) := ⟨rfl, rfl, rfl, by simp, fun _ hk => World.putObj_heap_other (by omega)⟩
theorem below_frm {B : Nat} {W W' : World} (hb : Below B W W') : Fr (fun k => B ≤ k) W W' := ⟨hb.os, hb.tape, hb.output, hb.size, fun k _ hn => hb.block k (by omega)⟩
theorem below_kq {S : Nat → Prop} {W W' : World} (k : Below W.heap.size W W') : Kq S W W' := Fr.of_below k
theorem Kq.setCell {S : Nat → Prop} (W : World) (a : Addr) (v : Value) (h : ¬ S a.block) : Kq S W (W.setCell a v) := Fr.setCell (S := fun k => ¬ S k) W a v h

def maxL (l : List Nat) : Nat := l.foldl max 0
theorem maxL_snoc (l : List Nat) (x : Nat) : maxL (l ++ [x]) = max (maxL l) x := by simp [maxL]
def hgt (dep : Int → Nat) (pre : List { i : Int // T.ok i }) : Nat := maxL (pre.map (fun x => dep x.1))
theorem hgt_snoc (dep : Int → Nat) (pre : List { i : Int // T.ok i }) (x : { i : Int // T.ok i }) : hgt dep (pre ++ [x]) = max (hgt dep pre) (dep x.1) := by simp [hgt, maxL]
theorem hgt_nil (dep : Int → Nat) : hgt (T := T) dep [] = 0 := rfl
set_option maxHeartbeats 2000000 in
set_option maxRecDepth 100000 in
theorem Height_k {xs : List { i : Int // T.ok i }} {dep : Int → Nat} (H : Tree w b h T) (hL : EachL T 0 xs) (hd : ∀ i, T.ok i → ∃ k, Deep T i (dep i) k) (hm : ∀ i, dep i < 100000)
    (hk : ∀ w', Below w.heap.size w w' → R (.returned (.int .i64 (hgt dep xs))) w') : Calls Try.prog 18 #[.pointer (some ⟨h.t, 0, none⟩)] w R := by
  have HK := Lib.hid hk
  clear hk
  refine (callsIn_wide (n := 9)).1 ?_
  refine callsIn_of_wp_marks Try.func18 rfl trivial ?_ rfl
  simp only [Try.ntmps18, List.size_toArray, List.length_cons, List.length_nil, Nat.reduceAdd, Nat.reduceSub, Array.replicate_succ, Array.replicate_zero, List.push_toArray, List.append_toArray, List.nil_append, List.cons_append]
  have ca := H.c_arena
  have hht : h.t < w.heap.size := lt_of_heap H.ht
  obtain ⟨W0, hW0⟩ : ∃ W0, W0 = (w.alloc (.cells #[.pointer (some ⟨h.t, 0, none⟩)] 23)).alloc (.cells #[.int .i64 0] 3) := ⟨_, rfl⟩
  have hz0 : W0.heap.size = w.heap.size + 2 := by rw [hW0]; simp
  have hB0 : Below w.heap.size w W0 := by rw [hW0]; exact ((Below.refl _ _).alloc (Nat.le_refl _) _).alloc (by simp) _
  have d1 : W0.cell? ⟨w.heap.size, 0, none⟩ = some (.pointer (some ⟨h.t, 0, none⟩)) := by rw [hW0]; simp
  have d2 : W0.cell? ⟨w.heap.size + 1, 0, none⟩ = some (.int .i64 0) := by rw [hW0]; simp
  have d3 : W0.frozen? ⟨w.heap.size + 1, 0, none⟩ = false := by rw [hW0]; simp
  have H0 := H.below hB0
  have hW0' := Lib.hid hW0
  clear hW0
  gi_wp2_with (refine ⟨trivial, ?_⟩; gi_at_call 45; rw [← hW0'.out]; refine callsIn_wide.2 (Each_k h (fun m1 w2 B2 b2 hm1 hm2 => ?_)))
  have hz2 := B2.size
  have hown : ∀ k, h.own k → k < w.heap.size := fun k hk => (H.lt hk).2
  have hS : ∀ k, ES h m1 k → k < w2.heap.size := fun k hk => hk.elim (fun e => by have := hown k e; omega) (fun e => by omega)
  refine wpIn_rangeFunc_ownH (n := 9) rfl (by omega) (gf := 60) (lb := #[.pointer (some ⟨m1, 0, none⟩)]) rfl trivial (enters_of Try.func60 (by kernel_rfl) rfl)
    (each_stops 8 (by omega) ((H0.below B2)) b2 hL) Kq.t (Kq.put hS) (Below.refl _ _) (fun _ => rfl)
    (fun pre W => W.cell? ⟨w.heap.size, 0, none⟩ = some (.pointer (some ⟨h.t, 0, none⟩)) ∧ W.cell? ⟨w.heap.size + 1, 0, none⟩ = some (.int .i64 (hgt dep pre)) ∧ W.frozen? ⟨w.heap.size + 1, 0, none⟩ = false ∧ Tree W b h T ∧ Below w.heap.size w W ∧ w2.heap.size ≤ W.heap.size)
    (fun _ _ _ => False)
    (ownFrom_of (fun _ _ hs => hs.2.2.2.2.2) ?own) (fun _ => ownFrom_of (fun _ _ hs => hs.elim) (fun _ _ _ hs => hs.elim)) ?start
    (fun x a' _ => a' = { tmps := #[.pointer (some ⟨h.t, 0, none⟩), .pointer (some ⟨w.heap.size, 0, none⟩), .int .i64 0, .pointer (some ⟨w.heap.size + 1, 0, none⟩), .int .i64 x.1, undef, undef, .pointer (some ⟨h.t, 0, none⟩), .pointer (some ⟨h.t, 0, none⟩), .pointer (some ⟨h.t, 0, none⟩), .pointer (some ⟨h.a, 0, none⟩), .func (.func 60) #[] #[.pointer (some ⟨m1, 0, none⟩)], .int .i64 x.1, (T.pl x.1).n.val, undef, undef, undef, undef, undef, undef, undef, undef, undef, undef], defers := [] })
    (fun _ _ _ _ _ _ hs _ _ => hs) ?assign ?body ?done ?stop
  case own =>
    rintro pre W W' ⟨x1, x2, x3, x4, x5, x6⟩ hb
    have hk := bcell hb
    exact ⟨(hk.1 _ _ (by omega)).trans x1, (hk.1 _ _ (by omega)).trans x2, (hk.2 _ _ (by omega)).trans x3, x4.fr (below_frm hb) (fun k hk => by have := hown k hk; omega), x5.trans (hb.mono (by omega)), Nat.le_trans x6 hb.size⟩
  case start =>
    have hk := bcell B2
    exact ⟨(hk.1 _ _ (by omega)).trans d1, (hk.1 _ _ (by omega)).trans d2, (hk.2 _ _ (by omega)).trans d3, H0.below B2, hB0.trans (B2.mono (by omega)), Nat.le_refl _⟩
  case assign =>
    intro l pre x W K hI hK
    gi_wp2
    exact hK _ _ (KeepsFrom.refl _ _) (Fr.refl _ _) hI rfl
  case body =>
    rintro l pre x a' W hl hr ⟨x1, x2, x3, x4, x5, x6⟩ rfl hlt
    obtain ⟨kk, hdx⟩ := hd x.1 x.2
    have hmx := hm x.1
    have hx5 := Lib.hid x5
    clear x5 HK d1 d2 d3 H0 B2 hB0 b2
    gi_wp2_with (refine ⟨trivial, ?_⟩; gi_at_call 47; refine CallsIn.inRound l (callsIn_wide.2 (deep_k x4 hdx (by omega) ?_)))
    all_goals refine ⟨(KeepsOthers.setCell _ _ _).from _, Kq.setCell _ _ _ (fun hS => ?_), ?_, ?_, ?_, ?_, ?_, ?_⟩
    case inl.refine_1 => exact hS.elim (fun e => by have := hown _ e; simp only at this; omega) (fun e => by simp only at e; omega)
    case inr.refine_1 => exact hS.elim (fun e => by have := hown _ e; simp only at this; omega) (fun e => by simp only at e; omega)
    case inl.refine_2 => exact (World.cell?_setCell_far _ _ _ _ (by simp)).trans x1
    case inr.refine_2 => exact (World.cell?_setCell_far _ _ _ _ (by simp)).trans x1
    case inl.refine_3 => exact (World.cell?_setCell_same _ _ _ x2).trans (by rw [hgt_snoc, Nat.max_eq_right (by omega)])
    case inr.refine_3 => exact (World.cell?_setCell_same _ _ _ x2).trans (by rw [hgt_snoc, Nat.max_eq_left (by omega)])
    all_goals first
      | (rw [World.frozen?_setCell]; exact x3)
      | (exact x4.fr (Fr.setCell (S := fun k => k = w.heap.size + 1) _ _ _ rfl) (fun k hk => by have := hown k hk; omega))
      | (exact hx5.out.setCell (p := ⟨w.heap.size + 1, 0, none⟩) (by simp) _)
      | (simpa using x6)
  case done =>
    rintro D ys W hD rfl ⟨x1, x2, x3, x4, x5, x6⟩ hK
    have hx5 := Lib.hid x5
    clear x5
    gi_wp2
    refine ⟨by simp, .inl ⟨_, _, rfl, run_takeDeferred hK, ?_⟩⟩
    refine ⟨_, results_tmp rfl _ _ _, ?_⟩
    exact HK.out (W.putObj D (.deferred none)) (hx5.out.trans (putObj_below (by omega)))
  case stop => exact fun _ _ _ _ _ _ h _ => h.elim
end
end Go.Proofs.Ytkajknicgabdkaa

/-
  The iterators: the closure of the tree's walk, and the arena's Each.
-/
import Derived.Test.YtkajknicgabdkaaW7
import Derived.Test.YtkajknicgabdkaaWb
import Derived.RangeFuncNested
import Derived.RangeFuncBound
import Derived.RangeFuncCalls
import Derived.RangeFuncLeaves
import Derived.Shelf.Abstract
import Derived.Shelf.RegionOpen
import Derived.WalkKit
import Derived.OwnWalkIn
import Derived.TacticsInMore
import Derived.LoopNIn
import Derived.LoopIn
import Derived.Sort.LoopGhostIn
namespace Go.Proofs.Ytkajknicgabdkaa
open Go.RowKit Go.Shelf
attribute [local go_sem] Oper.semAt_some
section
variable {w : World} {b : Nat} {h : Han} {T : TS} {R : Ending → World → Prop}

/-- The segments from a node on, towards a side. -/
inductive Walks (T : TS) (s : Bool) : Int → List Seg → Prop
  | nil : Walks T s (-1) []
  | cons {i j : Int} {L : List Seg} (hi : T.ok i) (hn : Next T s i j) (rest : Walks T s j L) : Walks T s i ((T.nd i).s :: L)
/-- The blocks of S stand as they stood. -/
def Kq (S : Nat → Prop) (W W' : World) : Prop := Fr (fun k => ¬ S k) W W'
theorem Kq.t {S : Nat → Prop} {A B C : World} (x : Kq S A B) (y : Kq S B C) : Kq S A C := Fr.trans x y
theorem Kq.put {S : Nat → Prop} {m : Nat} (hS : ∀ k, S k → k < m) (W : World) (l : Nat) (o o' : Obj) (hl : m ≤ l) (_ : W.heap[l]? = some o) (_ : o.isCells = false) (_ : o.isWalk = false) : Kq S W (W.putObj l o') :=
  ⟨rfl, rfl, rfl, by simp, fun k _ hn => World.putObj_heap_other (fun e => hn (fun hk => by have := hS k hk; omega))⟩
theorem Kq.tree {S : Nat → Prop} {W W' : World} (k : Kq S W W') (H : Tree W b h T) (hS : ∀ k, h.own k → S k) : Tree W' b h T := H.fr k (fun j hj hn => hn (hS j hj))
theorem Kq.cell {S : Nat → Prop} {W W' : World} (k : Kq S W W') {a : Addr} {v : Value} (hS : S a.block) (hc : W.cell? a = some v) : W'.cell? a = some v := by
  rw [Fr.cell k (World.block_lt_of_cell? _ _ hc) (fun hn => hn hS)]; exact hc
/-- What the closure of a walk has captured. -/
structure WBox (W : World) (h : Han) (m1 m2 : Nat) (s : Int) : Prop where
  b1 : W.cell? ⟨m1, 0, none⟩ = some (.pointer (some ⟨h.t, 0, none⟩))
  b2 : W.cell? ⟨m2, 0, none⟩ = some (.int .i64 s)
def WS (h : Han) (m1 m2 : Nat) (k : Nat) : Prop := h.own k ∨ k = m1 ∨ k = m2
theorem WBox.kept {W W' : World} {m1 m2 : Nat} {s : Int} (B : WBox W h m1 m2 s) (k : Kq (WS h m1 m2) W W') : WBox W' h m1 m2 s :=
  ⟨k.cell (.inr (.inl rfl)) B.b1, k.cell (.inr (.inr rfl)) B.b2⟩
theorem WBox.below {W W' : World} {m1 m2 : Nat} {s : Int} (B : WBox W h m1 m2 s) (k : Below W.heap.size W W') : WBox W' h m1 m2 s :=
  ⟨by rw [(bcell k).1 _ _ (World.block_lt_of_cell? _ _ B.b1)]; exact B.b1, by rw [(bcell k).1 _ _ (World.block_lt_of_cell? _ _ B.b2)]; exact B.b2⟩

theorem abides_below {β : Type} {m : Nat} {J : β → World → Prop} (hJ : AbidesFrom m J) {s : β} {W W' : World} (h : J s W) (k : Below W.heap.size W W') : J s W' :=
  hJ s W W' none h ⟨k.os, k.tape, k.output, k.size, fun i hi _ => k.block i hi⟩ (fun r e => by cases e)
abbrev encS (s : Seg) : Array Value := #[.agg #[.int .i64 s.ls, .int .i64 s.la, .int .i64 s.hs, .int .i64 s.ha, .int .i64 s.v]]
set_option maxHeartbeats 2000000 in
set_option maxRecDepth 100000 in
theorem walk1_rising (n : Nat) (hn : 1 ≤ n) (l m1 m2 : Nat) {k : Nat} {i : Int} {xs : List Seg} (J Jx : List Seg → World → Prop)
    (hJ : AbidesFrom w.heap.size J) 
    (hY : ∀ pre x W, J pre W → pre.length < xs.length → YieldAt Fence.wide (n - 1) Try.prog l (encS x) W fun e W' =>
      (e = .returned (.bool true) ∧ J (pre ++ [x]) W' ∧ Kq (WS h m1 m2) W W') ∨ (e = .returned (.bool false) ∧ Jx (pre ++ [x]) W'))
    (H : Tree w b h T) (hB : WBox w h m1 m2 0) (hE : End T false k T.root i) (hL : Walks T true i xs) (h0 : J [] w) :
    CallsIn Fence.wide n Try.prog 65 #[.func (.yield l) #[] #[], .pointer (some ⟨m1, 0, none⟩), .pointer (some ⟨m2, 0, none⟩)] w fun e W' => (∃ v, e = .returned v) ∧
      ((∃ ys, ys = xs ∧ J ys W') ∨ (∃ pre, pre <+: xs ∧ Jx pre W')) := by
  refine callsIn_of_wp Try.func65 rfl trivial ?_ rfl
  simp only [Try.ntmps65, List.size_toArray, List.length_cons, List.length_nil, Nat.reduceAdd, Nat.reduceSub, Array.replicate_succ, Array.replicate_zero, List.push_toArray, List.append_toArray, List.nil_append, List.cons_append]
  gi_wp2_with fail
  refine wpIn_wide.2 ?_
  have c1 := hB.b1
  have c2 := hB.b2
  have c3 := H.c_root
  have HA : Hid (∀ n : Nat, Calls Try.prog 40 #[.pointer (some ⟨h.t, 0, none⟩), .int .i64 T.root, .int .i64 0] (w.drewN n) fun e w' => e = .returned (.int .i64 i) ∧ w' = w.drewN n) :=
    Lib.hid (fun n => end0_k (H.drewN n) hE ⟨rfl, rfl⟩)
  have HD := Lib.hid (fun n => (Fr.drewN (fun _ => False) w n).below (B := w.heap.size) (Nat.le_refl _) (fun _ h => h.elim))
  have H0 := Lib.hid h0
  clear h0
  refine wp_region_qt (fun w' => ∃ n, w' = World.drewN w n) 7 (by kernel_rfl) (by kernel_rfl) ⟨1, rfl⟩ ?_
  simp only [List.take_succ_cons, List.take_zero, List.drop_succ_cons, List.drop_zero]
  repeat (quiet_step ((go_at_call 40; exact Calls.quiet_of_same (HA.out _))))
  refine wpQuiet_nil ?_
  intro _ hw'
  obtain ⟨nq, hw''⟩ := hw'
  subst hw''
  go_wp2
  have H1 := H.drewN nq
  have B1 := hB.below (HD.out nq)
  have J1 := abides_below hJ H0.out (HD.out nq)
  clear HA HD H0 hE c1 c2 c3 H hB
  revert H1 B1 J1
  generalize w.drewN nq = w1
  intro H1 B1 J1
  gi_wp2_with fail
  gi_loopg [4] xs.length (fun q p wr => ∃ (j : Int) (pre rest : List Seg), p = .int .i64 j ∧ q = rest.length ∧ xs = pre ++ rest ∧ Tree wr b h T ∧ WBox wr h m1 m2 0 ∧ Walks T true j rest ∧ J pre wr)
  case atStart => exact ⟨i, [], xs, rfl, rfl, rfl, H1, B1, hL, J1⟩
  case round =>
    obtain ⟨j, pre, rest, rfl, hq, hx, H2, B2, hW, hJ2⟩ := hrel
    clear H1 B1 J1 hL
    cases hW with
    | nil =>
      gi_wp2
      go_end0
      exact ⟨⟨_, rfl⟩, .inl ⟨pre, by simp [hx], hJ2⟩⟩
    | @cons _ j2 L hi hnx hr =>
      have hne : (j != -1) = true := by have := hi.1; rw [bne_iff_ne]; omega
      obtain ⟨fn, tmps, assign, body, hy, hR⟩ := hY pre (T.nd j).s _ hJ2 (by rw [hx]; simp)
      obtain ⟨y0, y1, y2, y3, y4⟩ := H2.c_seg hi
      have c1 := B2.b1
      have hRR := Lib.hid hR
      clear hR
      gi_wp2_with (refine ⟨trivial, ?_⟩; gi_at_call 36; refine callsIn_wide.2 (at_k H2 hi ?_))
      refine hRR.out.mono ?_
      clear hRR hy y0 y1 y2 y3 y4 c1
      rintro e W3 (⟨rfl, hJ3, hk3⟩ | ⟨rfl, hJx3⟩)
      · have H3 := hk3.tree H2 (fun k hk => .inl hk)
        have B3 := B2.kept hk3
        have c1 := B3.b1
        have c2 := B3.b2
        have hnx' := Lib.hid hnx
        clear H2 B2 hk3 hJ2 hnx
        gi_wp2_with (refine ⟨trivial, ?_⟩; gi_at_call 66; refine callsIn_wide.2 (next1_k H3 hi hnx'.out (fun w4 hb4 => ?_)))
        gi_roundg L.length
        case measure => rw [hq]; simp
        case rel => exact ⟨j2, pre ++ [(T.nd j).s], L, rfl, rfl, by simp [hx], H3.below hb4, B3.below hb4, hr, abides_below hJ hJ3 hb4⟩
      · gi_wp2
        refine bodyPost_ret (results_none rfl _ _ _) rfl ?_
        exact ⟨⟨_, rfl⟩, .inr ⟨pre ++ [(T.nd j).s], ⟨L, by simp [hx]⟩, hJx3⟩⟩
set_option maxHeartbeats 2000000 in
set_option maxRecDepth 100000 in
theorem walk1_falling (n : Nat) (hn : 1 ≤ n) (l m1 m2 : Nat) {k : Nat} {i : Int} {xs : List Seg} (J Jx : List Seg → World → Prop)
    (hJ : AbidesFrom w.heap.size J) 
    (hY : ∀ pre x W, J pre W → pre.length < xs.length → YieldAt Fence.wide (n - 1) Try.prog l (encS x) W fun e W' =>
      (e = .returned (.bool true) ∧ J (pre ++ [x]) W' ∧ Kq (WS h m1 m2) W W') ∨ (e = .returned (.bool false) ∧ Jx (pre ++ [x]) W'))
    (H : Tree w b h T) (hB : WBox w h m1 m2 1) (hE : End T true k T.root i) (hL : Walks T false i xs) (h0 : J [] w) :
    CallsIn Fence.wide n Try.prog 65 #[.func (.yield l) #[] #[], .pointer (some ⟨m1, 0, none⟩), .pointer (some ⟨m2, 0, none⟩)] w fun e W' => (∃ v, e = .returned v) ∧
      ((∃ ys, ys = xs ∧ J ys W') ∨ (∃ pre, pre <+: xs ∧ Jx pre W')) := by
  refine callsIn_of_wp Try.func65 rfl trivial ?_ rfl
  simp only [Try.ntmps65, List.size_toArray, List.length_cons, List.length_nil, Nat.reduceAdd, Nat.reduceSub, Array.replicate_succ, Array.replicate_zero, List.push_toArray, List.append_toArray, List.nil_append, List.cons_append]
  gi_wp2_with fail
  refine wpIn_wide.2 ?_
  have c1 := hB.b1
  have c2 := hB.b2
  have c3 := H.c_root
  have HA : Hid (∀ n : Nat, Calls Try.prog 40 #[.pointer (some ⟨h.t, 0, none⟩), .int .i64 T.root, .int .i64 1] (w.drewN n) fun e w' => e = .returned (.int .i64 i) ∧ w' = w.drewN n) :=
    Lib.hid (fun n => end1_k (H.drewN n) hE ⟨rfl, rfl⟩)
  have HD := Lib.hid (fun n => (Fr.drewN (fun _ => False) w n).below (B := w.heap.size) (Nat.le_refl _) (fun _ h => h.elim))
  have H0 := Lib.hid h0
  clear h0
  refine wp_region_qt (fun w' => ∃ n, w' = World.drewN w n) 7 (by kernel_rfl) (by kernel_rfl) ⟨1, rfl⟩ ?_
  simp only [List.take_succ_cons, List.take_zero, List.drop_succ_cons, List.drop_zero]
  repeat (quiet_step ((go_at_call 40; exact Calls.quiet_of_same (HA.out _))))
  refine wpQuiet_nil ?_
  intro _ hw'
  obtain ⟨nq, hw''⟩ := hw'
  subst hw''
  go_wp2
  have H1 := H.drewN nq
  have B1 := hB.below (HD.out nq)
  have J1 := abides_below hJ H0.out (HD.out nq)
  clear HA HD H0 hE c1 c2 c3 H hB
  revert H1 B1 J1
  generalize w.drewN nq = w1
  intro H1 B1 J1
  gi_wp2_with fail
  gi_loopg [4] xs.length (fun q p wr => ∃ (j : Int) (pre rest : List Seg), p = .int .i64 j ∧ q = rest.length ∧ xs = pre ++ rest ∧ Tree wr b h T ∧ WBox wr h m1 m2 1 ∧ Walks T false j rest ∧ J pre wr)
  case atStart => exact ⟨i, [], xs, rfl, rfl, rfl, H1, B1, hL, J1⟩
  case round =>
    obtain ⟨j, pre, rest, rfl, hq, hx, H2, B2, hW, hJ2⟩ := hrel
    clear H1 B1 J1 hL
    cases hW with
    | nil =>
      gi_wp2
      go_end0
      exact ⟨⟨_, rfl⟩, .inl ⟨pre, by simp [hx], hJ2⟩⟩
    | @cons _ j2 L hi hnx hr =>
      have hne : (j != -1) = true := by have := hi.1; rw [bne_iff_ne]; omega
      obtain ⟨fn, tmps, assign, body, hy, hR⟩ := hY pre (T.nd j).s _ hJ2 (by rw [hx]; simp)
      obtain ⟨y0, y1, y2, y3, y4⟩ := H2.c_seg hi
      have c1 := B2.b1
      have hRR := Lib.hid hR
      clear hR
      gi_wp2_with (refine ⟨trivial, ?_⟩; gi_at_call 36; refine callsIn_wide.2 (at_k H2 hi ?_))
      refine hRR.out.mono ?_
      clear hRR hy y0 y1 y2 y3 y4 c1
      rintro e W3 (⟨rfl, hJ3, hk3⟩ | ⟨rfl, hJx3⟩)
      · have H3 := hk3.tree H2 (fun k hk => .inl hk)
        have B3 := B2.kept hk3
        have c1 := B3.b1
        have c2 := B3.b2
        have hnx' := Lib.hid hnx
        clear H2 B2 hk3 hJ2 hnx
        gi_wp2_with (refine ⟨trivial, ?_⟩; gi_at_call 66; refine callsIn_wide.2 (next0_k H3 hi hnx'.out (fun w4 hb4 => ?_)))
        gi_roundg L.length
        case measure => rw [hq]; simp
        case rel => exact ⟨j2, pre ++ [(T.nd j).s], L, rfl, rfl, by simp [hx], H3.below hb4, B3.below hb4, hr, abides_below hJ hJ3 hb4⟩
      · gi_wp2
        refine bodyPost_ret (results_none rfl _ _ _) rfl ?_
        exact ⟨⟨_, rfl⟩, .inr ⟨pre ++ [(T.nd j).s], ⟨L, by simp [hx]⟩, hJx3⟩⟩

theorem up_stops (n : Nat) (hn : 1 ≤ n) {m1 m2 k : Nat} {i : Int} {xs : List Seg} (H : Tree w b h T) (hB : WBox w h m1 m2 0) (hE : End T false k T.root i) (hL : Walks T true i xs) :
    SeqStopsK Fence.wide n Try.prog 65 #[.pointer (some ⟨m1, 0, none⟩), .pointer (some ⟨m2, 0, none⟩)] encS (Kq (WS h m1 m2)) (· = xs) (· <+: xs) xs.length w :=
  fun l J Jx W hW hJ hJx hY h0 => walk1_rising (w := W) n hn l m1 m2 J Jx hJ hY (H.below hW) (hB.below hW) hE hL h0
theorem down_stops (n : Nat) (hn : 1 ≤ n) {m1 m2 k : Nat} {i : Int} {xs : List Seg} (H : Tree w b h T) (hB : WBox w h m1 m2 1) (hE : End T true k T.root i) (hL : Walks T false i xs) :
    SeqStopsK Fence.wide n Try.prog 65 #[.pointer (some ⟨m1, 0, none⟩), .pointer (some ⟨m2, 0, none⟩)] encS (Kq (WS h m1 m2)) (· = xs) (· <+: xs) xs.length w :=
  fun l J Jx W hW hJ hJx hY h0 => walk1_falling (w := W) n hn l m1 m2 J Jx hJ hY (H.below hW) (hB.below hW) hE hL h0

theorem walk_k {f : Int} (h : Han) (hk : ∀ m1 m2 w', Below w.heap.size w w' → WBox w' h m1 m2 f → w.heap.size ≤ m1 → w.heap.size ≤ m2 → m1 < w'.heap.size → m2 < w'.heap.size → R (.returned (.func (.func 65) #[] #[.pointer (some ⟨m1, 0, none⟩), .pointer (some ⟨m2, 0, none⟩)])) w') :
    Calls Try.prog 51 #[.pointer (some ⟨h.t, 0, none⟩), .int .i64 f] w R := by
  have HK := Lib.hid hk
  clear hk
  go_enter Try.func51, Try.ntmps51
  go_wp2
  refine HK.out _ _ _ (((Below.refl _ _).alloc (Nat.le_refl _) _).alloc (by simp) _) ⟨by simp, by simp⟩ (Nat.le_refl _) (by omega) (by simp; omega) (by simp)
theorem All_k (h : Han) (hk : ∀ m1 m2 w', Below w.heap.size w w' → WBox w' h m1 m2 0 → w.heap.size ≤ m1 → w.heap.size ≤ m2 → m1 < w'.heap.size → m2 < w'.heap.size → R (.returned (.func (.func 65) #[] #[.pointer (some ⟨m1, 0, none⟩), .pointer (some ⟨m2, 0, none⟩)])) w') :
    Calls Try.prog 23 #[.pointer (some ⟨h.t, 0, none⟩)] w R := by
  have HK := Lib.hid hk
  clear hk
  go_enter Try.func23, Try.ntmps23
  go_wp2_with (go_at_call 51; refine walk_k h (fun m1 m2 w1 B1 B2 h1 h2 h3 h4 => ?_))
  exact HK.out _ _ _ B1 B2 h1 h2 h3 h4
theorem Down_k (h : Han) (hk : ∀ m1 m2 w', Below w.heap.size w w' → WBox w' h m1 m2 1 → w.heap.size ≤ m1 → w.heap.size ≤ m2 → m1 < w'.heap.size → m2 < w'.heap.size → R (.returned (.func (.func 65) #[] #[.pointer (some ⟨m1, 0, none⟩), .pointer (some ⟨m2, 0, none⟩)])) w') :
    Calls Try.prog 22 #[.pointer (some ⟨h.t, 0, none⟩)] w R := by
  have HK := Lib.hid hk
  clear hk
  go_enter Try.func22, Try.ntmps22
  go_wp2_with (go_at_call 51; refine walk_k h (fun m1 m2 w1 B1 B2 h1 h2 h3 h4 => ?_))
  exact HK.out _ _ _ B1 B2 h1 h2 h3 h4
end
end Go.Proofs.Ytkajknicgabdkaa

/-
  Walks of near (its closure too), Floor, Lower.
-/
import Derived.Test.YtkajknicgabdkaaW7
namespace Go.Proofs.Ytkajknicgabdkaa
open Go.RowKit
section
variable {w : World} {b : Nat} {h : Han} {T : TS} {R : Ending → World → Prop}

def fitsB (T : TS) (c : K) (own : Bool) (i : Int) : Bool := (cmpC (T.nd i).key c == 0 && own) || decide (cmpC (T.nd i).key c < 0)

set_option maxHeartbeats 2000000 in
set_option maxRecDepth 100000 in
theorem near1_k {i s a : Int} {own : Bool} {b0 b1 b2 b3 : Nat} (H : Tree w b h T) (hi : T.ok i) (h0 : w.cell? ⟨b0, 0, none⟩ = some (.pointer (some ⟨h.t, 0, none⟩)))
    (h1 : w.cell? ⟨b1, 0, none⟩ = some (.int .i64 s)) (h1' : w.cell? ⟨b1, 1, none⟩ = some (.int .i64 a)) (h2 : w.cell? ⟨b2, 0, none⟩ = some (.bool own)) (h3 : w.cell? ⟨b3, 0, none⟩ = some (.int .i64 0))
    (hk : ∀ w', Below w.heap.size w w' → R (.returned (.bool (fitsB T (s, a) own i))) w') :
    Calls Try.prog 67 #[.int .i64 i, .pointer (some ⟨b0, 0, none⟩), .pointer (some ⟨b1, 0, none⟩), .pointer (some ⟨b2, 0, none⟩), .pointer (some ⟨b3, 0, none⟩)] w R := by
  have HK := Lib.hid hk
  clear hk
  have l0 : b0 < w.heap.size := World.block_lt_of_cell? _ _ h0
  have l1 : b1 < w.heap.size := World.block_lt_of_cell? _ _ h1
  have l2 : b2 < w.heap.size := World.block_lt_of_cell? _ _ h2
  have l3 : b3 < w.heap.size := World.block_lt_of_cell? _ _ h3
  rcases Int.lt_trichotomy (cmpC ((T.nd i).s.ls, (T.nd i).s.la) (s, a)) 0 with hx | hx | hx
  · have e1 : (cmpC ((T.nd i).s.ls, (T.nd i).s.la) (s, a) == 0) = false := beq_eq_false_iff_ne.2 (by omega)
    have e2 : decide (cmpC ((T.nd i).s.ls, (T.nd i).s.la) (s, a) < 0) = true := decide_eq_true hx
    have e3 : fitsB T (s, a) own i = true := by unfold fitsB Node.key; rw [e1, e2]; simp
    rw [e3] at HK
    clear e3 hx
    go_enter Try.func67, Try.ntmps67
    go_wp2_with fail
    refine wp_region_qb (by kernel_rfl) (by kernel_rfl) ?_
    repeat (first | (with_reducible refine wpQuiet_step (fun K hK => ?_); go_simp; first | (with_reducible refine hK _ ?_; clear hK K) | (apply Exists.intro; with_reducible refine ⟨fun W hW => ?_, hK _ ?_⟩; (first | (go_at_call 55; refine key_k (H.below hW) hi (fun w1 hb => ⟨rfl, ?_⟩); exact bstep hW hb (by simp)) | (go_at_call 48; refine Compare_k _ _ _ _ (fun w1 hb => ⟨rfl, ?_⟩); exact bstep hW hb (by simp)) | ((try obtain ⟨hc, hf⟩ := bcell hW); (try go_simp); first | done | exact ⟨rfl, rfl⟩ | rfl)); clear hK K)) | (with_reducible refine wpQ_skip (by with_unfolding_all rfl) ?_))
    refine wpQuiet_nil ?_
    intro w1 hb
    obtain ⟨hc, hf⟩ := bcell hb
    go_wp2
    exact HK.out _ hb
  · have e1 : (cmpC ((T.nd i).s.ls, (T.nd i).s.la) (s, a) == 0) = true := beq_iff_eq.2 hx
    have e2 : decide (cmpC ((T.nd i).s.ls, (T.nd i).s.la) (s, a) < 0) = false := decide_eq_false (by omega)
    have e4 : fitsB T (s, a) own i = own := by unfold fitsB Node.key; rw [e1, e2]; simp
    rw [e4] at HK
    clear e4 hx
    cases own
    · go_enter Try.func67, Try.ntmps67
      go_wp2_with fail
      refine wp_region_qb (by kernel_rfl) (by kernel_rfl) ?_
      repeat (first | (with_reducible refine wpQuiet_step (fun K hK => ?_); go_simp; first | (with_reducible refine hK _ ?_; clear hK K) | (apply Exists.intro; with_reducible refine ⟨fun W hW => ?_, hK _ ?_⟩; (first | (go_at_call 55; refine key_k (H.below hW) hi (fun w1 hb => ⟨rfl, ?_⟩); exact bstep hW hb (by simp)) | (go_at_call 48; refine Compare_k _ _ _ _ (fun w1 hb => ⟨rfl, ?_⟩); exact bstep hW hb (by simp)) | ((try obtain ⟨hc, hf⟩ := bcell hW); (try go_simp); first | done | exact ⟨rfl, rfl⟩ | rfl)); clear hK K)) | (with_reducible refine wpQ_skip (by with_unfolding_all rfl) ?_))
      refine wpQuiet_nil ?_
      intro w1 hb
      obtain ⟨hc, hf⟩ := bcell hb
      go_wp2
      exact HK.out _ hb
    · go_enter Try.func67, Try.ntmps67
      go_wp2_with fail
      refine wp_region_qb (by kernel_rfl) (by kernel_rfl) ?_
      repeat (first | (with_reducible refine wpQuiet_step (fun K hK => ?_); go_simp; first | (with_reducible refine hK _ ?_; clear hK K) | (apply Exists.intro; with_reducible refine ⟨fun W hW => ?_, hK _ ?_⟩; (first | (go_at_call 55; refine key_k (H.below hW) hi (fun w1 hb => ⟨rfl, ?_⟩); exact bstep hW hb (by simp)) | (go_at_call 48; refine Compare_k _ _ _ _ (fun w1 hb => ⟨rfl, ?_⟩); exact bstep hW hb (by simp)) | ((try obtain ⟨hc, hf⟩ := bcell hW); (try go_simp); first | done | exact ⟨rfl, rfl⟩ | rfl)); clear hK K)) | (with_reducible refine wpQ_skip (by with_unfolding_all rfl) ?_))
      refine wpQuiet_nil ?_
      intro w1 hb
      obtain ⟨hc, hf⟩ := bcell hb
      go_wp2
      exact HK.out _ hb
  · have e1 : (cmpC ((T.nd i).s.ls, (T.nd i).s.la) (s, a) == 0) = false := beq_eq_false_iff_ne.2 (by omega)
    have e2 : decide (cmpC ((T.nd i).s.ls, (T.nd i).s.la) (s, a) < 0) = false := decide_eq_false (by omega)
    have e3 : fitsB T (s, a) own i = false := by unfold fitsB Node.key; rw [e1, e2]; simp
    rw [e3] at HK
    clear e3 hx
    go_enter Try.func67, Try.ntmps67
    go_wp2_with fail
    refine wp_region_qb (by kernel_rfl) (by kernel_rfl) ?_
    repeat (first | (with_reducible refine wpQuiet_step (fun K hK => ?_); go_simp; first | (with_reducible refine hK _ ?_; clear hK K) | (apply Exists.intro; with_reducible refine ⟨fun W hW => ?_, hK _ ?_⟩; (first | (go_at_call 55; refine key_k (H.below hW) hi (fun w1 hb => ⟨rfl, ?_⟩); exact bstep hW hb (by simp)) | (go_at_call 48; refine Compare_k _ _ _ _ (fun w1 hb => ⟨rfl, ?_⟩); exact bstep hW hb (by simp)) | ((try obtain ⟨hc, hf⟩ := bcell hW); (try go_simp); first | done | exact ⟨rfl, rfl⟩ | rfl)); clear hK K)) | (with_reducible refine wpQ_skip (by with_unfolding_all rfl) ?_))
    refine wpQuiet_nil ?_
    intro w1 hb
    obtain ⟨hc, hf⟩ := bcell hb
    go_wp2
    exact HK.out _ hb

inductive Near (T : TS) (c : K) (own : Bool) : Nat → Int → Int → Int → Prop
  | none {best : Int} : Near T c own 0 (-1) best best
  | fit {n : Nat} {i j best r : Int} (hi : T.ok i) (hf : fitsB T c own i = true) (hj : (T.nd i).r = j) (rest : Near T c own n j i r) : Near T c own (n + 1) i best r
  | miss {n : Nat} {i j best r : Int} (hi : T.ok i) (hf : fitsB T c own i = false) (hj : (T.nd i).l = j) (rest : Near T c own n j best r) : Near T c own (n + 1) i best r

/-- near's own variables, in blocks from m on. -/
structure NearBox (m t : Nat) (s a : Int) (own : Bool) (w : World) : Prop where
  c0 : w.cell? ⟨m, 0, none⟩ = some (.pointer (some ⟨t, 0, none⟩))
  c1 : w.cell? ⟨m + 1, 0, none⟩ = some (.int .i64 s)
  c2 : w.cell? ⟨m + 1, 1, none⟩ = some (.int .i64 a)
  c3 : w.cell? ⟨m + 2, 0, none⟩ = some (.int .i64 0)
  c4 : w.cell? ⟨m + 3, 0, none⟩ = some (.bool own)
  c5 : w.heap[m + 4]? = some (.cells #[.int .i64 0, .int .i64 0, .int .i64 0, .int .i64 0, .int .i64 0] 36 (0, 0))
  lt : m + 4 < w.heap.size
theorem NearBox.below {m t : Nat} {s a : Int} {own : Bool} {w' : World} (X : NearBox m t s a own w) (hb : Below w.heap.size w w') : NearBox m t s a own w' := by
  have hl := X.lt
  refine ⟨?_, ?_, ?_, ?_, ?_, ?_, Nat.lt_of_lt_of_le hl hb.size⟩
  · rw [(bcell hb).1 _ _ (by omega)]; exact X.c0
  · rw [(bcell hb).1 _ _ (by omega)]; exact X.c1
  · rw [(bcell hb).1 _ _ (by omega)]; exact X.c2
  · rw [(bcell hb).1 _ _ (by omega)]; exact X.c3
  · rw [(bcell hb).1 _ _ (by omega)]; exact X.c4
  · rw [hb.block _ hl]; exact X.c5
theorem NearBox.drewN {m t : Nat} {s a : Int} {own : Bool} (X : NearBox m t s a own w) (n : Nat) : NearBox m t s a own (w.drewN n) := X.below ((Fr.drewN (fun _ => False) w n).below (Nat.le_refl _) (fun _ h => h.elim))

set_option maxHeartbeats 2000000 in
set_option maxRecDepth 100000 in
theorem near_k {s a r : Int} {own : Bool} {n : Nat} (H : Tree w b h T) (hn : Near T (s, a) own n T.root (-1) r) (hr : r = -1 ∨ T.ok r)
    (hk : ∀ w', Below w.heap.size w w' → R (.returned (.tuple #[.agg #[.int .i64 (toldS T r).1.ls, .int .i64 (toldS T r).1.la, .int .i64 (toldS T r).1.hs, .int .i64 (toldS T r).1.ha, .int .i64 (toldS T r).1.v], .bool (toldS T r).2])) w') :
    Calls Try.prog 53 #[.pointer (some ⟨h.t, 0, none⟩), .agg #[.int .i64 s, .int .i64 a], .int .i64 0, .bool own] w R := by
  have HK := Lib.hid hk
  clear hk
  have HN := Lib.hid hn
  clear hn
  have hroot := (((((H.alloc (.cells #[.pointer (some ⟨h.t, 0, none⟩)] 23)).alloc (.cells #[.int .i64 s, .int .i64 a] 32)).alloc (.cells #[.int .i64 0] 3)).alloc (.cells #[.bool own] 4)).alloc (.cells #[.int .i64 0, .int .i64 0, .int .i64 0, .int .i64 0, .int .i64 0] 36)).c_root
  go_enter Try.func53, Try.ntmps53
  go_wp2_with fail
  go_loopg [10, 12] n (fun k v10 v12 wr => ∃ (i best : Int), v12 = .int .i64 i ∧ v10 = .int .i64 best ∧ Below w.heap.size w wr ∧ NearBox w.heap.size h.t s a own wr ∧ Near T (s, a) own k i best r)
  case atStart =>
    refine ⟨T.root, -1, rfl, rfl, ?_, ?_, HN.out⟩
    · (repeat (first | exact Below.refl _ _ | refine Below.setCell ?_ (by first | omega | (simp; done) | (simp; omega)) _ | refine Below.drew ?_ | refine Below.alloc ?_ (by first | omega | (simp; done) | (simp; omega)) _ | (refine Below.trans ?_ (Below.mono (by assumption) (by first | omega | (simp; done) | (simp; omega))))))
    · refine ⟨?_, ?_, ?_, ?_, ?_, ?_, ?_⟩
      · go_simp
      · go_simp
      · go_simp
      · go_simp
      · go_simp
      · have := heap_alloc_new ((((w.alloc (.cells #[.pointer (some ⟨h.t, 0, none⟩)] 23)).alloc (.cells #[.int .i64 s, .int .i64 a] 32)).alloc (.cells #[.int .i64 0] 3)).alloc (.cells #[.bool own] 4)) (.cells #[.int .i64 0, .int .i64 0, .int .i64 0, .int .i64 0, .int .i64 0] 36)
        simpa using this
      · simp
  case round =>
    clear HN hroot
    obtain ⟨i, best, rfl, rfl, hB, X, hn⟩ := hrel
    have H1 := H.below hB
    cases hn with
    | none =>
      have X' := Lib.hid X
      have x0 := X.c0
      clear X
      go_wp2_with (go_at_call 68; refine told_k H1 hr (fun W2 hb2 => ?_); have y5 := (X'.out.below hb2).c5; have z0 : W2.cell? ⟨w.heap.size + 4, 0, none⟩ = some (.int .i64 0) := (by simp [World.cell?, y5]); have z1 : W2.cell? ⟨w.heap.size + 4, 1, none⟩ = some (.int .i64 0) := (by simp [World.cell?, y5]); have z2 : W2.cell? ⟨w.heap.size + 4, 2, none⟩ = some (.int .i64 0) := (by simp [World.cell?, y5]); have z3 : W2.cell? ⟨w.heap.size + 4, 3, none⟩ = some (.int .i64 0) := (by simp [World.cell?, y5]); have z4 : W2.cell? ⟨w.heap.size + 4, 4, none⟩ = some (.int .i64 0) := (by simp [World.cell?, y5]); have zf : ∀ k, W2.frozen? ⟨w.heap.size + 4, k, none⟩ = false := fun k => (by simp [World.frozen?, y5]); clear y5)
      refine bodyPost_ret (v := .tuple #[.agg #[.int .i64 (toldS T r).1.ls, .int .i64 (toldS T r).1.la, .int .i64 (toldS T r).1.hs, .int .i64 (toldS T r).1.ha, .int .i64 (toldS T r).1.v], .bool (toldS T r).2]) ?_ rfl (HK.out _ ?_)
      · simp [results, Try.results53, go_sem, z0, z1, z2, z3, z4]
      · have hz := hB.size
        have hB2 := hB.trans (hb2.mono hB.size)
        (repeat (first | exact Below.refl _ _ | refine Below.setCell ?_ (by first | omega | (simp; done) | (simp; omega)) _ | refine Below.drew ?_ | refine Below.alloc ?_ (by first | omega | (simp; done) | (simp; omega)) _ | (refine Below.trans ?_ (Below.mono (by assumption) (by first | omega | (simp; done) | (simp; omega))))))
    | @fit n _ j _ _ hi hf hj rest =>
      have hni : (i != -1) = true := by have := hi.1; rw [bne_iff_ne]; omega
      have hFit := Lib.hid hf
      have HR := Lib.hid rest
      have HJ := Lib.hid hj
      clear rest hj hf
      have X' := Lib.hid X
      obtain ⟨x0, x1, x2, x3, x4, x5, x6⟩ := X
      go_wp2_with (go_at_call 67; refine near1_k H1 hi x0 x1 x2 x4 x3 (fun W2 hb2 => ?_); rw [hFit.out])
      have H2 := H1.below hb2
      have X2 := X'.out.below hb2
      have X2' := Lib.hid X2
      obtain ⟨y0, y1, y2, y3, y4, y5, y6⟩ := X2
      clear x0 x1 x2 x3 x4 x5 x6
      have hcc := Tree.c_r H2 hi
      rw [show (T.nd i).r = j from HJ.out] at hcc
      have HA : Hid (∀ n : Nat, Calls Try.prog 36 #[.pointer (some ⟨h.t, 0, none⟩), .int .i64 i] (W2.drewN n) fun e w' => e = .returned (.pointer (some ⟨h.g, i.toNat * 10, none⟩)) ∧ w' = W2.drewN n) :=
        Lib.hid (fun n => (at_calls (H2.drewN n) hi).mono fun e w' h => ⟨h.1, h.2.symm⟩)
      go_quiet ((go_at_call 36; exact Calls.quiet_of_same (HA.out _)))
      go_wp2
      go_roundg n
      case measure => omega
      case rel => exact ⟨_, _, rfl, rfl, (hB.trans (hb2.mono hB.size)).trans ((Fr.drewN (fun _ => False) W2 nq).below (Nat.le_trans hB.size hb2.size) (fun _ h => h.elim)), X2'.out.drewN nq, HR.out⟩
    | @miss n _ j _ _ hi hf hj rest =>
      have hni : (i != -1) = true := by have := hi.1; rw [bne_iff_ne]; omega
      have hFit := Lib.hid hf
      have HR := Lib.hid rest
      have HJ := Lib.hid hj
      clear rest hj hf
      have X' := Lib.hid X
      obtain ⟨x0, x1, x2, x3, x4, x5, x6⟩ := X
      go_wp2_with (go_at_call 67; refine near1_k H1 hi x0 x1 x2 x4 x3 (fun W2 hb2 => ?_); rw [hFit.out])
      have H2 := H1.below hb2
      have X2 := X'.out.below hb2
      have X2' := Lib.hid X2
      obtain ⟨y0, y1, y2, y3, y4, y5, y6⟩ := X2
      clear x0 x1 x2 x3 x4 x5 x6
      have hcc := Tree.c_l H2 hi
      rw [show (T.nd i).l = j from HJ.out] at hcc
      have HA : Hid (∀ n : Nat, Calls Try.prog 36 #[.pointer (some ⟨h.t, 0, none⟩), .int .i64 i] (W2.drewN n) fun e w' => e = .returned (.pointer (some ⟨h.g, i.toNat * 10, none⟩)) ∧ w' = W2.drewN n) :=
        Lib.hid (fun n => (at_calls (H2.drewN n) hi).mono fun e w' h => ⟨h.1, h.2.symm⟩)
      go_quiet ((go_at_call 36; exact Calls.quiet_of_same (HA.out _)))
      go_wp2
      go_roundg n
      case measure => omega
      case rel => exact ⟨_, _, rfl, rfl, (hB.trans (hb2.mono hB.size)).trans ((Fr.drewN (fun _ => False) W2 nq).below (Nat.le_trans hB.size hb2.size) (fun _ h => h.elim)), X2'.out.drewN nq, HR.out⟩

set_option maxHeartbeats 1000000 in
theorem Floor_k {s a r : Int} {n : Nat} (H : Tree w b h T) (hn : Near T (s, a) true n T.root (-1) r) (hr : r = -1 ∨ T.ok r)
    (hk : ∀ w', Below w.heap.size w w' → R (.returned (.tuple #[.agg #[.int .i64 (toldS T r).1.ls, .int .i64 (toldS T r).1.la, .int .i64 (toldS T r).1.hs, .int .i64 (toldS T r).1.ha, .int .i64 (toldS T r).1.v], .bool (toldS T r).2])) w') :
    Calls Try.prog 27 #[.pointer (some ⟨h.t, 0, none⟩), .agg #[.int .i64 s, .int .i64 a]] w R := by
  have HK := Lib.hid hk
  clear hk
  have H1 := (H.alloc (.cells #[.int .i64 s, .int .i64 a] 32)).alloc (.cells #[.int .i64 0, .int .i64 0, .int .i64 0, .int .i64 0, .int .i64 0] 36)
  go_enter Try.func27, Try.ntmps27
  go_wp2_with (go_at_call 53; refine near_k H1 hn hr (fun W2 hb => ?_); have y5 := hb.block (w.heap.size + 1) (by simp); rw [(by have := heap_alloc_new (w.alloc (.cells #[.int .i64 s, .int .i64 a] 32)) (.cells #[.int .i64 0, .int .i64 0, .int .i64 0, .int .i64 0, .int .i64 0] 36); simpa using this : ((w.alloc (.cells #[.int .i64 s, .int .i64 a] 32)).alloc (.cells #[.int .i64 0, .int .i64 0, .int .i64 0, .int .i64 0, .int .i64 0] 36)).heap[w.heap.size + 1]? = some (.cells #[.int .i64 0, .int .i64 0, .int .i64 0, .int .i64 0, .int .i64 0] 36 (0, 0)))] at y5; have z0 : W2.cell? ⟨w.heap.size + 1, 0, none⟩ = some (.int .i64 0) := (by simp [World.cell?, y5]); have z1 : W2.cell? ⟨w.heap.size + 1, 1, none⟩ = some (.int .i64 0) := (by simp [World.cell?, y5]); have z2 : W2.cell? ⟨w.heap.size + 1, 2, none⟩ = some (.int .i64 0) := (by simp [World.cell?, y5]); have z3 : W2.cell? ⟨w.heap.size + 1, 3, none⟩ = some (.int .i64 0) := (by simp [World.cell?, y5]); have z4 : W2.cell? ⟨w.heap.size + 1, 4, none⟩ = some (.int .i64 0) := (by simp [World.cell?, y5]); have zf : ∀ k, W2.frozen? ⟨w.heap.size + 1, k, none⟩ = false := fun k => (by simp [World.frozen?, y5]); clear y5)
  refine bodyPost_ret (v := .tuple #[.agg #[.int .i64 (toldS T r).1.ls, .int .i64 (toldS T r).1.la, .int .i64 (toldS T r).1.hs, .int .i64 (toldS T r).1.ha, .int .i64 (toldS T r).1.v], .bool (toldS T r).2]) ?_ rfl (HK.out _ ?_)
  · simp [results, Try.results27, go_sem, z0, z1, z2, z3, z4]
  · have hz := hb.size
    simp only [World.size_alloc] at hz
    (repeat (first | exact Below.refl _ _ | refine Below.setCell ?_ (by first | omega | (simp; done) | (simp; omega)) _ | refine Below.drew ?_ | refine Below.alloc ?_ (by first | omega | (simp; done) | (simp; omega)) _ | (refine Below.trans ?_ (Below.mono (by assumption) (by first | omega | (simp; done) | (simp; omega))))))
set_option maxHeartbeats 1000000 in
theorem Lower_k {s a r : Int} {n : Nat} (H : Tree w b h T) (hn : Near T (s, a) false n T.root (-1) r) (hr : r = -1 ∨ T.ok r)
    (hk : ∀ w', Below w.heap.size w w' → R (.returned (.tuple #[.agg #[.int .i64 (toldS T r).1.ls, .int .i64 (toldS T r).1.la, .int .i64 (toldS T r).1.hs, .int .i64 (toldS T r).1.ha, .int .i64 (toldS T r).1.v], .bool (toldS T r).2])) w') :
    Calls Try.prog 28 #[.pointer (some ⟨h.t, 0, none⟩), .agg #[.int .i64 s, .int .i64 a]] w R := by
  have HK := Lib.hid hk
  clear hk
  have H1 := (H.alloc (.cells #[.int .i64 s, .int .i64 a] 32)).alloc (.cells #[.int .i64 0, .int .i64 0, .int .i64 0, .int .i64 0, .int .i64 0] 36)
  go_enter Try.func28, Try.ntmps28
  go_wp2_with (go_at_call 53; refine near_k H1 hn hr (fun W2 hb => ?_); have y5 := hb.block (w.heap.size + 1) (by simp); rw [(by have := heap_alloc_new (w.alloc (.cells #[.int .i64 s, .int .i64 a] 32)) (.cells #[.int .i64 0, .int .i64 0, .int .i64 0, .int .i64 0, .int .i64 0] 36); simpa using this : ((w.alloc (.cells #[.int .i64 s, .int .i64 a] 32)).alloc (.cells #[.int .i64 0, .int .i64 0, .int .i64 0, .int .i64 0, .int .i64 0] 36)).heap[w.heap.size + 1]? = some (.cells #[.int .i64 0, .int .i64 0, .int .i64 0, .int .i64 0, .int .i64 0] 36 (0, 0)))] at y5; have z0 : W2.cell? ⟨w.heap.size + 1, 0, none⟩ = some (.int .i64 0) := (by simp [World.cell?, y5]); have z1 : W2.cell? ⟨w.heap.size + 1, 1, none⟩ = some (.int .i64 0) := (by simp [World.cell?, y5]); have z2 : W2.cell? ⟨w.heap.size + 1, 2, none⟩ = some (.int .i64 0) := (by simp [World.cell?, y5]); have z3 : W2.cell? ⟨w.heap.size + 1, 3, none⟩ = some (.int .i64 0) := (by simp [World.cell?, y5]); have z4 : W2.cell? ⟨w.heap.size + 1, 4, none⟩ = some (.int .i64 0) := (by simp [World.cell?, y5]); have zf : ∀ k, W2.frozen? ⟨w.heap.size + 1, k, none⟩ = false := fun k => (by simp [World.frozen?, y5]); clear y5)
  refine bodyPost_ret (v := .tuple #[.agg #[.int .i64 (toldS T r).1.ls, .int .i64 (toldS T r).1.la, .int .i64 (toldS T r).1.hs, .int .i64 (toldS T r).1.ha, .int .i64 (toldS T r).1.v], .bool (toldS T r).2]) ?_ rfl (HK.out _ ?_)
  · simp [results, Try.results28, go_sem, z0, z1, z2, z3, z4]
  · have hz := hb.size
    simp only [World.size_alloc] at hz
    (repeat (first | exact Below.refl _ _ | refine Below.setCell ?_ (by first | omega | (simp; done) | (simp; omega)) _ | refine Below.drew ?_ | refine Below.alloc ?_ (by first | omega | (simp; done) | (simp; omega)) _ | (refine Below.trans ?_ (Below.mono (by assumption) (by first | omega | (simp; done) | (simp; omega))))))
end
end Go.Proofs.Ytkajknicgabdkaa

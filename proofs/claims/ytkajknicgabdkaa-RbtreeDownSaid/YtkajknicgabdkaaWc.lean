/-
  Walk of the tree's Put.
-/
import Derived.Test.YtkajknicgabdkaaW4
import Derived.Test.YtkajknicgabdkaaW6
import Derived.Test.YtkajknicgabdkaaWb
import Derived.Deep.DeepCutAuto
namespace Go.Proofs.Ytkajknicgabdkaa
open Go.RowKit
attribute [local go_sem high] eqCut eqSpan eqSeg
section
variable {w : World} {b : Nat} {h : Han} {T : TS} {R : Ending → World → Prop}

/-- A key that may stand in a tree. -/
def goodK (c : K) : Bool := rightB c && !(c.1 == 1 && c.2 == 0)
theorem Put_bad {s : Seg} (H : Tree w b h T) (hc : goodK (s.ls, s.la) = false) (hk : ∀ w', Below w.heap.size w w' → R (.returned (.int .i64 1)) w') :
    Calls Try.prog 11 #[.pointer (some ⟨h.t, 0, none⟩), .agg #[.int .i64 s.ls, .int .i64 s.la, .int .i64 s.hs, .int .i64 s.ha, .int .i64 s.v]] w R := by
  by_cases hr : rightB (s.ls, s.la) = true
  · have hl : (s.ls == 1 && s.la == 0) = true := by simpa [goodK, hr] using hc
    clear hc
    have HK := Lib.hid hk
    clear hk
    have bx : (w.alloc (.cells #[.int .i64 s.ls, .int .i64 s.la, .int .i64 s.hs, .int .i64 s.ha, .int .i64 s.v] 36)).heap[w.heap.size]? = _ := heap_alloc_new _ _
    go_enter Try.func11, Try.ntmps11
    go_wp2_with fail
    refine wp_region_qb (by kernel_rfl) (by kernel_rfl) ?_
    repeat (first | (with_reducible refine wpQuiet_step (fun K hK => ?_); go_simp; first | (with_reducible refine hK _ ?_; clear hK K) | (apply Exists.intro; with_reducible refine ⟨fun W hW => ?_, hK _ ?_⟩; (first | (first | (go_at_call 33; refine Right_k _ _ (fun w1 hb => ⟨rfl, ?_⟩); exact bstep hW hb (by simp)) | (go_at_call 34; refine Last_k (fun w1 hb => ⟨rfl, ?_⟩); exact bstep hW hb (by simp))) | ((try obtain ⟨hc, hf⟩ := bcell hW); (try go_simp); first | done | exact ⟨rfl, rfl⟩ | rfl)); clear hK K)) | (with_reducible refine wpQ_skip (by with_unfolding_all rfl) ?_))
    refine wpQuiet_nil ?_
    intro w1 hb
    have b1 := (hb.block _ (by simp)).trans bx
    have hB1 : Below w.heap.size w w1 := ((Below.refl _ _).alloc (Nat.le_refl _) _).trans (hb.mono (by simp))
    clear hb bx
    go_wp2
    exact HK.out _ hB1
  · have hr : rightB (s.ls, s.la) = false := by simpa using hr
    clear hc
    have HK := Lib.hid hk
    clear hk
    have bx : (w.alloc (.cells #[.int .i64 s.ls, .int .i64 s.la, .int .i64 s.hs, .int .i64 s.ha, .int .i64 s.v] 36)).heap[w.heap.size]? = _ := heap_alloc_new _ _
    go_enter Try.func11, Try.ntmps11
    go_wp2_with fail
    refine wp_region_qb (by kernel_rfl) (by kernel_rfl) ?_
    repeat (first | (with_reducible refine wpQuiet_step (fun K hK => ?_); go_simp; first | (with_reducible refine hK _ ?_; clear hK K) | (apply Exists.intro; with_reducible refine ⟨fun W hW => ?_, hK _ ?_⟩; (first | (first | (go_at_call 33; refine Right_k _ _ (fun w1 hb => ⟨rfl, ?_⟩); exact bstep hW hb (by simp)) | (go_at_call 34; refine Last_k (fun w1 hb => ⟨rfl, ?_⟩); exact bstep hW hb (by simp))) | ((try obtain ⟨hc, hf⟩ := bcell hW); (try go_simp); first | done | exact ⟨rfl, rfl⟩ | rfl)); clear hK K)) | (with_reducible refine wpQ_skip (by with_unfolding_all rfl) ?_))
    refine wpQuiet_nil ?_
    intro w1 hb
    have b1 := (hb.block _ (by simp)).trans bx
    have hB1 : Below w.heap.size w w1 := ((Below.refl _ _).alloc (Nat.le_refl _) _).trans (hb.mono (by simp))
    clear hb bx
    go_wp2
    exact HK.out _ hB1

theorem good_parts {c : K} (hc : goodK c = true) : rightB c = true ∧ (c.1 == 1 && c.2 == 0) = false := by
  unfold goodK at hc
  rw [Bool.and_eq_true] at hc
  exact ⟨hc.1, by have := hc.2; revert this; cases (c.1 == 1 && c.2 == 0) <;> simp⟩
set_option maxHeartbeats 1000000 in
set_option maxRecDepth 100000 in
theorem Put_set {s : Seg} {n : Nat} {i p : Int} {d : Bool} (H : Tree w b h T) (hc : goodK (s.ls, s.la) = true) (hf : Find T (s.ls, s.la) n T.root (-1) false i p d) (hi : T.ok i)
    (hk : ∀ w', Tree w' b h (T.setSeg i s) → Out h h w w' → R (.returned (.int .i64 0)) w') :
    Calls Try.prog 11 #[.pointer (some ⟨h.t, 0, none⟩), .agg #[.int .i64 s.ls, .int .i64 s.la, .int .i64 s.hs, .int .i64 s.ha, .int .i64 s.v]] w R := by
  have hne : (i != -1) = true := by have := hi.1; rw [bne_iff_ne]; omega
  obtain ⟨hr, hl⟩ := good_parts hc
  clear hc
  have HK := Lib.hid hk
  clear hk
  have bx : (w.alloc (.cells #[.int .i64 s.ls, .int .i64 s.la, .int .i64 s.hs, .int .i64 s.ha, .int .i64 s.v] 36)).heap[w.heap.size]? = _ := heap_alloc_new _ _
  go_enter Try.func11, Try.ntmps11
  go_wp2_with fail
  refine wp_region_qb (by kernel_rfl) (by kernel_rfl) ?_
  repeat (first | (with_reducible refine wpQuiet_step (fun K hK => ?_); go_simp; first | (with_reducible refine hK _ ?_; clear hK K) | (apply Exists.intro; with_reducible refine ⟨fun W hW => ?_, hK _ ?_⟩; (first | (first | (go_at_call 33; refine Right_k _ _ (fun w1 hb => ⟨rfl, ?_⟩); exact bstep hW hb (by simp)) | (go_at_call 34; refine Last_k (fun w1 hb => ⟨rfl, ?_⟩); exact bstep hW hb (by simp))) | ((try obtain ⟨hc, hf⟩ := bcell hW); (try go_simp); first | done | exact ⟨rfl, rfl⟩ | rfl)); clear hK K)) | (with_reducible refine wpQ_skip (by with_unfolding_all rfl) ?_))
  refine wpQuiet_nil ?_
  intro w1 hb
  have b1 := (hb.block _ (by simp)).trans bx
  have hB1 : Below w.heap.size w w1 := ((Below.refl _ _).alloc (Nat.le_refl _) _).trans (hb.mono (by simp))
  clear hb bx
  have H1 := H.below hB1
  have e0 : w1.cell? ⟨w.heap.size, 0, none⟩ = some (.int .i64 s.ls) := by simp [World.cell?, b1]
  have e1 : w1.cell? ⟨w.heap.size, 1, none⟩ = some (.int .i64 s.la) := by simp [World.cell?, b1]
  have HFi := Lib.hid hf
  clear hf
  go_upto_region 4 with ((go_at_call 35; refine find_k H1 HFi.out (fun w2 hb2 => ?_); have b2 := (hb2.block _ (lt_of_heap b1)).trans b1; have HB2 := Lib.hid (bstep hB1 hb2 rfl); clear hb2))
  have H2 := H.below HB2.out
  clear e0 e1 HFi H1 b1 hB1
  have e0 : w2.cell? ⟨w.heap.size, 0, none⟩ = some (.int .i64 s.ls) := by simp [World.cell?, b2]
  have e1 : w2.cell? ⟨w.heap.size, 1, none⟩ = some (.int .i64 s.la) := by simp [World.cell?, b2]
  have e2 : w2.cell? ⟨w.heap.size, 2, none⟩ = some (.int .i64 s.hs) := by simp [World.cell?, b2]
  have e3 : w2.cell? ⟨w.heap.size, 3, none⟩ = some (.int .i64 s.ha) := by simp [World.cell?, b2]
  have e4 : w2.cell? ⟨w.heap.size, 4, none⟩ = some (.int .i64 s.v) := by simp [World.cell?, b2]
  obtain ⟨y0, y1, y2, y3, y4⟩ := H2.c_seg hi
  have yf := H2.f_g hi
  go_wp2_with fail
  have HA : Hid (∀ n : Nat, Calls Try.prog 36 #[.pointer (some ⟨h.t, 0, none⟩), .int .i64 i] (w2.drewN n) fun e w' => e = .returned (.pointer (some ⟨h.g, i.toNat * 10, none⟩)) ∧ w' = w2.drewN n) :=
    Lib.hid (fun n => (at_calls (H2.drewN n) hi).mono fun e w' h => ⟨h.1, h.2.symm⟩)
  have HS := Lib.hid (fun n => (H2.drewN n).st_seg hi s)
  refine wp_region_qt (fun w' => ∃ n, w' = World.drewN w2 n) 5 (by kernel_rfl) (by kernel_rfl) ⟨1, rfl⟩ ?_
  simp only [List.take_succ_cons, List.take_zero, List.drop_succ_cons, List.drop_zero]
  repeat (quiet_step ((go_at_call 36; exact Calls.quiet_of_same (HA.out _))))
  refine wpQuiet_nil ?_
  intro _ hw'
  obtain ⟨nq, hw''⟩ := hw'
  subst hw''
  go_wp2
  obtain ⟨H3, F3⟩ := HS.out nq
  exact HK.out _ H3 ((Out.below (HB2.out.trans ((Fr.drewN (fun _ => False) w2 nq).below HB2.out.size (fun _ h => h.elim)))).trans (Out.inn F3))
set_option maxHeartbeats 1000000 in
set_option maxRecDepth 100000 in
theorem Put_full {s : Seg} {n : Nat} {p : Int} {d : Bool} (H : Tree w b h T) (hc : goodK (s.ls, s.la) = true) (hf : Find T (s.ls, s.la) n T.root (-1) false (-1) p d)
    (hroom : T.room ≤ (T.ps.length : Int) - T.free.length) (hk : ∀ w', Below w.heap.size w w' → R (.returned (.int .i64 50)) w') :
    Calls Try.prog 11 #[.pointer (some ⟨h.t, 0, none⟩), .agg #[.int .i64 s.ls, .int .i64 s.la, .int .i64 s.hs, .int .i64 s.ha, .int .i64 s.v]] w R := by
  obtain ⟨hr, hl⟩ := good_parts hc
  clear hc
  have HK := Lib.hid hk
  clear hk
  have bx : (w.alloc (.cells #[.int .i64 s.ls, .int .i64 s.la, .int .i64 s.hs, .int .i64 s.ha, .int .i64 s.v] 36)).heap[w.heap.size]? = _ := heap_alloc_new _ _
  go_enter Try.func11, Try.ntmps11
  go_wp2_with fail
  refine wp_region_qb (by kernel_rfl) (by kernel_rfl) ?_
  repeat (first | (with_reducible refine wpQuiet_step (fun K hK => ?_); go_simp; first | (with_reducible refine hK _ ?_; clear hK K) | (apply Exists.intro; with_reducible refine ⟨fun W hW => ?_, hK _ ?_⟩; (first | (first | (go_at_call 33; refine Right_k _ _ (fun w1 hb => ⟨rfl, ?_⟩); exact bstep hW hb (by simp)) | (go_at_call 34; refine Last_k (fun w1 hb => ⟨rfl, ?_⟩); exact bstep hW hb (by simp))) | ((try obtain ⟨hc, hf⟩ := bcell hW); (try go_simp); first | done | exact ⟨rfl, rfl⟩ | rfl)); clear hK K)) | (with_reducible refine wpQ_skip (by with_unfolding_all rfl) ?_))
  refine wpQuiet_nil ?_
  intro w1 hb
  have b1 := (hb.block _ (by simp)).trans bx
  have hB1 : Below w.heap.size w w1 := ((Below.refl _ _).alloc (Nat.le_refl _) _).trans (hb.mono (by simp))
  clear hb bx
  have H1 := H.below hB1
  have e0 : w1.cell? ⟨w.heap.size, 0, none⟩ = some (.int .i64 s.ls) := by simp [World.cell?, b1]
  have e1 : w1.cell? ⟨w.heap.size, 1, none⟩ = some (.int .i64 s.la) := by simp [World.cell?, b1]
  have HFi := Lib.hid hf
  clear hf
  go_upto_region 4 with ((go_at_call 35; refine find_k H1 HFi.out (fun w2 hb2 => ?_); have b2 := (hb2.block _ (lt_of_heap b1)).trans b1; have HB2 := Lib.hid (bstep hB1 hb2 rfl); clear hb2))
  have H2 := H.below HB2.out
  clear e0 e1 HFi H1 b1 hB1
  have e0 : w2.cell? ⟨w.heap.size, 0, none⟩ = some (.int .i64 s.ls) := by simp [World.cell?, b2]
  have e1 : w2.cell? ⟨w.heap.size, 1, none⟩ = some (.int .i64 s.la) := by simp [World.cell?, b2]
  have e2 : w2.cell? ⟨w.heap.size, 2, none⟩ = some (.int .i64 s.hs) := by simp [World.cell?, b2]
  have e3 : w2.cell? ⟨w.heap.size, 3, none⟩ = some (.int .i64 s.ha) := by simp [World.cell?, b2]
  have e4 : w2.cell? ⟨w.heap.size, 4, none⟩ = some (.int .i64 s.v) := by simp [World.cell?, b2]
  have ca := H2.c_arena
  go_wp2_with fail
  go_region_with (go_at_call 37; refine APut_full ⟨s, -1, -1, p, true⟩ H2.drew hroom (fun w3 hb3 => ?_))
  all_goals go_wp2
  all_goals exact HK.out _ (HB2.out.trans ((Below.drew (Below.refl _ _)).trans hb3 |>.mono HB2.out.size))

inductive PutAt (T : TS) (n : Node) : Int → TS → Prop
  | app (hf : T.free = []) : PutAt T n T.ps.length { T with ps := T.ps ++ [⟨n, true⟩] }
  | reuse {fs : List Int} {i : Int} (hf : T.free = fs ++ [i]) (h0 : 0 ≤ i) (h1 : i < T.ps.length) : PutAt T n i { T with ps := T.ps.set i.toNat ⟨n, true⟩, free := fs }
theorem APut_k {n : Node} {i : Int} {T1 : TS} (H : Tree w b h T) (hp : PutAt T n i T1) (hroom : (T.ps.length : Int) - T.free.length < T.room)
    (hk : ∀ w' h', Tree w' b h' T1 → Out h h' w w' → R (.returned (.tuple #[.int .i64 i, .int .i64 0])) w') :
    Calls Try.prog 37 #[.pointer (some ⟨h.a, 0, none⟩), .agg #[.int .i64 n.s.ls, .int .i64 n.s.la, .int .i64 n.s.hs, .int .i64 n.s.ha, .int .i64 n.s.v, .int .i64 n.l, .int .i64 n.r, .int .i64 n.p, .bool n.red]] w R := by
  cases hp with
  | app hf => exact APut_app n H (by rw [hf] at hroom; simpa using hroom) hf hk
  | reuse hf h0 h1 => exact APut_reuse n H hroom hf h0 h1 hk
theorem rise_k {i : Int} {n t : Nat} {T' : TS} (H : Tree w b h T) (ht : h.t = t) (hr : Rise n T i T') (hk : ∀ w', Tree w' b h T' → Fr h.inn w w' → R (.returned (.tuple #[])) w') :
    Calls Try.prog 38 #[.pointer (some ⟨t, 0, none⟩), .int .i64 i] w R := by
  subst ht
  exact (rise_calls H hr).mono fun _ w' ⟨h1, h2, h3⟩ => by subst h1; exact hk w' h2 h3
set_option maxHeartbeats 2000000 in
set_option maxRecDepth 100000 in
theorem Put_new0 {s : Seg} {n m : Nat} {i : Int} {d : Bool} {T1 T' : TS} (H : Tree w b h T) (hc : goodK (s.ls, s.la) = true) (hf : Find T (s.ls, s.la) n T.root (-1) false (-1) (-1) d)
    (hroom : (T.ps.length : Int) - T.free.length < T.room) (hp : PutAt T ⟨s, -1, -1, -1, true⟩ i T1) (hr2 : Rise m { T1 with root := i } i T')
    (hk : ∀ w' h', Tree w' b h' T' → Out h h' w w' → R (.returned (.int .i64 0)) w') :
    Calls Try.prog 11 #[.pointer (some ⟨h.t, 0, none⟩), .agg #[.int .i64 s.ls, .int .i64 s.la, .int .i64 s.hs, .int .i64 s.ha, .int .i64 s.v]] w R := by
  have HRi := Lib.hid hr2
  clear hr2
  obtain ⟨hr, hl⟩ := good_parts hc
  clear hc
  have HK := Lib.hid hk
  clear hk
  have bx : (w.alloc (.cells #[.int .i64 s.ls, .int .i64 s.la, .int .i64 s.hs, .int .i64 s.ha, .int .i64 s.v] 36)).heap[w.heap.size]? = _ := heap_alloc_new _ _
  go_enter Try.func11, Try.ntmps11
  go_wp2_with fail
  refine wp_region_qb (by kernel_rfl) (by kernel_rfl) ?_
  repeat (first | (with_reducible refine wpQuiet_step (fun K hK => ?_); go_simp; first | (with_reducible refine hK _ ?_; clear hK K) | (apply Exists.intro; with_reducible refine ⟨fun W hW => ?_, hK _ ?_⟩; (first | (first | (go_at_call 33; refine Right_k _ _ (fun w1 hb => ⟨rfl, ?_⟩); exact bstep hW hb (by simp)) | (go_at_call 34; refine Last_k (fun w1 hb => ⟨rfl, ?_⟩); exact bstep hW hb (by simp))) | ((try obtain ⟨hc, hf⟩ := bcell hW); (try go_simp); first | done | exact ⟨rfl, rfl⟩ | rfl)); clear hK K)) | (with_reducible refine wpQ_skip (by with_unfolding_all rfl) ?_))
  refine wpQuiet_nil ?_
  intro w1 hb
  have b1 := (hb.block _ (by simp)).trans bx
  have hB1 : Below w.heap.size w w1 := ((Below.refl _ _).alloc (Nat.le_refl _) _).trans (hb.mono (by simp))
  clear hb bx
  have H1 := H.below hB1
  have e0 : w1.cell? ⟨w.heap.size, 0, none⟩ = some (.int .i64 s.ls) := by simp [World.cell?, b1]
  have e1 : w1.cell? ⟨w.heap.size, 1, none⟩ = some (.int .i64 s.la) := by simp [World.cell?, b1]
  have HFi := Lib.hid hf
  clear hf
  go_upto_region 4 with ((go_at_call 35; refine find_k H1 HFi.out (fun w2 hb2 => ?_); have b2 := (hb2.block _ (lt_of_heap b1)).trans b1; have HB2 := Lib.hid (bstep hB1 hb2 rfl); clear hb2))
  have H2 := H.below HB2.out
  clear e0 e1 HFi H1 b1 hB1
  have e0 : w2.cell? ⟨w.heap.size, 0, none⟩ = some (.int .i64 s.ls) := by simp [World.cell?, b2]
  have e1 : w2.cell? ⟨w.heap.size, 1, none⟩ = some (.int .i64 s.la) := by simp [World.cell?, b2]
  have e2 : w2.cell? ⟨w.heap.size, 2, none⟩ = some (.int .i64 s.hs) := by simp [World.cell?, b2]
  have e3 : w2.cell? ⟨w.heap.size, 3, none⟩ = some (.int .i64 s.ha) := by simp [World.cell?, b2]
  have e4 : w2.cell? ⟨w.heap.size, 4, none⟩ = some (.int .i64 s.v) := by simp [World.cell?, b2]
  have ca := H2.c_arena
  go_upto_region 7 with fail
  go_cut [8, 9] (fun v8 v9 wx => v8 = .int .i64 i ∧ v9 = .int .i64 0 ∧ ∃ h3, Tree wx b h3 T1 ∧ Out h h3 w wx)
  case first =>
    go_region_with (go_at_call 37; refine APut_k (n := ⟨s, -1, -1, -1, true⟩) H2.drew hp hroom (fun w3 h3 H3 O3 => ?_))
    all_goals (go_wp2_with fail; go_meet)
    all_goals exact ⟨rfl, rfl, h3, H3, (Out.below (HB2.out.trans ((Below.drew (Below.refl _ _)).mono HB2.out.size))).trans O3⟩
  case rest =>
  obtain ⟨rfl, rfl, h3, H3, O3⟩ := hcut
  have et := O3.t
  have HO3 := Lib.hid O3
  clear O3
  have c3 := H3.c_root
  have z3 := H3.f_t 1
  have H4 := H3.st_root i
  rw [et] at c3 z3 H4
  go_wp2_with (go_at_call 38; refine rise_k H4 et HRi.out (fun w5 H5 F5 => ?_))
  exact HK.out _ _ H5 (HO3.out.trans (Out.inn (Fr.trans (Fr.setCell _ _ _ (.inl et.symm)) F5)))

set_option maxHeartbeats 2000000 in
set_option maxRecDepth 100000 in
theorem Put_new_setL {s : Seg} {n m : Nat} {i p : Int} {T1 T' : TS} (H : Tree w b h T) (hc : goodK (s.ls, s.la) = true) (hf : Find T (s.ls, s.la) n T.root (-1) false (-1) p false)
    (hroom : (T.ps.length : Int) - T.free.length < T.room) (hp : PutAt T ⟨s, -1, -1, p, true⟩ i T1) (hp1 : T1.ok p) (hr2 : Rise m (T1.setL p i) i T')
    (hk : ∀ w' h', Tree w' b h' T' → Out h h' w w' → R (.returned (.int .i64 0)) w') :
    Calls Try.prog 11 #[.pointer (some ⟨h.t, 0, none⟩), .agg #[.int .i64 s.ls, .int .i64 s.la, .int .i64 s.hs, .int .i64 s.ha, .int .i64 s.v]] w R := by
  have HRi := Lib.hid hr2
  have hne : (p == -1) = false := by have := hp1.1; rw [beq_eq_false_iff_ne]; omega
  clear hr2
  obtain ⟨hr, hl⟩ := good_parts hc
  clear hc
  have HK := Lib.hid hk
  clear hk
  have bx : (w.alloc (.cells #[.int .i64 s.ls, .int .i64 s.la, .int .i64 s.hs, .int .i64 s.ha, .int .i64 s.v] 36)).heap[w.heap.size]? = _ := heap_alloc_new _ _
  go_enter Try.func11, Try.ntmps11
  go_wp2_with fail
  refine wp_region_qb (by kernel_rfl) (by kernel_rfl) ?_
  repeat (first | (with_reducible refine wpQuiet_step (fun K hK => ?_); go_simp; first | (with_reducible refine hK _ ?_; clear hK K) | (apply Exists.intro; with_reducible refine ⟨fun W hW => ?_, hK _ ?_⟩; (first | (first | (go_at_call 33; refine Right_k _ _ (fun w1 hb => ⟨rfl, ?_⟩); exact bstep hW hb (by simp)) | (go_at_call 34; refine Last_k (fun w1 hb => ⟨rfl, ?_⟩); exact bstep hW hb (by simp))) | ((try obtain ⟨hc, hf⟩ := bcell hW); (try go_simp); first | done | exact ⟨rfl, rfl⟩ | rfl)); clear hK K)) | (with_reducible refine wpQ_skip (by with_unfolding_all rfl) ?_))
  refine wpQuiet_nil ?_
  intro w1 hb
  have b1 := (hb.block _ (by simp)).trans bx
  have hB1 : Below w.heap.size w w1 := ((Below.refl _ _).alloc (Nat.le_refl _) _).trans (hb.mono (by simp))
  clear hb bx
  have H1 := H.below hB1
  have e0 : w1.cell? ⟨w.heap.size, 0, none⟩ = some (.int .i64 s.ls) := by simp [World.cell?, b1]
  have e1 : w1.cell? ⟨w.heap.size, 1, none⟩ = some (.int .i64 s.la) := by simp [World.cell?, b1]
  have HFi := Lib.hid hf
  clear hf
  go_upto_region 4 with ((go_at_call 35; refine find_k H1 HFi.out (fun w2 hb2 => ?_); have b2 := (hb2.block _ (lt_of_heap b1)).trans b1; have HB2 := Lib.hid (bstep hB1 hb2 rfl); clear hb2))
  have H2 := H.below HB2.out
  clear e0 e1 HFi H1 b1 hB1
  have e0 : w2.cell? ⟨w.heap.size, 0, none⟩ = some (.int .i64 s.ls) := by simp [World.cell?, b2]
  have e1 : w2.cell? ⟨w.heap.size, 1, none⟩ = some (.int .i64 s.la) := by simp [World.cell?, b2]
  have e2 : w2.cell? ⟨w.heap.size, 2, none⟩ = some (.int .i64 s.hs) := by simp [World.cell?, b2]
  have e3 : w2.cell? ⟨w.heap.size, 3, none⟩ = some (.int .i64 s.ha) := by simp [World.cell?, b2]
  have e4 : w2.cell? ⟨w.heap.size, 4, none⟩ = some (.int .i64 s.v) := by simp [World.cell?, b2]
  have ca := H2.c_arena
  go_upto_region 7 with fail
  go_cut [8, 9] (fun v8 v9 wx => v8 = .int .i64 i ∧ v9 = .int .i64 0 ∧ ∃ h3, Tree wx b h3 T1 ∧ Out h h3 w wx)
  case first =>
    go_region_with (go_at_call 37; refine APut_k (n := ⟨s, -1, -1, p, true⟩) H2.drew hp hroom (fun w3 h3 H3 O3 => ?_))
    all_goals (go_wp2_with fail; go_meet)
    all_goals exact ⟨rfl, rfl, h3, H3, (Out.below (HB2.out.trans ((Below.drew (Below.refl _ _)).mono HB2.out.size))).trans O3⟩
  case rest =>
  obtain ⟨rfl, rfl, h3, H3, O3⟩ := hcut
  have et := O3.t
  have HO3 := Lib.hid O3
  clear O3
  have c3 := H3.c_l hp1
  have z3 := H3.f_g hp1
  have H4 := H3.st_l hp1 i
  have F4 := H3.st_fr hp1 (p.toNat * 10 + 5) (.int .i64 i)
  rw [show sideI false = 0 from rfl]
  go_wp2_with (first | (go_at_call 36; rw [← et]; refine at_k H3 hp1 ?_) | (go_at_call 38; refine rise_k H4 et HRi.out (fun w5 H5 F5 => ?_)))
  exact HK.out _ _ H5 (HO3.out.trans (Out.inn (F4.trans F5)))
set_option maxHeartbeats 2000000 in
set_option maxRecDepth 100000 in
theorem Put_new_setR {s : Seg} {n m : Nat} {i p : Int} {T1 T' : TS} (H : Tree w b h T) (hc : goodK (s.ls, s.la) = true) (hf : Find T (s.ls, s.la) n T.root (-1) false (-1) p true)
    (hroom : (T.ps.length : Int) - T.free.length < T.room) (hp : PutAt T ⟨s, -1, -1, p, true⟩ i T1) (hp1 : T1.ok p) (hr2 : Rise m (T1.setR p i) i T')
    (hk : ∀ w' h', Tree w' b h' T' → Out h h' w w' → R (.returned (.int .i64 0)) w') :
    Calls Try.prog 11 #[.pointer (some ⟨h.t, 0, none⟩), .agg #[.int .i64 s.ls, .int .i64 s.la, .int .i64 s.hs, .int .i64 s.ha, .int .i64 s.v]] w R := by
  have HRi := Lib.hid hr2
  have hne : (p == -1) = false := by have := hp1.1; rw [beq_eq_false_iff_ne]; omega
  clear hr2
  obtain ⟨hr, hl⟩ := good_parts hc
  clear hc
  have HK := Lib.hid hk
  clear hk
  have bx : (w.alloc (.cells #[.int .i64 s.ls, .int .i64 s.la, .int .i64 s.hs, .int .i64 s.ha, .int .i64 s.v] 36)).heap[w.heap.size]? = _ := heap_alloc_new _ _
  go_enter Try.func11, Try.ntmps11
  go_wp2_with fail
  refine wp_region_qb (by kernel_rfl) (by kernel_rfl) ?_
  repeat (first | (with_reducible refine wpQuiet_step (fun K hK => ?_); go_simp; first | (with_reducible refine hK _ ?_; clear hK K) | (apply Exists.intro; with_reducible refine ⟨fun W hW => ?_, hK _ ?_⟩; (first | (first | (go_at_call 33; refine Right_k _ _ (fun w1 hb => ⟨rfl, ?_⟩); exact bstep hW hb (by simp)) | (go_at_call 34; refine Last_k (fun w1 hb => ⟨rfl, ?_⟩); exact bstep hW hb (by simp))) | ((try obtain ⟨hc, hf⟩ := bcell hW); (try go_simp); first | done | exact ⟨rfl, rfl⟩ | rfl)); clear hK K)) | (with_reducible refine wpQ_skip (by with_unfolding_all rfl) ?_))
  refine wpQuiet_nil ?_
  intro w1 hb
  have b1 := (hb.block _ (by simp)).trans bx
  have hB1 : Below w.heap.size w w1 := ((Below.refl _ _).alloc (Nat.le_refl _) _).trans (hb.mono (by simp))
  clear hb bx
  have H1 := H.below hB1
  have e0 : w1.cell? ⟨w.heap.size, 0, none⟩ = some (.int .i64 s.ls) := by simp [World.cell?, b1]
  have e1 : w1.cell? ⟨w.heap.size, 1, none⟩ = some (.int .i64 s.la) := by simp [World.cell?, b1]
  have HFi := Lib.hid hf
  clear hf
  go_upto_region 4 with ((go_at_call 35; refine find_k H1 HFi.out (fun w2 hb2 => ?_); have b2 := (hb2.block _ (lt_of_heap b1)).trans b1; have HB2 := Lib.hid (bstep hB1 hb2 rfl); clear hb2))
  have H2 := H.below HB2.out
  clear e0 e1 HFi H1 b1 hB1
  have e0 : w2.cell? ⟨w.heap.size, 0, none⟩ = some (.int .i64 s.ls) := by simp [World.cell?, b2]
  have e1 : w2.cell? ⟨w.heap.size, 1, none⟩ = some (.int .i64 s.la) := by simp [World.cell?, b2]
  have e2 : w2.cell? ⟨w.heap.size, 2, none⟩ = some (.int .i64 s.hs) := by simp [World.cell?, b2]
  have e3 : w2.cell? ⟨w.heap.size, 3, none⟩ = some (.int .i64 s.ha) := by simp [World.cell?, b2]
  have e4 : w2.cell? ⟨w.heap.size, 4, none⟩ = some (.int .i64 s.v) := by simp [World.cell?, b2]
  have ca := H2.c_arena
  go_upto_region 7 with fail
  go_cut [8, 9] (fun v8 v9 wx => v8 = .int .i64 i ∧ v9 = .int .i64 0 ∧ ∃ h3, Tree wx b h3 T1 ∧ Out h h3 w wx)
  case first =>
    go_region_with (go_at_call 37; refine APut_k (n := ⟨s, -1, -1, p, true⟩) H2.drew hp hroom (fun w3 h3 H3 O3 => ?_))
    all_goals (go_wp2_with fail; go_meet)
    all_goals exact ⟨rfl, rfl, h3, H3, (Out.below (HB2.out.trans ((Below.drew (Below.refl _ _)).mono HB2.out.size))).trans O3⟩
  case rest =>
  obtain ⟨rfl, rfl, h3, H3, O3⟩ := hcut
  have et := O3.t
  have HO3 := Lib.hid O3
  clear O3
  have c3 := H3.c_r hp1
  have z3 := H3.f_g hp1
  have H4 := H3.st_r hp1 i
  have F4 := H3.st_fr hp1 (p.toNat * 10 + 6) (.int .i64 i)
  rw [show sideI true = 1 from rfl]
  go_wp2_with (first | (go_at_call 36; rw [← et]; refine at_k H3 hp1 ?_) | (go_at_call 38; refine rise_k H4 et HRi.out (fun w5 H5 F5 => ?_)))
  exact HK.out _ _ H5 (HO3.out.trans (Out.inn (F4.trans F5)))
end
end Go.Proofs.Ytkajknicgabdkaa

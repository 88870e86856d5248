/-
  Walks of hang and rotate.
-/
import Derived.Test.YtkajknicgabdkaaW1
import Derived.Test.YtkajknicgabdkaaQt
namespace Go.Proofs.Ytkajknicgabdkaa
open Go.RowKit
section
variable {w : World} {b : Nat} {h : Han} {T : TS}

def hangT (T : TS) (i p old : Int) : TS :=
  let T1 := if p = -1 then { T with root := i } else T.setK p (sideT T old p) i
  if i = -1 then T1 else T1.setP i p
theorem ok_root {T : TS} {i j : Int} : TS.ok { T with root := j } i ↔ T.ok i := Iff.rfl
theorem ok_setK {T : TS} {p j i : Int} {x : Bool} (hp : T.ok p) : (T.setK p x j).ok i ↔ T.ok i := by
  cases x
  · exact TS.ok_upd (f := fun n => { n with l := j }) hp
  · exact TS.ok_upd (f := fun n => { n with r := j }) hp

theorem Tree.st_k {w : World} {b : Nat} {h : Han} {T : TS} {i : Int} (H : Tree w b h T) (hi : T.ok i) (x : Bool) (j : Int) :
    Tree (w.setCell ⟨h.g, i.toNat * 10 + 5 + (sideI x).toNat, none⟩ (.int .i64 j)) b h (T.setK i x j) := by
  cases x
  · exact H.st_l hi j
  · exact H.st_r hi j

set_option maxHeartbeats 800000 in
theorem hang_calls {i p old : Int} (H : Tree w b h T) (hi : i = -1 ∨ T.ok i) (hp : p = -1 ∨ T.ok p) :
    Calls Try.prog 41 #[.pointer (some ⟨h.t, 0, none⟩), .int .i64 i, .int .i64 p, .int .i64 old] w
      fun e w' => e = .returned (.tuple #[]) ∧ Tree w' b h (hangT T i p old) ∧ Fr h.inn w w' := by
  rcases hp with rfl | hp
  · have hfz := H.f_t 1
    have hr := H.c_root
    have H1 := H.st_root i
    have F1 := Tree.st_root_fr h w i
    rcases hi with rfl | hi
    · go_enter Try.func41, Try.ntmps41
      go_wp2
      go_end0
      exact ⟨rfl, by simpa [hangT] using H1, F1⟩
    · have hn : (i != -1) = true := by have := hi.1; rw [bne_iff_ne]; omega
      have hi1 : TS.ok { T with root := i } i := hi
      have hc1 := H1.c_p hi1
      have hz1 := H1.f_g hi1 (i.toNat * 10 + 7)
      have H2 := H1.st_p hi1 (-1)
      have F2 := F1.trans (H1.st_fr hi1 (i.toNat * 10 + 7) (.int .i64 (-1)))
      have hT : hangT T i (-1) old = TS.setP { T with root := i } i (-1) := by
        have : i ≠ -1 := by have := hi.1; omega
        simp [hangT, this]
      rw [hT]
      clear hT
      go_enter Try.func41, Try.ntmps41
      go_wp2_with (go_at_call 36; refine (at_calls H1 hi1).mono ?_; rintro e w' ⟨rfl, rfl⟩)
      go_end0
      exact ⟨rfl, H2, F2⟩
  · have hpn : (p == -1) = false := by have := hp.1; rw [beq_eq_false_iff_ne]; omega
    have hp0 := hp.1
    have hpm : p ≠ -1 := by omega
    generalize hx : sideT T old p = x
    have hT : hangT T i p old = if i = -1 then T.setK p x i else (T.setK p x i).setP i p := by simp [hangT, hpm, hx]
    rw [hT]
    clear hT
    have hat : ∀ n : Nat, Calls Try.prog 36 #[.pointer (some ⟨h.t, 0, none⟩), .int .i64 p] (w.drewN n) fun e w' => e = .returned (.pointer (some ⟨h.g, p.toNat * 10, none⟩)) ∧ w' = w.drewN n :=
      fun n => (at_calls (H.drewN n) hp).mono fun e w' h => ⟨h.1, h.2.symm⟩
    have HA := Lib.hid hat
    clear hat
    cases x
    · have hcl := Tree.c_l H hp
      have hzp := H.f_g hp (p.toNat * 10 + 5)
      have hside : ∀ n : Nat, Calls Try.prog 57 #[.pointer (some ⟨h.t, 0, none⟩), .int .i64 old, .int .i64 p] (w.drewN n) fun e w' => e = .returned (.int .i64 0) ∧ w' = w.drewN n :=
        fun n => (side_calls (H.drewN n) hp (by rw [hx]; rfl)).mono fun e w' h => ⟨h.1, h.2.symm⟩
      have HS := Lib.hid hside
      clear hside hx
      have H1 : ∀ n : Nat, Tree ((w.drewN n).setCell ⟨h.g, p.toNat * 10 + 5, none⟩ (.int .i64 i)) b h (T.setK p false i) := fun n => (H.drewN n).st_k hp false i
      have F1 : ∀ n : Nat, Fr h.inn w ((w.drewN n).setCell ⟨h.g, p.toNat * 10 + 5, none⟩ (.int .i64 i)) := fun n => (Fr.drewN _ w n).trans ((H.drewN n).st_fr hp _ _)
      rcases hi with rfl | hi
      · rw [if_pos rfl]
        go_enter Try.func41, Try.ntmps41
        go_wp2_with fail
        refine wp_region_qt (fun w' => ∃ n, w' = w.drewN n) 11 (by kernel_rfl) (by kernel_rfl) ⟨1, rfl⟩ ?_
        simp only [List.take_succ_cons, List.take_zero, List.drop_succ_cons, List.drop_zero]
        repeat (quiet_step (first | (go_at_call 36; exact Calls.quiet_of_same (HA.out _)) | (go_at_call 57; exact Calls.quiet_of_same (HS.out _))))
        refine wpQuiet_nil ?_
        intro _ hw'
        obtain ⟨nq, hw''⟩ := hw'
        subst hw''
        go_wp2
        go_end0
        exact ⟨rfl, H1 _, F1 _⟩
      · have hn : (i != -1) = true := by have := hi.1; rw [bne_iff_ne]; omega
        have hne : i ≠ -1 := by have := hi.1; omega
        rw [if_neg hne]
        have hi1 : (T.setK p false i).ok i := (ok_setK hp).2 hi
        have H2 := fun n => (H1 n).st_p hi1 p
        have F2 := fun n => (F1 n).trans ((H1 n).st_fr hi1 (i.toNat * 10 + 7) (.int .i64 p))
        clear hne hi
        go_enter Try.func41, Try.ntmps41
        go_wp2_with fail
        refine wp_region_qt (fun w' => ∃ n, w' = w.drewN n) 11 (by kernel_rfl) (by kernel_rfl) ⟨1, rfl⟩ ?_
        simp only [List.take_succ_cons, List.take_zero, List.drop_succ_cons, List.drop_zero]
        repeat (quiet_step (first | (go_at_call 36; exact Calls.quiet_of_same (HA.out _)) | (go_at_call 57; exact Calls.quiet_of_same (HS.out _))))
        refine wpQuiet_nil ?_
        intro _ hw'
        obtain ⟨nq, hw''⟩ := hw'
        subst hw''
        have hc1 := (H1 nq).c_p hi1
        have hz1 := (H1 nq).f_g hi1 (i.toNat * 10 + 7)
        go_wp2_with (go_at_call 36; refine (at_calls (H1 nq) hi1).mono ?_; rintro e w' ⟨rfl, rfl⟩)
        go_end0
        exact ⟨rfl, H2 _, F2 _⟩
    · have hcl := Tree.c_r H hp
      have hzp := H.f_g hp (p.toNat * 10 + 6)
      have hside : ∀ n : Nat, Calls Try.prog 57 #[.pointer (some ⟨h.t, 0, none⟩), .int .i64 old, .int .i64 p] (w.drewN n) fun e w' => e = .returned (.int .i64 1) ∧ w' = w.drewN n :=
        fun n => (side_calls (H.drewN n) hp (by rw [hx]; rfl)).mono fun e w' h => ⟨h.1, h.2.symm⟩
      have HS := Lib.hid hside
      clear hside hx
      have H1 : ∀ n : Nat, Tree ((w.drewN n).setCell ⟨h.g, p.toNat * 10 + 6, none⟩ (.int .i64 i)) b h (T.setK p true i) := fun n => (H.drewN n).st_k hp true i
      have F1 : ∀ n : Nat, Fr h.inn w ((w.drewN n).setCell ⟨h.g, p.toNat * 10 + 6, none⟩ (.int .i64 i)) := fun n => (Fr.drewN _ w n).trans ((H.drewN n).st_fr hp _ _)
      rcases hi with rfl | hi
      · rw [if_pos rfl]
        go_enter Try.func41, Try.ntmps41
        go_wp2_with fail
        refine wp_region_qt (fun w' => ∃ n, w' = w.drewN n) 11 (by kernel_rfl) (by kernel_rfl) ⟨1, rfl⟩ ?_
        simp only [List.take_succ_cons, List.take_zero, List.drop_succ_cons, List.drop_zero]
        repeat (quiet_step (first | (go_at_call 36; exact Calls.quiet_of_same (HA.out _)) | (go_at_call 57; exact Calls.quiet_of_same (HS.out _))))
        refine wpQuiet_nil ?_
        intro _ hw'
        obtain ⟨nq, hw''⟩ := hw'
        subst hw''
        go_wp2
        go_end0
        exact ⟨rfl, H1 _, F1 _⟩
      · have hn : (i != -1) = true := by have := hi.1; rw [bne_iff_ne]; omega
        have hne : i ≠ -1 := by have := hi.1; omega
        rw [if_neg hne]
        have hi1 : (T.setK p true i).ok i := (ok_setK hp).2 hi
        have H2 := fun n => (H1 n).st_p hi1 p
        have F2 := fun n => (F1 n).trans ((H1 n).st_fr hi1 (i.toNat * 10 + 7) (.int .i64 p))
        clear hne hi
        go_enter Try.func41, Try.ntmps41
        go_wp2_with fail
        refine wp_region_qt (fun w' => ∃ n, w' = w.drewN n) 11 (by kernel_rfl) (by kernel_rfl) ⟨1, rfl⟩ ?_
        simp only [List.take_succ_cons, List.take_zero, List.drop_succ_cons, List.drop_zero]
        repeat (quiet_step (first | (go_at_call 36; exact Calls.quiet_of_same (HA.out _)) | (go_at_call 57; exact Calls.quiet_of_same (HS.out _))))
        refine wpQuiet_nil ?_
        intro _ hw'
        obtain ⟨nq, hw''⟩ := hw'
        subst hw''
        have hc1 := (H1 nq).c_p hi1
        have hz1 := (H1 nq).f_g hi1 (i.toNat * 10 + 7)
        go_wp2_with (go_at_call 36; refine (at_calls (H1 nq) hi1).mono ?_; rintro e w' ⟨rfl, rfl⟩)
        go_end0
        exact ⟨rfl, H2 _, F2 _⟩
end
end Go.Proofs.Ytkajknicgabdkaa

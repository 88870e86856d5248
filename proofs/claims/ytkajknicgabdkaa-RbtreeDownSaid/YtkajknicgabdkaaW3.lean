/-
  Walk of rotate.
-/
import Derived.Test.YtkajknicgabdkaaW2
namespace Go.Proofs.Ytkajknicgabdkaa
open Go.RowKit
section
variable {w : World} {b : Nat} {h : Han} {T : TS}

theorem at_k {i : Int} {R : Ending → World → Prop} (H : Tree w b h T) (hi : T.ok i) (hk : R (.returned (.pointer (some ⟨h.g, i.toNat * 10, none⟩))) w) :
    Calls Try.prog 36 #[.pointer (some ⟨h.t, 0, none⟩), .int .i64 i] w R :=
  (at_calls H hi).mono fun _ _ ⟨h1, h2⟩ => by subst h1; subst h2; exact hk
theorem hang_k {i p old : Int} {R : Ending → World → Prop} (H : Tree w b h T) (hi : i = -1 ∨ T.ok i) (hp : p = -1 ∨ T.ok p)
    (hk : ∀ w', Tree w' b h (hangT T i p old) → Fr h.inn w w' → R (.returned (.tuple #[])) w') :
    Calls Try.prog 41 #[.pointer (some ⟨h.t, 0, none⟩), .int .i64 i, .int .i64 p, .int .i64 old] w R :=
  (hang_calls H hi hp).mono fun _ w' ⟨h1, h2, h3⟩ => by subst h1; exact hk w' h2 h3

theorem ok_setP {T : TS} {p j i : Int} (hp : T.ok p) : (T.setP p j).ok i ↔ T.ok i := TS.ok_upd hp
theorem ok_setRed {T : TS} {p i : Int} {x : Bool} (hp : T.ok p) : (T.setRed p x).ok i ↔ T.ok i := TS.ok_upd hp
theorem ok_hang {T : TS} {i p old j : Int} (hi : i = -1 ∨ T.ok i) (hp : p = -1 ∨ T.ok p) : (hangT T i p old).ok j ↔ T.ok j := by
  unfold hangT
  have h1 : ∀ j, (if p = -1 then { T with root := i } else T.setK p (sideT T old p) i : TS).ok j ↔ T.ok j := by
    intro j
    rcases hp with rfl | hp
    · rfl
    · have : p ≠ -1 := by have := hp.1; omega
      rw [if_neg this]; exact ok_setK hp
  rcases hi with rfl | hi
  · rw [if_pos rfl]; exact h1 j
  · have : i ≠ -1 := by have := hi.1; omega
    rw [if_neg this]
    exact (ok_setP ((h1 i).2 hi)).trans (h1 j)

def rotateT (T : TS) (i : Int) (s : Bool) : TS :=
  let up := T.kid i (!s)
  let inner := T.kid up s
  let T4 := (((hangT T up (T.nd i).p i).setK up s i).setP i up).setK i (!s) inner
  if inner = -1 then T4 else T4.setP inner i

set_option maxHeartbeats 1000000 in
theorem rotate_calls0 {i up inner pp : Int} (H : Tree w b h T) (hi : T.ok i) (hup : (T.nd i).r = up) (hinn : (T.nd up).l = inner) (hpp : (T.nd i).p = pp) (hp : pp = -1 ∨ T.ok pp) (hu : T.ok up) (hn : inner = -1 ∨ T.ok inner) :
    Calls Try.prog 58 #[.pointer (some ⟨h.t, 0, none⟩), .int .i64 i, .int .i64 0] w
      fun e w' => e = .returned (.tuple #[]) ∧ Tree w' b h (rotateT T i false) ∧ Fr h.inn w w' := by
  have hcu := Tree.c_r H hi
  have hcp := H.c_p hi
  have hci := Tree.c_l H hu
  have hup' : (T.kid i true) = up := hup
  have hinn' : (T.kid up false) = inner := hinn
  have hi1 := (ok_hang (old := i) (.inr hu) hp).2 hi
  have hu1 := (ok_hang (old := i) (.inr hu) hp).2 hu
  have hi2 := (ok_setK (x := false) (j := i) hu1).2 hi1
  have hi3 := (ok_setP (j := up) hi2).2 hi2
  have hn4 : ∀ j, T.ok j → TS.ok _ j := fun j hj => (ok_setK (x := true) (j := inner) hi3).2 ((ok_setP hi2).2 ((ok_setK hu1).2 ((ok_hang (old := i) (.inr hu) hp).2 hj)))
  rw [hup] at hcu
  rw [hinn] at hci
  rw [hpp] at hcp
  clear hup hinn
  by_cases hin : inner = -1
  · have hin' : (inner != -1) = false := by rw [hin]; rfl
    have hT : rotateT T i false = (((hangT T up pp i).setK up false i).setP i up).setK i true inner := by subst hup'; subst hinn'; subst hpp; simp [rotateT, hin]
    rw [hT]
    clear hT hin hn hn4 hup' hinn' hpp
    go_enter Try.func58, Try.ntmps58
    go_wp2_with (go_at_call 36; refine at_k (by assumption) (by assumption) ?_)
    refine hang_k H (.inr hu) hp (fun w1 H1 F1 => ?_)
    have hz1 := H1.f_g hu1 (up.toNat * 10 + 5)
    have hc1 := Tree.c_l H1 hu1
    have H2 : Tree (w1.setCell ⟨h.g, up.toNat * 10 + 5, none⟩ (.int .i64 i)) b h (TS.setK _ up false i) := H1.st_k hu1 false i
    have F2 := F1.trans (H1.st_fr hu1 (up.toNat * 10 + 5) (.int .i64 i))
    have hz2 := H2.f_g hi2 (i.toNat * 10 + 7)
    have hc2 := H2.c_p hi2
    have H3 := H2.st_p hi2 up
    have F3 := F2.trans (H2.st_fr hi2 (i.toNat * 10 + 7) (.int .i64 up))
    have hz3 := H3.f_g hi3 (i.toNat * 10 + 6)
    have hc3 := Tree.c_r H3 hi3
    have H4 : Tree (World.setCell _ ⟨h.g, i.toNat * 10 + 6, none⟩ (.int .i64 inner)) b h (TS.setK _ i true inner) := H3.st_k hi3 true inner
    have F4 := F3.trans (H3.st_fr hi3 (i.toNat * 10 + 6) (.int .i64 inner))
    go_wp2_with (go_at_call 36; refine at_k (by assumption) (by assumption) ?_)
    go_end0
    exact ⟨rfl, H4, F4⟩
  · have hin' : (inner != -1) = true := bne_iff_ne.2 hin
    have hno := hn4 _ (hn.resolve_left hin)
    have hT : rotateT T i false = ((((hangT T up pp i).setK up false i).setP i up).setK i true inner).setP inner i := by subst hup'; subst hinn'; subst hpp; simp [rotateT, hin]
    rw [hT]
    clear hT hin hn hn4 hup' hinn' hpp
    go_enter Try.func58, Try.ntmps58
    go_wp2_with (go_at_call 36; refine at_k (by assumption) (by assumption) ?_)
    refine hang_k H (.inr hu) hp (fun w1 H1 F1 => ?_)
    have hz1 := H1.f_g hu1 (up.toNat * 10 + 5)
    have hc1 := Tree.c_l H1 hu1
    have H2 : Tree (w1.setCell ⟨h.g, up.toNat * 10 + 5, none⟩ (.int .i64 i)) b h (TS.setK _ up false i) := H1.st_k hu1 false i
    have F2 := F1.trans (H1.st_fr hu1 (up.toNat * 10 + 5) (.int .i64 i))
    have hz2 := H2.f_g hi2 (i.toNat * 10 + 7)
    have hc2 := H2.c_p hi2
    have H3 := H2.st_p hi2 up
    have F3 := F2.trans (H2.st_fr hi2 (i.toNat * 10 + 7) (.int .i64 up))
    have hz3 := H3.f_g hi3 (i.toNat * 10 + 6)
    have hc3 := Tree.c_r H3 hi3
    have H4 : Tree (World.setCell _ ⟨h.g, i.toNat * 10 + 6, none⟩ (.int .i64 inner)) b h (TS.setK _ i true inner) := H3.st_k hi3 true inner
    have F4 := F3.trans (H3.st_fr hi3 (i.toNat * 10 + 6) (.int .i64 inner))
    have hz4 := H4.f_g hno (inner.toNat * 10 + 7)
    have hc4 := H4.c_p hno
    go_wp2_with (go_at_call 36; refine at_k (by assumption) (by assumption) ?_)
    go_end0
    exact ⟨rfl, H4.st_p hno i, F4.trans (H4.st_fr hno _ _)⟩
set_option maxHeartbeats 1000000 in
theorem rotate_calls1 {i up inner pp : Int} (H : Tree w b h T) (hi : T.ok i) (hup : (T.nd i).l = up) (hinn : (T.nd up).r = inner) (hpp : (T.nd i).p = pp) (hp : pp = -1 ∨ T.ok pp) (hu : T.ok up) (hn : inner = -1 ∨ T.ok inner) :
    Calls Try.prog 58 #[.pointer (some ⟨h.t, 0, none⟩), .int .i64 i, .int .i64 1] w
      fun e w' => e = .returned (.tuple #[]) ∧ Tree w' b h (rotateT T i true) ∧ Fr h.inn w w' := by
  have hcu := Tree.c_l H hi
  have hcp := H.c_p hi
  have hci := Tree.c_r H hu
  have hup' : (T.kid i false) = up := hup
  have hinn' : (T.kid up true) = inner := hinn
  have hi1 := (ok_hang (old := i) (.inr hu) hp).2 hi
  have hu1 := (ok_hang (old := i) (.inr hu) hp).2 hu
  have hi2 := (ok_setK (x := true) (j := i) hu1).2 hi1
  have hi3 := (ok_setP (j := up) hi2).2 hi2
  have hn4 : ∀ j, T.ok j → TS.ok _ j := fun j hj => (ok_setK (x := false) (j := inner) hi3).2 ((ok_setP hi2).2 ((ok_setK hu1).2 ((ok_hang (old := i) (.inr hu) hp).2 hj)))
  rw [hup] at hcu
  rw [hinn] at hci
  rw [hpp] at hcp
  clear hup hinn
  by_cases hin : inner = -1
  · have hin' : (inner != -1) = false := by rw [hin]; rfl
    have hT : rotateT T i true = (((hangT T up pp i).setK up true i).setP i up).setK i false inner := by subst hup'; subst hinn'; subst hpp; simp [rotateT, hin]
    rw [hT]
    clear hT hin hn hn4 hup' hinn' hpp
    go_enter Try.func58, Try.ntmps58
    go_wp2_with (go_at_call 36; refine at_k (by assumption) (by assumption) ?_)
    refine hang_k H (.inr hu) hp (fun w1 H1 F1 => ?_)
    have hz1 := H1.f_g hu1 (up.toNat * 10 + 6)
    have hc1 := Tree.c_r H1 hu1
    have H2 : Tree (w1.setCell ⟨h.g, up.toNat * 10 + 6, none⟩ (.int .i64 i)) b h (TS.setK _ up true i) := H1.st_k hu1 true i
    have F2 := F1.trans (H1.st_fr hu1 (up.toNat * 10 + 6) (.int .i64 i))
    have hz2 := H2.f_g hi2 (i.toNat * 10 + 7)
    have hc2 := H2.c_p hi2
    have H3 := H2.st_p hi2 up
    have F3 := F2.trans (H2.st_fr hi2 (i.toNat * 10 + 7) (.int .i64 up))
    have hz3 := H3.f_g hi3 (i.toNat * 10 + 5)
    have hc3 := Tree.c_l H3 hi3
    have H4 : Tree (World.setCell _ ⟨h.g, i.toNat * 10 + 5, none⟩ (.int .i64 inner)) b h (TS.setK _ i false inner) := H3.st_k hi3 false inner
    have F4 := F3.trans (H3.st_fr hi3 (i.toNat * 10 + 5) (.int .i64 inner))
    go_wp2_with (go_at_call 36; refine at_k (by assumption) (by assumption) ?_)
    go_end0
    exact ⟨rfl, H4, F4⟩
  · have hin' : (inner != -1) = true := bne_iff_ne.2 hin
    have hno := hn4 _ (hn.resolve_left hin)
    have hT : rotateT T i true = ((((hangT T up pp i).setK up true i).setP i up).setK i false inner).setP inner i := by subst hup'; subst hinn'; subst hpp; simp [rotateT, hin]
    rw [hT]
    clear hT hin hn hn4 hup' hinn' hpp
    go_enter Try.func58, Try.ntmps58
    go_wp2_with (go_at_call 36; refine at_k (by assumption) (by assumption) ?_)
    refine hang_k H (.inr hu) hp (fun w1 H1 F1 => ?_)
    have hz1 := H1.f_g hu1 (up.toNat * 10 + 6)
    have hc1 := Tree.c_r H1 hu1
    have H2 : Tree (w1.setCell ⟨h.g, up.toNat * 10 + 6, none⟩ (.int .i64 i)) b h (TS.setK _ up true i) := H1.st_k hu1 true i
    have F2 := F1.trans (H1.st_fr hu1 (up.toNat * 10 + 6) (.int .i64 i))
    have hz2 := H2.f_g hi2 (i.toNat * 10 + 7)
    have hc2 := H2.c_p hi2
    have H3 := H2.st_p hi2 up
    have F3 := F2.trans (H2.st_fr hi2 (i.toNat * 10 + 7) (.int .i64 up))
    have hz3 := H3.f_g hi3 (i.toNat * 10 + 5)
    have hc3 := Tree.c_l H3 hi3
    have H4 : Tree (World.setCell _ ⟨h.g, i.toNat * 10 + 5, none⟩ (.int .i64 inner)) b h (TS.setK _ i false inner) := H3.st_k hi3 false inner
    have F4 := F3.trans (H3.st_fr hi3 (i.toNat * 10 + 5) (.int .i64 inner))
    have hz4 := H4.f_g hno (inner.toNat * 10 + 7)
    have hc4 := H4.c_p hno
    go_wp2_with (go_at_call 36; refine at_k (by assumption) (by assumption) ?_)
    go_end0
    exact ⟨rfl, H4.st_p hno i, F4.trans (H4.st_fr hno _ _)⟩
theorem rotate_k {i : Int} {s : Bool} {n : Int} {R : Ending → World → Prop} (hs : sideI s = n) (H : Tree w b h T) (hi : T.ok i) (hp : (T.nd i).p = -1 ∨ T.ok (T.nd i).p) (hu : T.ok (T.kid i (!s)))
    (hn : T.kid (T.kid i (!s)) s = -1 ∨ T.ok (T.kid (T.kid i (!s)) s)) (hk : ∀ w', Tree w' b h (rotateT T i s) → Fr h.inn w w' → R (.returned (.tuple #[])) w') :
    Calls Try.prog 58 #[.pointer (some ⟨h.t, 0, none⟩), .int .i64 i, .int .i64 n] w R := by
  subst hs
  cases s
  · exact (rotate_calls0 H hi rfl rfl rfl hp hu hn).mono fun _ w' ⟨h1, h2, h3⟩ => by subst h1; exact hk w' h2 h3
  · exact (rotate_calls1 H hi rfl rfl rfl hp hu hn).mono fun _ w' ⟨h1, h2, h3⟩ => by subst h1; exact hk w' h2 h3
end
end Go.Proofs.Ytkajknicgabdkaa

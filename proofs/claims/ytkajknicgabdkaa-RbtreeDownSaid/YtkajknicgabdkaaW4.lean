/-
  Walk of rise.
-/
import Derived.Test.YtkajknicgabdkaaW3
import Derived.Deep.LoopGhost
namespace Go.Proofs.Ytkajknicgabdkaa
open Go.RowKit
section
variable {w : World} {b : Nat} {h : Han} {T : TS}

theorem red_k {i : Int} {x : Bool} {R : Ending → World → Prop} (H : Tree w b h T) (hi : i = -1 ∨ T.ok i) (hx : Hid (T.isRed i = x)) (hk : R (.returned (.bool x)) w) :
    Calls Try.prog 43 #[.pointer (some ⟨h.t, 0, none⟩), .int .i64 i] w R :=
  (red_calls H hi).mono fun _ _ ⟨h1, h2⟩ => by subst h1; subst h2; rw [hx.out]; exact hk
theorem side_k {i p n : Int} {R : Ending → World → Prop} (H : Tree w b h T) (hp : T.ok p) (hn : Hid (sideI (sideT T i p) = n)) (hk : R (.returned (.int .i64 n)) w) :
    Calls Try.prog 57 #[.pointer (some ⟨h.t, 0, none⟩), .int .i64 i, .int .i64 p] w R :=
  (side_calls H hp hn.out).mono fun _ _ ⟨h1, h2⟩ => by subst h1; subst h2; exact hk

/-- What a rotation asks. -/
structure RotOk (T : TS) (i : Int) (s : Bool) : Prop where
  ok_i : T.ok i
  ok_p : (T.nd i).p = -1 ∨ T.ok (T.nd i).p
  ok_u : T.ok (T.kid i (!s))
  ok_n : T.kid (T.kid i (!s)) s = -1 ∨ T.ok (T.kid (T.kid i (!s)) s)

theorem rot_k0 {i : Int} {R : Ending → World → Prop} (H : Tree w b h T) (ho : RotOk T i false) (hk : ∀ w', Tree w' b h (rotateT T i false) → Fr h.inn w w' → R (.returned (.tuple #[])) w') :
    Calls Try.prog 58 #[.pointer (some ⟨h.t, 0, none⟩), .int .i64 i, .int .i64 0] w R := rotate_k rfl H ho.ok_i ho.ok_p ho.ok_u ho.ok_n hk
theorem rot_k1 {i : Int} {R : Ending → World → Prop} (H : Tree w b h T) (ho : RotOk T i true) (hk : ∀ w', Tree w' b h (rotateT T i true) → Fr h.inn w w' → R (.returned (.tuple #[])) w') :
    Calls Try.prog 58 #[.pointer (some ⟨h.t, 0, none⟩), .int .i64 i, .int .i64 1] w R := rotate_k rfl H ho.ok_i ho.ok_p ho.ok_u ho.ok_n hk

/-- The rounds of rise, so many. -/
inductive Rise : Nat → TS → Int → TS → Prop
  | done {T : TS} {i p : Int} (hi : T.ok i) (hpp : (T.nd i).p = p) (hp : p = -1 ∨ T.ok p) (hr : T.isRed p = false) (hroot : T.ok T.root) : Rise 0 T i (T.setRed T.root false)
  | recolor {k : Nat} {T T' : TS} {i p g u : Int} {d : Bool} (hi : T.ok i) (hpp : (T.nd i).p = p) (hp : T.ok p) (hr : T.isRed p = true) (hgg : (T.nd p).p = g) (hg : T.ok g)
      (hd : sideT T p g = d) (hku : T.kid g (!d) = u) (hu : u = -1 ∨ T.ok u) (hru : T.isRed u = true)
      (rest : Rise k (((T.setRed p false).setRed u false).setRed g true) g T') : Rise (k + 1) T i T'
  | line {k : Nat} {T T' : TS} {i p g u : Int} {d : Bool} (hi : T.ok i) (hpp : (T.nd i).p = p) (hp : T.ok p) (hr : T.isRed p = true) (hgg : (T.nd p).p = g) (hg : T.ok g)
      (hd : sideT T p g = d) (hku : T.kid g (!d) = u) (hu : u = -1 ∨ T.ok u) (hru : T.isRed u = false) (hs : sideT T i p = d)
      (ho : RotOk ((T.setRed p false).setRed g true) g (!d)) (rest : Rise k (rotateT ((T.setRed p false).setRed g true) g (!d)) i T') : Rise (k + 1) T i T'
  | bend {k : Nat} {T T' : TS} {i p g u : Int} {d : Bool} (hi : T.ok i) (hpp : (T.nd i).p = p) (hp : T.ok p) (hr : T.isRed p = true) (hgg : (T.nd p).p = g) (hg : T.ok g)
      (hd : sideT T p g = d) (hku : T.kid g (!d) = u) (hu : u = -1 ∨ T.ok u) (hru : T.isRed u = false) (hs : sideT T i p = !d)
      (ho1 : RotOk T p d) (hi1 : (rotateT T p d).ok i) (hg1 : (rotateT T p d).ok g)
      (ho2 : RotOk (((rotateT T p d).setRed i false).setRed g true) g (!d)) (rest : Rise k (rotateT (((rotateT T p d).setRed i false).setRed g true) g (!d)) p T') : Rise (k + 1) T i T'

set_option maxHeartbeats 4000000 in
set_option maxRecDepth 100000 in
theorem rise_calls {i : Int} {n : Nat} {T' : TS} (H : Tree w b h T) (hr : Rise n T i T') :
    Calls Try.prog 38 #[.pointer (some ⟨h.t, 0, none⟩), .int .i64 i] w
      fun e w' => e = .returned (.tuple #[]) ∧ Tree w' b h T' ∧ Fr h.inn w w' := by
  go_enter Try.func38, Try.ntmps38
  go_wp2_with fail
  go_loopg [1] n (fun k v wr => ∃ (T1 : TS) (i1 : Int), v = .int .i64 i1 ∧ Tree wr b h T1 ∧ Fr h.inn w wr ∧ Rise k T1 i1 T')
  case atStart => exact ⟨T, i, rfl, H, Fr.refl _ _, hr⟩
  case round =>
    clear hr H
    obtain ⟨T1, i1, rfl, H1, F1, hr⟩ := hrel
    cases hr with
    | done hi hpp hp hr hroot =>
      have hcp := H1.c_p hi
      rw [hpp] at hcp
      have hR := Lib.hid hr
      clear hr hpp
      have hcr := H1.c_root
      have z1 := H1.f_g hroot (T1.root.toNat * 10 + 8)
      have e1 := H1.c_red hroot
      go_wp2_with (first | (go_at_call 36; refine at_k (by assumption) (by assumption) ?_) | (go_at_call 43; refine red_k (by assumption) (by assumption) (by assumption) ?_) | (go_at_call 57; refine side_k (by assumption) (by assumption) (by assumption) ?_))
      go_end0
      exact ⟨rfl, H1.st_red hroot false, F1.trans (H1.st_fr hroot _ _)⟩
    | @recolor k _ _ _ p g u d hi hpp hp hr hgg hg hd hku hu hru hrest =>
      have hcp := H1.c_p hi
      rw [hpp] at hcp
      have hcg := H1.c_p hp
      rw [hgg] at hcg
      have hR1 := Lib.hid hr
      have hp' : p = -1 ∨ T1.ok p := .inr hp
      replace hru := Lib.hid hru
      have hD : Hid (sideI (sideT T1 p g) = sideI d) := Lib.hid (by rw [hd])
      clear hr hpp hgg hd
      cases d
      · have hcu := Tree.c_r H1 hg
        have hku' : (T1.nd g).r = u := hku
        rw [hku'] at hcu
        clear hku hku'
        have hD0 : Hid (sideI (sideT T1 p g) = 0) := hD
        clear hD
        have hu' := hu.resolve_left (by intro e; rw [e] at hru; exact absurd hru.out (by simp [TS.isRed]))
        have hup := (ok_setRed (x := false) hp).2 hu'
        have hgp := (ok_setRed (x := false) hp).2 hg
        have hgu := (ok_setRed (x := false) hup).2 hgp
        have z1 := H1.f_g hp (p.toNat * 10 + 8)
        have e1 := H1.c_red hp
        have H2 := H1.st_red hp false
        have F2 := F1.trans (H1.st_fr hp (p.toNat * 10 + 8) (.bool false))
        have z2 := H2.f_g hup (u.toNat * 10 + 8)
        have e2 := H2.c_red hup
        have H3 := H2.st_red hup false
        have F3 := F2.trans (H2.st_fr hup (u.toNat * 10 + 8) (.bool false))
        have z3 := H3.f_g hgu (g.toNat * 10 + 8)
        have e3 := H3.c_red hgu
        have H4 := H3.st_red hgu true
        have F4 := F3.trans (H3.st_fr hgu (g.toNat * 10 + 8) (.bool true))
        have hR := Lib.hid hrest
        clear hrest
        go_wp2_with (first | (go_at_call 36; refine at_k (by assumption) (by assumption) ?_) | (go_at_call 43; refine red_k (by assumption) (by assumption) (by assumption) ?_) | (go_at_call 57; refine side_k (by assumption) (by assumption) (by assumption) ?_))
        go_roundg k
        case measure => omega
        case rel => exact ⟨_, _, rfl, H4, F4, hR.out⟩
      · have hcu := Tree.c_l H1 hg
        have hku' : (T1.nd g).l = u := hku
        rw [hku'] at hcu
        clear hku hku'
        have hD0 : Hid (sideI (sideT T1 p g) = 1) := hD
        clear hD
        have hu' := hu.resolve_left (by intro e; rw [e] at hru; exact absurd hru.out (by simp [TS.isRed]))
        have hup := (ok_setRed (x := false) hp).2 hu'
        have hgp := (ok_setRed (x := false) hp).2 hg
        have hgu := (ok_setRed (x := false) hup).2 hgp
        have z1 := H1.f_g hp (p.toNat * 10 + 8)
        have e1 := H1.c_red hp
        have H2 := H1.st_red hp false
        have F2 := F1.trans (H1.st_fr hp (p.toNat * 10 + 8) (.bool false))
        have z2 := H2.f_g hup (u.toNat * 10 + 8)
        have e2 := H2.c_red hup
        have H3 := H2.st_red hup false
        have F3 := F2.trans (H2.st_fr hup (u.toNat * 10 + 8) (.bool false))
        have z3 := H3.f_g hgu (g.toNat * 10 + 8)
        have e3 := H3.c_red hgu
        have H4 := H3.st_red hgu true
        have F4 := F3.trans (H3.st_fr hgu (g.toNat * 10 + 8) (.bool true))
        have hR := Lib.hid hrest
        clear hrest
        go_wp2_with (first | (go_at_call 36; refine at_k (by assumption) (by assumption) ?_) | (go_at_call 43; refine red_k (by assumption) (by assumption) (by assumption) ?_) | (go_at_call 57; refine side_k (by assumption) (by assumption) (by assumption) ?_))
        go_roundg k
        case measure => omega
        case rel => exact ⟨_, _, rfl, H4, F4, hR.out⟩
    | @line k _ _ _ p g u d hi hpp hp hr hgg hg hd hku hu hru hs ho hrest =>
      have hcp := H1.c_p hi
      rw [hpp] at hcp
      have hcg := H1.c_p hp
      rw [hgg] at hcg
      have hR1 := Lib.hid hr
      have hp' : p = -1 ∨ T1.ok p := .inr hp
      replace hru := Lib.hid hru
      have hD : Hid (sideI (sideT T1 p g) = sideI d) := Lib.hid (by rw [hd])
      clear hr hpp hgg hd
      cases d
      · have hcu := Tree.c_r H1 hg
        have hku' : (T1.nd g).r = u := hku
        rw [hku'] at hcu
        clear hku hku'
        have hD0 : Hid (sideI (sideT T1 p g) = 0) := hD
        clear hD
        have hgp := (ok_setRed (x := false) hp).2 hg
        have hS0 : Hid (sideI (sideT T1 i1 p) = 0) := Lib.hid (by rw [hs]; rfl)
        clear hs
        have z1 := H1.f_g hp (p.toNat * 10 + 8)
        have e1 := H1.c_red hp
        have H2 := H1.st_red hp false
        have F2 := F1.trans (H1.st_fr hp (p.toNat * 10 + 8) (.bool false))
        have z2 := H2.f_g hgp (g.toNat * 10 + 8)
        have e2 := H2.c_red hgp
        have H3 := H2.st_red hgp true
        have F3 := F2.trans (H2.st_fr hgp (g.toNat * 10 + 8) (.bool true))
        have hR := Lib.hid hrest
        clear hrest
        go_wp2_with (first | (go_at_call 36; refine at_k (by assumption) (by assumption) ?_) | (go_at_call 43; refine red_k (by assumption) (by assumption) (by assumption) ?_) | (go_at_call 57; refine side_k (by assumption) (by assumption) (by assumption) ?_))
        refine rot_k1 H3 ho (fun w4 H4 F4 => ?_)
        go_wp2
        go_roundg k
        case measure => omega
        case rel => exact ⟨_, _, rfl, H4, F3.trans F4, hR.out⟩
      · have hcu := Tree.c_l H1 hg
        have hku' : (T1.nd g).l = u := hku
        rw [hku'] at hcu
        clear hku hku'
        have hD0 : Hid (sideI (sideT T1 p g) = 1) := hD
        clear hD
        have hgp := (ok_setRed (x := false) hp).2 hg
        have hS0 : Hid (sideI (sideT T1 i1 p) = 1) := Lib.hid (by rw [hs]; rfl)
        clear hs
        have z1 := H1.f_g hp (p.toNat * 10 + 8)
        have e1 := H1.c_red hp
        have H2 := H1.st_red hp false
        have F2 := F1.trans (H1.st_fr hp (p.toNat * 10 + 8) (.bool false))
        have z2 := H2.f_g hgp (g.toNat * 10 + 8)
        have e2 := H2.c_red hgp
        have H3 := H2.st_red hgp true
        have F3 := F2.trans (H2.st_fr hgp (g.toNat * 10 + 8) (.bool true))
        have hR := Lib.hid hrest
        clear hrest
        go_wp2_with (first | (go_at_call 36; refine at_k (by assumption) (by assumption) ?_) | (go_at_call 43; refine red_k (by assumption) (by assumption) (by assumption) ?_) | (go_at_call 57; refine side_k (by assumption) (by assumption) (by assumption) ?_))
        refine rot_k0 H3 ho (fun w4 H4 F4 => ?_)
        go_wp2
        go_roundg k
        case measure => omega
        case rel => exact ⟨_, _, rfl, H4, F3.trans F4, hR.out⟩
    | @bend k _ _ _ p g u d hi hpp hp hr hgg hg hd hku hu hru hs ho1 hir hgr ho2 hrest =>
      have hcp := H1.c_p hi
      rw [hpp] at hcp
      have hcg := H1.c_p hp
      rw [hgg] at hcg
      have hR1 := Lib.hid hr
      have hp' : p = -1 ∨ T1.ok p := .inr hp
      replace hru := Lib.hid hru
      have hD : Hid (sideI (sideT T1 p g) = sideI d) := Lib.hid (by rw [hd])
      clear hr hpp hgg hd
      cases d
      · have hcu := Tree.c_r H1 hg
        have hku' : (T1.nd g).r = u := hku
        rw [hku'] at hcu
        clear hku hku'
        have hD0 : Hid (sideI (sideT T1 p g) = 0) := hD
        clear hD
        have hS0 : Hid (sideI (sideT T1 i1 p) = 1) := Lib.hid (by rw [hs]; rfl)
        clear hs
        have hgp := (ok_setRed (x := false) hir).2 hgr
        have hR := Lib.hid hrest
        clear hrest
        go_wp2_with (first | (go_at_call 36; refine at_k (by assumption) (by assumption) ?_) | (go_at_call 43; refine red_k (by assumption) (by assumption) (by assumption) ?_) | (go_at_call 57; refine side_k (by assumption) (by assumption) (by assumption) ?_))
        refine rot_k0 H1 ho1 (fun w2 H2 F2 => ?_)
        have z1 := H2.f_g hir (i1.toNat * 10 + 8)
        have e1 := H2.c_red hir
        have H3 := H2.st_red hir false
        have F3 := F2.trans (H2.st_fr hir (i1.toNat * 10 + 8) (.bool false))
        have z2 := H3.f_g hgp (g.toNat * 10 + 8)
        have e2 := H3.c_red hgp
        have H4 := H3.st_red hgp true
        have F4 := F3.trans (H3.st_fr hgp (g.toNat * 10 + 8) (.bool true))
        go_wp2_with (first | (go_at_call 36; refine at_k (by assumption) (by assumption) ?_) | (go_at_call 43; refine red_k (by assumption) (by assumption) (by assumption) ?_) | (go_at_call 57; refine side_k (by assumption) (by assumption) (by assumption) ?_))
        refine rot_k1 H4 ho2 (fun w5 H5 F5 => ?_)
        go_wp2
        go_roundg k
        case measure => omega
        case rel => exact ⟨_, _, rfl, H5, F1.trans (F4.trans F5), hR.out⟩
      · have hcu := Tree.c_l H1 hg
        have hku' : (T1.nd g).l = u := hku
        rw [hku'] at hcu
        clear hku hku'
        have hD0 : Hid (sideI (sideT T1 p g) = 1) := hD
        clear hD
        have hS0 : Hid (sideI (sideT T1 i1 p) = 0) := Lib.hid (by rw [hs]; rfl)
        clear hs
        have hgp := (ok_setRed (x := false) hir).2 hgr
        have hR := Lib.hid hrest
        clear hrest
        go_wp2_with (first | (go_at_call 36; refine at_k (by assumption) (by assumption) ?_) | (go_at_call 43; refine red_k (by assumption) (by assumption) (by assumption) ?_) | (go_at_call 57; refine side_k (by assumption) (by assumption) (by assumption) ?_))
        refine rot_k1 H1 ho1 (fun w2 H2 F2 => ?_)
        have z1 := H2.f_g hir (i1.toNat * 10 + 8)
        have e1 := H2.c_red hir
        have H3 := H2.st_red hir false
        have F3 := F2.trans (H2.st_fr hir (i1.toNat * 10 + 8) (.bool false))
        have z2 := H3.f_g hgp (g.toNat * 10 + 8)
        have e2 := H3.c_red hgp
        have H4 := H3.st_red hgp true
        have F4 := F3.trans (H3.st_fr hgp (g.toNat * 10 + 8) (.bool true))
        go_wp2_with (first | (go_at_call 36; refine at_k (by assumption) (by assumption) ?_) | (go_at_call 43; refine red_k (by assumption) (by assumption) (by assumption) ?_) | (go_at_call 57; refine side_k (by assumption) (by assumption) (by assumption) ?_))
        refine rot_k0 H4 ho2 (fun w5 H5 F5 => ?_)
        go_wp2
        go_roundg k
        case measure => omega
        case rel => exact ⟨_, _, rfl, H5, F1.trans (F4.trans F5), hR.out⟩
end
end Go.Proofs.Ytkajknicgabdkaa

/-
  Walk of sink.
-/
import Derived.Test.YtkajknicgabdkaaW4
namespace Go.Proofs.Ytkajknicgabdkaa
open Go.RowKit
section
variable {w : World} {b : Nat} {h : Han} {T : TS}

/-- The brother is made black. -/
inductive SinkA : TS → Int → Bool → TS → Int → Int → Int → Prop
  | black {T : TS} {p q near far : Int} {d : Bool} (hk : T.kid p (!d) = q) (hq : T.ok q) (hb : T.isRed q = false) (hn : T.kid q d = near) (hf : T.kid q (!d) = far) : SinkA T p d T q near far
  | red {T T1 : TS} {p q0 q near far : Int} {d : Bool} (hk0 : T.kid p (!d) = q0) (hq0 : T.ok q0) (hr : T.isRed q0 = true) (ho : RotOk ((T.setRed q0 false).setRed p true) p d)
      (h1 : T1 = rotateT ((T.setRed q0 false).setRed p true) p d) (hp : T1.ok p) (hk : T1.kid p (!d) = q) (hq : T1.ok q) (hn : T1.kid q d = near) (hf : T1.kid q (!d) = far) : SinkA T p d T1 q near far
/-- What follows; where it goes on. -/
inductive SinkB : TS → Int → Bool → Int → Int → Int → TS → Option (Int × Int) → Prop
  | up {T : TS} {p q near far pp : Int} {d : Bool} (hbn : T.isRed near = false) (hbf : T.isRed far = false) (hpp : ((T.setRed q true).nd p).p = pp) : SinkB T p d q near far (T.setRed q true) (some (p, pp))
  | near {T T2 : TS} {p q near far : Int} {d : Bool} (hrn : T.isRed near = true) (hbf : T.isRed far = false) (ho : RotOk ((T.setRed near false).setRed q true) q (!d))
      (h2 : T2 = rotateT ((T.setRed near false).setRed q true) q (!d)) (hp2 : T2.ok p) (hn2 : T2.ok near) (hq2 : T2.ok q)
      (ho2 : RotOk (((T2.setRed near (T2.nd p).red).setRed p false).setRed q false) p d) :
      SinkB T p d q near far (rotateT (((T2.setRed near (T2.nd p).red).setRed p false).setRed q false) p d) none
  | far {T : TS} {p q near far : Int} {d : Bool} (hrf : T.isRed far = true)
      (ho2 : RotOk (((T.setRed q (T.nd p).red).setRed p false).setRed far false) p d) :
      SinkB T p d q near far (rotateT (((T.setRed q (T.nd p).red).setRed p false).setRed far false) p d) none
inductive Sink : Nat → TS → Int → Int → TS → Prop
  | root0 {T : TS} : Sink 0 T (-1) (-1) T
  | root {T : TS} {i : Int} (hi : T.ok i) : Sink 0 T i (-1) (T.setRed i false)
  | red {T : TS} {i p : Int} (hp : T.ok p) (hi : T.ok i) (hr : T.isRed i = true) : Sink 0 T i p (T.setRed i false)
  | fin {T T1 T' : TS} {i p q near far : Int} {d : Bool} (hp : T.ok p) (hi : i = -1 ∨ T.ok i) (hr : T.isRed i = false) (hd : sideT T i p = d) (hA : SinkA T p d T1 q near far)
      (hn : near = -1 ∨ T1.ok near) (hf : far = -1 ∨ T1.ok far) (hB : SinkB T1 p d q near far T' none) : Sink 0 T i p T'
  | go {k : Nat} {T T1 T2 T' : TS} {i p q near far i2 p2 : Int} {d : Bool} (hp : T.ok p) (hi : i = -1 ∨ T.ok i) (hr : T.isRed i = false) (hd : sideT T i p = d) (hA : SinkA T p d T1 q near far)
      (hn : near = -1 ∨ T1.ok near) (hf : far = -1 ∨ T1.ok far) (hB : SinkB T1 p d q near far T2 (some (i2, p2))) (rest : Sink k T2 i2 p2 T') : Sink (k + 1) T i p T'

theorem st_redc {i : Int} (H : Tree w b h T) (hi : T.ok i) (p : Int) : Tree (w.setCell ⟨h.g, i.toNat * 10 + 8, none⟩ (.bool (T.nd p).red)) b h (T.setRed i (T.nd p).red) ∧ Fr h.inn w (w.setCell ⟨h.g, i.toNat * 10 + 8, none⟩ (.bool (T.nd p).red)) :=
  ⟨H.st_red hi _, H.st_fr hi _ _⟩
theorem ok_setRedc {i j : Int} (hi : T.ok i) (p : Int) : (T.setRed i (T.nd p).red).ok j ↔ T.ok j := ok_setRed hi
set_option maxHeartbeats 8000000 in
set_option maxRecDepth 100000 in
theorem sink_calls {i p : Int} {n : Nat} {T' : TS} (H : Tree w b h T) (hr : Sink n T i p T') :
    Calls Try.prog 44 #[.pointer (some ⟨h.t, 0, none⟩), .int .i64 i, .int .i64 p] w
      fun e w' => e = .returned (.tuple #[]) ∧ Tree w' b h T' ∧ Fr h.inn w w' := by
  go_enter Try.func44, Try.ntmps44
  go_wp2_with fail
  go_loopg [1, 2] n (fun k v u wr => ∃ (T1 : TS) (i1 p1 : Int), v = .int .i64 i1 ∧ u = .int .i64 p1 ∧ Tree wr b h T1 ∧ Fr h.inn w wr ∧ Sink k T1 i1 p1 T')
  case atStart => exact ⟨T, i, p, rfl, rfl, H, Fr.refl _ _, hr⟩
  case round =>
    clear hr H p i
    obtain ⟨T1, i1, p, rfl, rfl, H1, F1, hr⟩ := hrel
    cases hr with
    | root0 =>
      go_wp2
      go_end0
      exact ⟨rfl, H1, F1⟩
    | root hi =>
      have hne' : (i1 != -1) = true := by have := hi.1; rw [bne_iff_ne]; omega
      have z1 := H1.f_g hi (i1.toNat * 10 + 8)
      have e1 := H1.c_red hi
      go_wp2_with (first | (go_at_call 36; refine at_k (by assumption) (by assumption) ?_) | (go_at_call 43; refine red_k (by assumption) (by assumption) (by assumption) ?_) | (go_at_call 57; refine side_k (by assumption) (by assumption) (by assumption) ?_))
      go_end0
      exact ⟨rfl, H1.st_red hi false, F1.trans (H1.st_fr hi _ _)⟩
    | red hp hi hr =>
      have hR1 := Lib.hid hr
      clear hr
      have hi' : i1 = -1 ∨ T1.ok i1 := .inr hi
      have hpn : (p != -1) = true := by have := hp.1; rw [bne_iff_ne]; omega
      have hne' : (i1 != -1) = true := by have := hi.1; rw [bne_iff_ne]; omega
      have z1 := H1.f_g hi (i1.toNat * 10 + 8)
      have e1 := H1.c_red hi
      go_wp2_with (first | (go_at_call 36; refine at_k (by assumption) (by assumption) ?_) | (go_at_call 43; refine red_k (by assumption) (by assumption) (by assumption) ?_) | (go_at_call 57; refine side_k (by assumption) (by assumption) (by assumption) ?_))
      go_end0
      exact ⟨rfl, H1.st_red hi false, F1.trans (H1.st_fr hi _ _)⟩
    | @fin _ Tc _ _ _ q near far d hp hi hr hd hA hn hf hB =>
      have hR1 := Lib.hid hr
      clear hr
      have hpn : (p != -1) = true := by have := hp.1; rw [bne_iff_ne]; omega
      cases d
      · have hck := Tree.c_r H1 hp
        have hD0 : Hid (sideI (sideT T1 i1 p) = 0) := Lib.hid (by rw [hd]; rfl)
        clear hd
        cases hA with
        | black hkq hq hbq hnear hfar =>
          have hkq' : (T1.nd p).r = q := hkq
          rw [hkq'] at hck
          have hq' : q = -1 ∨ T1.ok q := .inr hq
          have hbq := Lib.hid hbq
          clear hkq hkq'
          obtain ⟨wc, rfl⟩ : ∃ wc, wc = wr := ⟨_, rfl⟩
          have Hc := H1
          have Fc := F1
          have hpc := hp
          go_wp2_with (first | (go_at_call 36; refine at_k (by assumption) (by assumption) ?_) | (go_at_call 43; refine red_k (by assumption) (by assumption) (by assumption) ?_) | (go_at_call 57; refine side_k (by assumption) (by assumption) (by assumption) ?_))
          clear H1 F1 hck
          have hl := Tree.c_l Hc hq
          have hr := Tree.c_r Hc hq
          have hnear' : (TS.nd _ q).l = near := hnear
          have hfar' : (TS.nd _ q).r = far := hfar
          rw [hnear'] at hl
          rw [hfar'] at hr
          clear hnear hfar hnear' hfar'
          -- R7: near and far are read
          have HA : Hid (∀ n : Nat, Calls Try.prog 36 #[.pointer (some ⟨h.t, 0, none⟩), .int .i64 q] (wc.drewN n) fun e w' => e = .returned (.pointer (some ⟨h.g, q.toNat * 10, none⟩)) ∧ w' = wc.drewN n) :=
            Lib.hid (fun n => (at_calls (Hc.drewN n) hq).mono fun e w' h => ⟨h.1, h.2.symm⟩)
          go_quiet ((go_at_call 36; exact Calls.quiet_of_same (HA.out _)))
          have Hd := Hc.drewN nq
          have Fd := Fc.trans (Fr.drewN h.inn wc nq)
          clear HA hl hr Hc Fc
          revert Hd Fd
          generalize wc.drewN nq = wd
          intro Hd Fd
          cases hB with
          | near hrn hbf ho h2 hp2 hn2 hq2 ho2 =>
            subst h2
            have hno := hn.resolve_left (by intro e; rw [e] at hrn; exact absurd hrn (by simp [TS.isRed]))
            have hrn := Lib.hid hrn
            have hbf := Lib.hid hbf
            have z2 := Hd.f_g hno (near.toNat * 10 + 8)
            have e2 := Hd.c_red hno
            have H2 := Hd.st_red hno false
            have F2 := Fd.trans (Hd.st_fr hno (near.toNat * 10 + 8) (.bool false))
            have hq3 := (ok_setRed (x := false) hno).2 hq
            have z3 := H2.f_g hq3 (q.toNat * 10 + 8)
            have e3 := H2.c_red hq3
            have H3 := H2.st_red hq3 true
            have F3 := F2.trans (H2.st_fr hq3 (q.toNat * 10 + 8) (.bool true))
            go_wp2_with (first | (go_at_call 36; refine at_k (by assumption) (by assumption) ?_) | (go_at_call 43; refine red_k (by assumption) (by assumption) (by assumption) ?_) | (go_at_call 57; refine side_k (by assumption) (by assumption) (by assumption) ?_))
            refine rot_k1 H3 ho (fun w4 H4 F4 => ?_)
            have F5 := F3.trans F4
            have zA := H4.f_g hn2 (near.toNat * 10 + 8)
            have eA := H4.c_red hn2
            have eB := H4.c_red hp2
            obtain ⟨HA, FA'⟩ := st_redc H4 hn2 p
            have FA := F5.trans FA'
            have okp2 := (ok_setRedc hn2 p).2 hp2
            have okfA := (ok_setRedc hn2 p).2 hq2
            have okf2 := (ok_setRed (x := false) okp2).2 okfA
            have zC := HA.f_g okp2 (p.toNat * 10 + 8)
            have eC := HA.c_red okp2
            have HC := HA.st_red okp2 false
            have FC := FA.trans (HA.st_fr okp2 (p.toNat * 10 + 8) (.bool false))
            have zD := HC.f_g okf2 (q.toNat * 10 + 8)
            have eD := HC.c_red okf2
            have HD := HC.st_red okf2 false
            have FD := FC.trans (HC.st_fr okf2 (q.toNat * 10 + 8) (.bool false))
            go_wp2_with (first | (go_at_call 36; refine at_k (by assumption) (by assumption) ?_) | (go_at_call 43; refine red_k (by assumption) (by assumption) (by assumption) ?_) | (go_at_call 57; refine side_k (by assumption) (by assumption) (by assumption) ?_))
            refine rot_k0 HD ho2 (fun w9 H9 F9 => ?_)
            go_wp2
            refine bodyPost_ret (results_none rfl _ _ _) rfl ?_
            exact ⟨rfl, H9, FD.trans F9⟩
          | far hrf ho2 =>
            have hfo := hf.resolve_left (by intro e; rw [e] at hrf; exact absurd hrf (by simp [TS.isRed]))
            have hrf := Lib.hid hrf
            cases hx : TS.isRed _ near
            · have hxx := Lib.hid hx
              clear hx
              have zA := Hd.f_g hq (q.toNat * 10 + 8)
              have eA := Hd.c_red hq
              have eB := Hd.c_red hpc
              obtain ⟨HA, FA'⟩ := st_redc Hd hq p
              have FA := Fd.trans FA'
              have okp2 := (ok_setRedc hq p).2 hpc
              have okfA := (ok_setRedc hq p).2 hfo
              have okf2 := (ok_setRed (x := false) okp2).2 okfA
              have zC := HA.f_g okp2 (p.toNat * 10 + 8)
              have eC := HA.c_red okp2
              have HC := HA.st_red okp2 false
              have FC := FA.trans (HA.st_fr okp2 (p.toNat * 10 + 8) (.bool false))
              have zD := HC.f_g okf2 (far.toNat * 10 + 8)
              have eD := HC.c_red okf2
              have HD := HC.st_red okf2 false
              have FD := FC.trans (HC.st_fr okf2 (far.toNat * 10 + 8) (.bool false))
              go_wp2_with (first | (go_at_call 36; refine at_k (by assumption) (by assumption) ?_) | (go_at_call 43; refine red_k (by assumption) (by assumption) (by assumption) ?_) | (go_at_call 57; refine side_k (by assumption) (by assumption) (by assumption) ?_))
              refine rot_k0 HD ho2 (fun w9 H9 F9 => ?_)
              go_wp2
              refine bodyPost_ret (results_none rfl _ _ _) rfl ?_
              exact ⟨rfl, H9, FD.trans F9⟩
            · have hxx := Lib.hid hx
              clear hx
              have zA := Hd.f_g hq (q.toNat * 10 + 8)
              have eA := Hd.c_red hq
              have eB := Hd.c_red hpc
              obtain ⟨HA, FA'⟩ := st_redc Hd hq p
              have FA := Fd.trans FA'
              have okp2 := (ok_setRedc hq p).2 hpc
              have okfA := (ok_setRedc hq p).2 hfo
              have okf2 := (ok_setRed (x := false) okp2).2 okfA
              have zC := HA.f_g okp2 (p.toNat * 10 + 8)
              have eC := HA.c_red okp2
              have HC := HA.st_red okp2 false
              have FC := FA.trans (HA.st_fr okp2 (p.toNat * 10 + 8) (.bool false))
              have zD := HC.f_g okf2 (far.toNat * 10 + 8)
              have eD := HC.c_red okf2
              have HD := HC.st_red okf2 false
              have FD := FC.trans (HC.st_fr okf2 (far.toNat * 10 + 8) (.bool false))
              go_wp2_with (first | (go_at_call 36; refine at_k (by assumption) (by assumption) ?_) | (go_at_call 43; refine red_k (by assumption) (by assumption) (by assumption) ?_) | (go_at_call 57; refine side_k (by assumption) (by assumption) (by assumption) ?_))
              refine rot_k0 HD ho2 (fun w9 H9 F9 => ?_)
              go_wp2
              refine bodyPost_ret (results_none rfl _ _ _) rfl ?_
              exact ⟨rfl, H9, FD.trans F9⟩
        | red hkq0 hq0 hrq ho h1 hpc hkq hq hnear hfar =>
          rename_i q0
          subst h1
          have hkq' : (T1.nd p).r = q0 := hkq0
          rw [hkq'] at hck
          have hq' : q0 = -1 ∨ T1.ok q0 := .inr hq0
          have hrq := Lib.hid hrq
          clear hkq0 hkq'
          have z1 := H1.f_g hq0 (q0.toNat * 10 + 8)
          have e1 := H1.c_red hq0
          have H2 := H1.st_red hq0 false
          have F2 := F1.trans (H1.st_fr hq0 (q0.toNat * 10 + 8) (.bool false))
          have hp2 := (ok_setRed (x := false) hq0).2 hp
          have z2 := H2.f_g hp2 (p.toNat * 10 + 8)
          have e2 := H2.c_red hp2
          have H3 := H2.st_red hp2 true
          have F3 := F2.trans (H2.st_fr hp2 (p.toNat * 10 + 8) (.bool true))
          go_wp2_with (first | (go_at_call 36; refine at_k (by assumption) (by assumption) ?_) | (go_at_call 43; refine red_k (by assumption) (by assumption) (by assumption) ?_) | (go_at_call 57; refine side_k (by assumption) (by assumption) (by assumption) ?_))
          refine rot_k0 H3 ho (fun wc Hc F4 => ?_)
          have Fc := F3.trans F4
          have e4 := Tree.c_r Hc hpc
          have hkq2 : (TS.nd _ p).r = q := hkq
          rw [hkq2] at e4
          clear hkq hkq2
          go_wp2_with (first | (go_at_call 36; refine at_k (by assumption) (by assumption) ?_) | (go_at_call 43; refine red_k (by assumption) (by assumption) (by assumption) ?_) | (go_at_call 57; refine side_k (by assumption) (by assumption) (by assumption) ?_))
          clear H1 F1 hck z1 e1 H2 F2 hp2 z2 e2 H3 F3 F4 e4 ho hrq hq' hq0
          have hl := Tree.c_l Hc hq
          have hr := Tree.c_r Hc hq
          have hnear' : (TS.nd _ q).l = near := hnear
          have hfar' : (TS.nd _ q).r = far := hfar
          rw [hnear'] at hl
          rw [hfar'] at hr
          clear hnear hfar hnear' hfar'
          -- R7: near and far are read
          have HA : Hid (∀ n : Nat, Calls Try.prog 36 #[.pointer (some ⟨h.t, 0, none⟩), .int .i64 q] (wc.drewN n) fun e w' => e = .returned (.pointer (some ⟨h.g, q.toNat * 10, none⟩)) ∧ w' = wc.drewN n) :=
            Lib.hid (fun n => (at_calls (Hc.drewN n) hq).mono fun e w' h => ⟨h.1, h.2.symm⟩)
          go_quiet ((go_at_call 36; exact Calls.quiet_of_same (HA.out _)))
          have Hd := Hc.drewN nq
          have Fd := Fc.trans (Fr.drewN h.inn wc nq)
          clear HA hl hr Hc Fc
          revert Hd Fd
          generalize wc.drewN nq = wd
          intro Hd Fd
          cases hB with
          | near hrn hbf ho h2 hp2 hn2 hq2 ho2 =>
            subst h2
            have hno := hn.resolve_left (by intro e; rw [e] at hrn; exact absurd hrn (by simp [TS.isRed]))
            have hrn := Lib.hid hrn
            have hbf := Lib.hid hbf
            have z2 := Hd.f_g hno (near.toNat * 10 + 8)
            have e2 := Hd.c_red hno
            have H2 := Hd.st_red hno false
            have F2 := Fd.trans (Hd.st_fr hno (near.toNat * 10 + 8) (.bool false))
            have hq3 := (ok_setRed (x := false) hno).2 hq
            have z3 := H2.f_g hq3 (q.toNat * 10 + 8)
            have e3 := H2.c_red hq3
            have H3 := H2.st_red hq3 true
            have F3 := F2.trans (H2.st_fr hq3 (q.toNat * 10 + 8) (.bool true))
            go_wp2_with (first | (go_at_call 36; refine at_k (by assumption) (by assumption) ?_) | (go_at_call 43; refine red_k (by assumption) (by assumption) (by assumption) ?_) | (go_at_call 57; refine side_k (by assumption) (by assumption) (by assumption) ?_))
            refine rot_k1 H3 ho (fun w4 H4 F4 => ?_)
            have F5 := F3.trans F4
            have zA := H4.f_g hn2 (near.toNat * 10 + 8)
            have eA := H4.c_red hn2
            have eB := H4.c_red hp2
            obtain ⟨HA, FA'⟩ := st_redc H4 hn2 p
            have FA := F5.trans FA'
            have okp2 := (ok_setRedc hn2 p).2 hp2
            have okfA := (ok_setRedc hn2 p).2 hq2
            have okf2 := (ok_setRed (x := false) okp2).2 okfA
            have zC := HA.f_g okp2 (p.toNat * 10 + 8)
            have eC := HA.c_red okp2
            have HC := HA.st_red okp2 false
            have FC := FA.trans (HA.st_fr okp2 (p.toNat * 10 + 8) (.bool false))
            have zD := HC.f_g okf2 (q.toNat * 10 + 8)
            have eD := HC.c_red okf2
            have HD := HC.st_red okf2 false
            have FD := FC.trans (HC.st_fr okf2 (q.toNat * 10 + 8) (.bool false))
            go_wp2_with (first | (go_at_call 36; refine at_k (by assumption) (by assumption) ?_) | (go_at_call 43; refine red_k (by assumption) (by assumption) (by assumption) ?_) | (go_at_call 57; refine side_k (by assumption) (by assumption) (by assumption) ?_))
            refine rot_k0 HD ho2 (fun w9 H9 F9 => ?_)
            go_wp2
            refine bodyPost_ret (results_none rfl _ _ _) rfl ?_
            exact ⟨rfl, H9, FD.trans F9⟩
          | far hrf ho2 =>
            have hfo := hf.resolve_left (by intro e; rw [e] at hrf; exact absurd hrf (by simp [TS.isRed]))
            have hrf := Lib.hid hrf
            cases hx : TS.isRed _ near
            · have hxx := Lib.hid hx
              clear hx
              have zA := Hd.f_g hq (q.toNat * 10 + 8)
              have eA := Hd.c_red hq
              have eB := Hd.c_red hpc
              obtain ⟨HA, FA'⟩ := st_redc Hd hq p
              have FA := Fd.trans FA'
              have okp2 := (ok_setRedc hq p).2 hpc
              have okfA := (ok_setRedc hq p).2 hfo
              have okf2 := (ok_setRed (x := false) okp2).2 okfA
              have zC := HA.f_g okp2 (p.toNat * 10 + 8)
              have eC := HA.c_red okp2
              have HC := HA.st_red okp2 false
              have FC := FA.trans (HA.st_fr okp2 (p.toNat * 10 + 8) (.bool false))
              have zD := HC.f_g okf2 (far.toNat * 10 + 8)
              have eD := HC.c_red okf2
              have HD := HC.st_red okf2 false
              have FD := FC.trans (HC.st_fr okf2 (far.toNat * 10 + 8) (.bool false))
              go_wp2_with (first | (go_at_call 36; refine at_k (by assumption) (by assumption) ?_) | (go_at_call 43; refine red_k (by assumption) (by assumption) (by assumption) ?_) | (go_at_call 57; refine side_k (by assumption) (by assumption) (by assumption) ?_))
              refine rot_k0 HD ho2 (fun w9 H9 F9 => ?_)
              go_wp2
              refine bodyPost_ret (results_none rfl _ _ _) rfl ?_
              exact ⟨rfl, H9, FD.trans F9⟩
            · have hxx := Lib.hid hx
              clear hx
              have zA := Hd.f_g hq (q.toNat * 10 + 8)
              have eA := Hd.c_red hq
              have eB := Hd.c_red hpc
              obtain ⟨HA, FA'⟩ := st_redc Hd hq p
              have FA := Fd.trans FA'
              have okp2 := (ok_setRedc hq p).2 hpc
              have okfA := (ok_setRedc hq p).2 hfo
              have okf2 := (ok_setRed (x := false) okp2).2 okfA
              have zC := HA.f_g okp2 (p.toNat * 10 + 8)
              have eC := HA.c_red okp2
              have HC := HA.st_red okp2 false
              have FC := FA.trans (HA.st_fr okp2 (p.toNat * 10 + 8) (.bool false))
              have zD := HC.f_g okf2 (far.toNat * 10 + 8)
              have eD := HC.c_red okf2
              have HD := HC.st_red okf2 false
              have FD := FC.trans (HC.st_fr okf2 (far.toNat * 10 + 8) (.bool false))
              go_wp2_with (first | (go_at_call 36; refine at_k (by assumption) (by assumption) ?_) | (go_at_call 43; refine red_k (by assumption) (by assumption) (by assumption) ?_) | (go_at_call 57; refine side_k (by assumption) (by assumption) (by assumption) ?_))
              refine rot_k0 HD ho2 (fun w9 H9 F9 => ?_)
              go_wp2
              refine bodyPost_ret (results_none rfl _ _ _) rfl ?_
              exact ⟨rfl, H9, FD.trans F9⟩
      · have hck := Tree.c_l H1 hp
        have hD0 : Hid (sideI (sideT T1 i1 p) = 1) := Lib.hid (by rw [hd]; rfl)
        clear hd
        cases hA with
        | black hkq hq hbq hnear hfar =>
          have hkq' : (T1.nd p).l = q := hkq
          rw [hkq'] at hck
          have hq' : q = -1 ∨ T1.ok q := .inr hq
          have hbq := Lib.hid hbq
          clear hkq hkq'
          obtain ⟨wc, rfl⟩ : ∃ wc, wc = wr := ⟨_, rfl⟩
          have Hc := H1
          have Fc := F1
          have hpc := hp
          go_wp2_with (first | (go_at_call 36; refine at_k (by assumption) (by assumption) ?_) | (go_at_call 43; refine red_k (by assumption) (by assumption) (by assumption) ?_) | (go_at_call 57; refine side_k (by assumption) (by assumption) (by assumption) ?_))
          clear H1 F1 hck
          have hl := Tree.c_r Hc hq
          have hr := Tree.c_l Hc hq
          have hnear' : (TS.nd _ q).r = near := hnear
          have hfar' : (TS.nd _ q).l = far := hfar
          rw [hnear'] at hl
          rw [hfar'] at hr
          clear hnear hfar hnear' hfar'
          -- R7: near and far are read
          have HA : Hid (∀ n : Nat, Calls Try.prog 36 #[.pointer (some ⟨h.t, 0, none⟩), .int .i64 q] (wc.drewN n) fun e w' => e = .returned (.pointer (some ⟨h.g, q.toNat * 10, none⟩)) ∧ w' = wc.drewN n) :=
            Lib.hid (fun n => (at_calls (Hc.drewN n) hq).mono fun e w' h => ⟨h.1, h.2.symm⟩)
          go_quiet ((go_at_call 36; exact Calls.quiet_of_same (HA.out _)))
          have Hd := Hc.drewN nq
          have Fd := Fc.trans (Fr.drewN h.inn wc nq)
          clear HA hl hr Hc Fc
          revert Hd Fd
          generalize wc.drewN nq = wd
          intro Hd Fd
          cases hB with
          | near hrn hbf ho h2 hp2 hn2 hq2 ho2 =>
            subst h2
            have hno := hn.resolve_left (by intro e; rw [e] at hrn; exact absurd hrn (by simp [TS.isRed]))
            have hrn := Lib.hid hrn
            have hbf := Lib.hid hbf
            have z2 := Hd.f_g hno (near.toNat * 10 + 8)
            have e2 := Hd.c_red hno
            have H2 := Hd.st_red hno false
            have F2 := Fd.trans (Hd.st_fr hno (near.toNat * 10 + 8) (.bool false))
            have hq3 := (ok_setRed (x := false) hno).2 hq
            have z3 := H2.f_g hq3 (q.toNat * 10 + 8)
            have e3 := H2.c_red hq3
            have H3 := H2.st_red hq3 true
            have F3 := F2.trans (H2.st_fr hq3 (q.toNat * 10 + 8) (.bool true))
            go_wp2_with (first | (go_at_call 36; refine at_k (by assumption) (by assumption) ?_) | (go_at_call 43; refine red_k (by assumption) (by assumption) (by assumption) ?_) | (go_at_call 57; refine side_k (by assumption) (by assumption) (by assumption) ?_))
            refine rot_k0 H3 ho (fun w4 H4 F4 => ?_)
            have F5 := F3.trans F4
            have zA := H4.f_g hn2 (near.toNat * 10 + 8)
            have eA := H4.c_red hn2
            have eB := H4.c_red hp2
            obtain ⟨HA, FA'⟩ := st_redc H4 hn2 p
            have FA := F5.trans FA'
            have okp2 := (ok_setRedc hn2 p).2 hp2
            have okfA := (ok_setRedc hn2 p).2 hq2
            have okf2 := (ok_setRed (x := false) okp2).2 okfA
            have zC := HA.f_g okp2 (p.toNat * 10 + 8)
            have eC := HA.c_red okp2
            have HC := HA.st_red okp2 false
            have FC := FA.trans (HA.st_fr okp2 (p.toNat * 10 + 8) (.bool false))
            have zD := HC.f_g okf2 (q.toNat * 10 + 8)
            have eD := HC.c_red okf2
            have HD := HC.st_red okf2 false
            have FD := FC.trans (HC.st_fr okf2 (q.toNat * 10 + 8) (.bool false))
            go_wp2_with (first | (go_at_call 36; refine at_k (by assumption) (by assumption) ?_) | (go_at_call 43; refine red_k (by assumption) (by assumption) (by assumption) ?_) | (go_at_call 57; refine side_k (by assumption) (by assumption) (by assumption) ?_))
            refine rot_k1 HD ho2 (fun w9 H9 F9 => ?_)
            go_wp2
            refine bodyPost_ret (results_none rfl _ _ _) rfl ?_
            exact ⟨rfl, H9, FD.trans F9⟩
          | far hrf ho2 =>
            have hfo := hf.resolve_left (by intro e; rw [e] at hrf; exact absurd hrf (by simp [TS.isRed]))
            have hrf := Lib.hid hrf
            cases hx : TS.isRed _ near
            · have hxx := Lib.hid hx
              clear hx
              have zA := Hd.f_g hq (q.toNat * 10 + 8)
              have eA := Hd.c_red hq
              have eB := Hd.c_red hpc
              obtain ⟨HA, FA'⟩ := st_redc Hd hq p
              have FA := Fd.trans FA'
              have okp2 := (ok_setRedc hq p).2 hpc
              have okfA := (ok_setRedc hq p).2 hfo
              have okf2 := (ok_setRed (x := false) okp2).2 okfA
              have zC := HA.f_g okp2 (p.toNat * 10 + 8)
              have eC := HA.c_red okp2
              have HC := HA.st_red okp2 false
              have FC := FA.trans (HA.st_fr okp2 (p.toNat * 10 + 8) (.bool false))
              have zD := HC.f_g okf2 (far.toNat * 10 + 8)
              have eD := HC.c_red okf2
              have HD := HC.st_red okf2 false
              have FD := FC.trans (HC.st_fr okf2 (far.toNat * 10 + 8) (.bool false))
              go_wp2_with (first | (go_at_call 36; refine at_k (by assumption) (by assumption) ?_) | (go_at_call 43; refine red_k (by assumption) (by assumption) (by assumption) ?_) | (go_at_call 57; refine side_k (by assumption) (by assumption) (by assumption) ?_))
              refine rot_k1 HD ho2 (fun w9 H9 F9 => ?_)
              go_wp2
              refine bodyPost_ret (results_none rfl _ _ _) rfl ?_
              exact ⟨rfl, H9, FD.trans F9⟩
            · have hxx := Lib.hid hx
              clear hx
              have zA := Hd.f_g hq (q.toNat * 10 + 8)
              have eA := Hd.c_red hq
              have eB := Hd.c_red hpc
              obtain ⟨HA, FA'⟩ := st_redc Hd hq p
              have FA := Fd.trans FA'
              have okp2 := (ok_setRedc hq p).2 hpc
              have okfA := (ok_setRedc hq p).2 hfo
              have okf2 := (ok_setRed (x := false) okp2).2 okfA
              have zC := HA.f_g okp2 (p.toNat * 10 + 8)
              have eC := HA.c_red okp2
              have HC := HA.st_red okp2 false
              have FC := FA.trans (HA.st_fr okp2 (p.toNat * 10 + 8) (.bool false))
              have zD := HC.f_g okf2 (far.toNat * 10 + 8)
              have eD := HC.c_red okf2
              have HD := HC.st_red okf2 false
              have FD := FC.trans (HC.st_fr okf2 (far.toNat * 10 + 8) (.bool false))
              go_wp2_with (first | (go_at_call 36; refine at_k (by assumption) (by assumption) ?_) | (go_at_call 43; refine red_k (by assumption) (by assumption) (by assumption) ?_) | (go_at_call 57; refine side_k (by assumption) (by assumption) (by assumption) ?_))
              refine rot_k1 HD ho2 (fun w9 H9 F9 => ?_)
              go_wp2
              refine bodyPost_ret (results_none rfl _ _ _) rfl ?_
              exact ⟨rfl, H9, FD.trans F9⟩
        | red hkq0 hq0 hrq ho h1 hpc hkq hq hnear hfar =>
          rename_i q0
          subst h1
          have hkq' : (T1.nd p).l = q0 := hkq0
          rw [hkq'] at hck
          have hq' : q0 = -1 ∨ T1.ok q0 := .inr hq0
          have hrq := Lib.hid hrq
          clear hkq0 hkq'
          have z1 := H1.f_g hq0 (q0.toNat * 10 + 8)
          have e1 := H1.c_red hq0
          have H2 := H1.st_red hq0 false
          have F2 := F1.trans (H1.st_fr hq0 (q0.toNat * 10 + 8) (.bool false))
          have hp2 := (ok_setRed (x := false) hq0).2 hp
          have z2 := H2.f_g hp2 (p.toNat * 10 + 8)
          have e2 := H2.c_red hp2
          have H3 := H2.st_red hp2 true
          have F3 := F2.trans (H2.st_fr hp2 (p.toNat * 10 + 8) (.bool true))
          go_wp2_with (first | (go_at_call 36; refine at_k (by assumption) (by assumption) ?_) | (go_at_call 43; refine red_k (by assumption) (by assumption) (by assumption) ?_) | (go_at_call 57; refine side_k (by assumption) (by assumption) (by assumption) ?_))
          refine rot_k1 H3 ho (fun wc Hc F4 => ?_)
          have Fc := F3.trans F4
          have e4 := Tree.c_l Hc hpc
          have hkq2 : (TS.nd _ p).l = q := hkq
          rw [hkq2] at e4
          clear hkq hkq2
          go_wp2_with (first | (go_at_call 36; refine at_k (by assumption) (by assumption) ?_) | (go_at_call 43; refine red_k (by assumption) (by assumption) (by assumption) ?_) | (go_at_call 57; refine side_k (by assumption) (by assumption) (by assumption) ?_))
          clear H1 F1 hck z1 e1 H2 F2 hp2 z2 e2 H3 F3 F4 e4 ho hrq hq' hq0
          have hl := Tree.c_r Hc hq
          have hr := Tree.c_l Hc hq
          have hnear' : (TS.nd _ q).r = near := hnear
          have hfar' : (TS.nd _ q).l = far := hfar
          rw [hnear'] at hl
          rw [hfar'] at hr
          clear hnear hfar hnear' hfar'
          -- R7: near and far are read
          have HA : Hid (∀ n : Nat, Calls Try.prog 36 #[.pointer (some ⟨h.t, 0, none⟩), .int .i64 q] (wc.drewN n) fun e w' => e = .returned (.pointer (some ⟨h.g, q.toNat * 10, none⟩)) ∧ w' = wc.drewN n) :=
            Lib.hid (fun n => (at_calls (Hc.drewN n) hq).mono fun e w' h => ⟨h.1, h.2.symm⟩)
          go_quiet ((go_at_call 36; exact Calls.quiet_of_same (HA.out _)))
          have Hd := Hc.drewN nq
          have Fd := Fc.trans (Fr.drewN h.inn wc nq)
          clear HA hl hr Hc Fc
          revert Hd Fd
          generalize wc.drewN nq = wd
          intro Hd Fd
          cases hB with
          | near hrn hbf ho h2 hp2 hn2 hq2 ho2 =>
            subst h2
            have hno := hn.resolve_left (by intro e; rw [e] at hrn; exact absurd hrn (by simp [TS.isRed]))
            have hrn := Lib.hid hrn
            have hbf := Lib.hid hbf
            have z2 := Hd.f_g hno (near.toNat * 10 + 8)
            have e2 := Hd.c_red hno
            have H2 := Hd.st_red hno false
            have F2 := Fd.trans (Hd.st_fr hno (near.toNat * 10 + 8) (.bool false))
            have hq3 := (ok_setRed (x := false) hno).2 hq
            have z3 := H2.f_g hq3 (q.toNat * 10 + 8)
            have e3 := H2.c_red hq3
            have H3 := H2.st_red hq3 true
            have F3 := F2.trans (H2.st_fr hq3 (q.toNat * 10 + 8) (.bool true))
            go_wp2_with (first | (go_at_call 36; refine at_k (by assumption) (by assumption) ?_) | (go_at_call 43; refine red_k (by assumption) (by assumption) (by assumption) ?_) | (go_at_call 57; refine side_k (by assumption) (by assumption) (by assumption) ?_))
            refine rot_k0 H3 ho (fun w4 H4 F4 => ?_)
            have F5 := F3.trans F4
            have zA := H4.f_g hn2 (near.toNat * 10 + 8)
            have eA := H4.c_red hn2
            have eB := H4.c_red hp2
            obtain ⟨HA, FA'⟩ := st_redc H4 hn2 p
            have FA := F5.trans FA'
            have okp2 := (ok_setRedc hn2 p).2 hp2
            have okfA := (ok_setRedc hn2 p).2 hq2
            have okf2 := (ok_setRed (x := false) okp2).2 okfA
            have zC := HA.f_g okp2 (p.toNat * 10 + 8)
            have eC := HA.c_red okp2
            have HC := HA.st_red okp2 false
            have FC := FA.trans (HA.st_fr okp2 (p.toNat * 10 + 8) (.bool false))
            have zD := HC.f_g okf2 (q.toNat * 10 + 8)
            have eD := HC.c_red okf2
            have HD := HC.st_red okf2 false
            have FD := FC.trans (HC.st_fr okf2 (q.toNat * 10 + 8) (.bool false))
            go_wp2_with (first | (go_at_call 36; refine at_k (by assumption) (by assumption) ?_) | (go_at_call 43; refine red_k (by assumption) (by assumption) (by assumption) ?_) | (go_at_call 57; refine side_k (by assumption) (by assumption) (by assumption) ?_))
            refine rot_k1 HD ho2 (fun w9 H9 F9 => ?_)
            go_wp2
            refine bodyPost_ret (results_none rfl _ _ _) rfl ?_
            exact ⟨rfl, H9, FD.trans F9⟩
          | far hrf ho2 =>
            have hfo := hf.resolve_left (by intro e; rw [e] at hrf; exact absurd hrf (by simp [TS.isRed]))
            have hrf := Lib.hid hrf
            cases hx : TS.isRed _ near
            · have hxx := Lib.hid hx
              clear hx
              have zA := Hd.f_g hq (q.toNat * 10 + 8)
              have eA := Hd.c_red hq
              have eB := Hd.c_red hpc
              obtain ⟨HA, FA'⟩ := st_redc Hd hq p
              have FA := Fd.trans FA'
              have okp2 := (ok_setRedc hq p).2 hpc
              have okfA := (ok_setRedc hq p).2 hfo
              have okf2 := (ok_setRed (x := false) okp2).2 okfA
              have zC := HA.f_g okp2 (p.toNat * 10 + 8)
              have eC := HA.c_red okp2
              have HC := HA.st_red okp2 false
              have FC := FA.trans (HA.st_fr okp2 (p.toNat * 10 + 8) (.bool false))
              have zD := HC.f_g okf2 (far.toNat * 10 + 8)
              have eD := HC.c_red okf2
              have HD := HC.st_red okf2 false
              have FD := FC.trans (HC.st_fr okf2 (far.toNat * 10 + 8) (.bool false))
              go_wp2_with (first | (go_at_call 36; refine at_k (by assumption) (by assumption) ?_) | (go_at_call 43; refine red_k (by assumption) (by assumption) (by assumption) ?_) | (go_at_call 57; refine side_k (by assumption) (by assumption) (by assumption) ?_))
              refine rot_k1 HD ho2 (fun w9 H9 F9 => ?_)
              go_wp2
              refine bodyPost_ret (results_none rfl _ _ _) rfl ?_
              exact ⟨rfl, H9, FD.trans F9⟩
            · have hxx := Lib.hid hx
              clear hx
              have zA := Hd.f_g hq (q.toNat * 10 + 8)
              have eA := Hd.c_red hq
              have eB := Hd.c_red hpc
              obtain ⟨HA, FA'⟩ := st_redc Hd hq p
              have FA := Fd.trans FA'
              have okp2 := (ok_setRedc hq p).2 hpc
              have okfA := (ok_setRedc hq p).2 hfo
              have okf2 := (ok_setRed (x := false) okp2).2 okfA
              have zC := HA.f_g okp2 (p.toNat * 10 + 8)
              have eC := HA.c_red okp2
              have HC := HA.st_red okp2 false
              have FC := FA.trans (HA.st_fr okp2 (p.toNat * 10 + 8) (.bool false))
              have zD := HC.f_g okf2 (far.toNat * 10 + 8)
              have eD := HC.c_red okf2
              have HD := HC.st_red okf2 false
              have FD := FC.trans (HC.st_fr okf2 (far.toNat * 10 + 8) (.bool false))
              go_wp2_with (first | (go_at_call 36; refine at_k (by assumption) (by assumption) ?_) | (go_at_call 43; refine red_k (by assumption) (by assumption) (by assumption) ?_) | (go_at_call 57; refine side_k (by assumption) (by assumption) (by assumption) ?_))
              refine rot_k1 HD ho2 (fun w9 H9 F9 => ?_)
              go_wp2
              refine bodyPost_ret (results_none rfl _ _ _) rfl ?_
              exact ⟨rfl, H9, FD.trans F9⟩
    | @go k _ Tc T2 _ _ _ q near far i2 p2 d hp hi hr hd hA hn hf hB hrest =>
      have hR1 := Lib.hid hr
      clear hr
      have hpn : (p != -1) = true := by have := hp.1; rw [bne_iff_ne]; omega
      cases d
      · have hck := Tree.c_r H1 hp
        have hD0 : Hid (sideI (sideT T1 i1 p) = 0) := Lib.hid (by rw [hd]; rfl)
        clear hd
        cases hA with
        | black hkq hq hbq hnear hfar =>
          have hkq' : (T1.nd p).r = q := hkq
          rw [hkq'] at hck
          have hq' : q = -1 ∨ T1.ok q := .inr hq
          have hbq := Lib.hid hbq
          clear hkq hkq'
          obtain ⟨wc, rfl⟩ : ∃ wc, wc = wr := ⟨_, rfl⟩
          have Hc := H1
          have Fc := F1
          have hpc := hp
          go_wp2_with (first | (go_at_call 36; refine at_k (by assumption) (by assumption) ?_) | (go_at_call 43; refine red_k (by assumption) (by assumption) (by assumption) ?_) | (go_at_call 57; refine side_k (by assumption) (by assumption) (by assumption) ?_))
          clear H1 F1 hck
          have hl := Tree.c_l Hc hq
          have hr := Tree.c_r Hc hq
          have hnear' : (TS.nd _ q).l = near := hnear
          have hfar' : (TS.nd _ q).r = far := hfar
          rw [hnear'] at hl
          rw [hfar'] at hr
          clear hnear hfar hnear' hfar'
          -- R7: near and far are read
          have HA : Hid (∀ n : Nat, Calls Try.prog 36 #[.pointer (some ⟨h.t, 0, none⟩), .int .i64 q] (wc.drewN n) fun e w' => e = .returned (.pointer (some ⟨h.g, q.toNat * 10, none⟩)) ∧ w' = wc.drewN n) :=
            Lib.hid (fun n => (at_calls (Hc.drewN n) hq).mono fun e w' h => ⟨h.1, h.2.symm⟩)
          go_quiet ((go_at_call 36; exact Calls.quiet_of_same (HA.out _)))
          have Hd := Hc.drewN nq
          have Fd := Fc.trans (Fr.drewN h.inn wc nq)
          clear HA hl hr Hc Fc
          revert Hd Fd
          generalize wc.drewN nq = wd
          intro Hd Fd
          cases hB with
          | up hbn hbf hpp =>
            have hbn := Lib.hid hbn
            have hbf := Lib.hid hbf
            have z2 := Hd.f_g hq (q.toNat * 10 + 8)
            have e2 := Hd.c_red hq
            have H2 := Hd.st_red hq true
            have F2 := Fd.trans (Hd.st_fr hq (q.toNat * 10 + 8) (.bool true))
            have hp2 := (ok_setRed (x := true) hq).2 hpc
            have e3 := H2.c_p hp2
            rw [hpp] at e3
            have hR := Lib.hid hrest
            clear hrest hpp
            go_wp2_with (first | (go_at_call 36; refine at_k (by assumption) (by assumption) ?_) | (go_at_call 43; refine red_k (by assumption) (by assumption) (by assumption) ?_) | (go_at_call 57; refine side_k (by assumption) (by assumption) (by assumption) ?_))
            have HA : Hid (∀ n : Nat, Calls Try.prog 36 #[.pointer (some ⟨h.t, 0, none⟩), .int .i64 p] ((wd.setCell ⟨h.g, q.toNat * 10 + 8, none⟩ (.bool true)).drewN n) fun e w' => e = .returned (.pointer (some ⟨h.g, p.toNat * 10, none⟩)) ∧ w' = (wd.setCell ⟨h.g, q.toNat * 10 + 8, none⟩ (.bool true)).drewN n) :=
              Lib.hid (fun n => (at_calls (H2.drewN n) hp2).mono fun e w' h => ⟨h.1, h.2.symm⟩)
            go_quiet ((go_at_call 36; exact Calls.quiet_of_same (HA.out _)))
            go_wp2
            go_roundg k
            case measure => omega
            case rel => exact ⟨_, _, _, rfl, rfl, H2.drewN nq, F2.trans (Fr.drewN _ _ nq), hR.out⟩
        | red hkq0 hq0 hrq ho h1 hpc hkq hq hnear hfar =>
          rename_i q0
          subst h1
          have hkq' : (T1.nd p).r = q0 := hkq0
          rw [hkq'] at hck
          have hq' : q0 = -1 ∨ T1.ok q0 := .inr hq0
          have hrq := Lib.hid hrq
          clear hkq0 hkq'
          have z1 := H1.f_g hq0 (q0.toNat * 10 + 8)
          have e1 := H1.c_red hq0
          have H2 := H1.st_red hq0 false
          have F2 := F1.trans (H1.st_fr hq0 (q0.toNat * 10 + 8) (.bool false))
          have hp2 := (ok_setRed (x := false) hq0).2 hp
          have z2 := H2.f_g hp2 (p.toNat * 10 + 8)
          have e2 := H2.c_red hp2
          have H3 := H2.st_red hp2 true
          have F3 := F2.trans (H2.st_fr hp2 (p.toNat * 10 + 8) (.bool true))
          go_wp2_with (first | (go_at_call 36; refine at_k (by assumption) (by assumption) ?_) | (go_at_call 43; refine red_k (by assumption) (by assumption) (by assumption) ?_) | (go_at_call 57; refine side_k (by assumption) (by assumption) (by assumption) ?_))
          refine rot_k0 H3 ho (fun wc Hc F4 => ?_)
          have Fc := F3.trans F4
          have e4 := Tree.c_r Hc hpc
          have hkq2 : (TS.nd _ p).r = q := hkq
          rw [hkq2] at e4
          clear hkq hkq2
          go_wp2_with (first | (go_at_call 36; refine at_k (by assumption) (by assumption) ?_) | (go_at_call 43; refine red_k (by assumption) (by assumption) (by assumption) ?_) | (go_at_call 57; refine side_k (by assumption) (by assumption) (by assumption) ?_))
          clear H1 F1 hck z1 e1 H2 F2 hp2 z2 e2 H3 F3 F4 e4 ho hrq hq' hq0
          have hl := Tree.c_l Hc hq
          have hr := Tree.c_r Hc hq
          have hnear' : (TS.nd _ q).l = near := hnear
          have hfar' : (TS.nd _ q).r = far := hfar
          rw [hnear'] at hl
          rw [hfar'] at hr
          clear hnear hfar hnear' hfar'
          -- R7: near and far are read
          have HA : Hid (∀ n : Nat, Calls Try.prog 36 #[.pointer (some ⟨h.t, 0, none⟩), .int .i64 q] (wc.drewN n) fun e w' => e = .returned (.pointer (some ⟨h.g, q.toNat * 10, none⟩)) ∧ w' = wc.drewN n) :=
            Lib.hid (fun n => (at_calls (Hc.drewN n) hq).mono fun e w' h => ⟨h.1, h.2.symm⟩)
          go_quiet ((go_at_call 36; exact Calls.quiet_of_same (HA.out _)))
          have Hd := Hc.drewN nq
          have Fd := Fc.trans (Fr.drewN h.inn wc nq)
          clear HA hl hr Hc Fc
          revert Hd Fd
          generalize wc.drewN nq = wd
          intro Hd Fd
          cases hB with
          | up hbn hbf hpp =>
            have hbn := Lib.hid hbn
            have hbf := Lib.hid hbf
            have z2 := Hd.f_g hq (q.toNat * 10 + 8)
            have e2 := Hd.c_red hq
            have H2 := Hd.st_red hq true
            have F2 := Fd.trans (Hd.st_fr hq (q.toNat * 10 + 8) (.bool true))
            have hp2 := (ok_setRed (x := true) hq).2 hpc
            have e3 := H2.c_p hp2
            rw [hpp] at e3
            have hR := Lib.hid hrest
            clear hrest hpp
            go_wp2_with (first | (go_at_call 36; refine at_k (by assumption) (by assumption) ?_) | (go_at_call 43; refine red_k (by assumption) (by assumption) (by assumption) ?_) | (go_at_call 57; refine side_k (by assumption) (by assumption) (by assumption) ?_))
            have HA : Hid (∀ n : Nat, Calls Try.prog 36 #[.pointer (some ⟨h.t, 0, none⟩), .int .i64 p] ((wd.setCell ⟨h.g, q.toNat * 10 + 8, none⟩ (.bool true)).drewN n) fun e w' => e = .returned (.pointer (some ⟨h.g, p.toNat * 10, none⟩)) ∧ w' = (wd.setCell ⟨h.g, q.toNat * 10 + 8, none⟩ (.bool true)).drewN n) :=
              Lib.hid (fun n => (at_calls (H2.drewN n) hp2).mono fun e w' h => ⟨h.1, h.2.symm⟩)
            go_quiet ((go_at_call 36; exact Calls.quiet_of_same (HA.out _)))
            go_wp2
            go_roundg k
            case measure => omega
            case rel => exact ⟨_, _, _, rfl, rfl, H2.drewN nq, F2.trans (Fr.drewN _ _ nq), hR.out⟩
      · have hck := Tree.c_l H1 hp
        have hD0 : Hid (sideI (sideT T1 i1 p) = 1) := Lib.hid (by rw [hd]; rfl)
        clear hd
        cases hA with
        | black hkq hq hbq hnear hfar =>
          have hkq' : (T1.nd p).l = q := hkq
          rw [hkq'] at hck
          have hq' : q = -1 ∨ T1.ok q := .inr hq
          have hbq := Lib.hid hbq
          clear hkq hkq'
          obtain ⟨wc, rfl⟩ : ∃ wc, wc = wr := ⟨_, rfl⟩
          have Hc := H1
          have Fc := F1
          have hpc := hp
          go_wp2_with (first | (go_at_call 36; refine at_k (by assumption) (by assumption) ?_) | (go_at_call 43; refine red_k (by assumption) (by assumption) (by assumption) ?_) | (go_at_call 57; refine side_k (by assumption) (by assumption) (by assumption) ?_))
          clear H1 F1 hck
          have hl := Tree.c_r Hc hq
          have hr := Tree.c_l Hc hq
          have hnear' : (TS.nd _ q).r = near := hnear
          have hfar' : (TS.nd _ q).l = far := hfar
          rw [hnear'] at hl
          rw [hfar'] at hr
          clear hnear hfar hnear' hfar'
          -- R7: near and far are read
          have HA : Hid (∀ n : Nat, Calls Try.prog 36 #[.pointer (some ⟨h.t, 0, none⟩), .int .i64 q] (wc.drewN n) fun e w' => e = .returned (.pointer (some ⟨h.g, q.toNat * 10, none⟩)) ∧ w' = wc.drewN n) :=
            Lib.hid (fun n => (at_calls (Hc.drewN n) hq).mono fun e w' h => ⟨h.1, h.2.symm⟩)
          go_quiet ((go_at_call 36; exact Calls.quiet_of_same (HA.out _)))
          have Hd := Hc.drewN nq
          have Fd := Fc.trans (Fr.drewN h.inn wc nq)
          clear HA hl hr Hc Fc
          revert Hd Fd
          generalize wc.drewN nq = wd
          intro Hd Fd
          cases hB with
          | up hbn hbf hpp =>
            have hbn := Lib.hid hbn
            have hbf := Lib.hid hbf
            have z2 := Hd.f_g hq (q.toNat * 10 + 8)
            have e2 := Hd.c_red hq
            have H2 := Hd.st_red hq true
            have F2 := Fd.trans (Hd.st_fr hq (q.toNat * 10 + 8) (.bool true))
            have hp2 := (ok_setRed (x := true) hq).2 hpc
            have e3 := H2.c_p hp2
            rw [hpp] at e3
            have hR := Lib.hid hrest
            clear hrest hpp
            go_wp2_with (first | (go_at_call 36; refine at_k (by assumption) (by assumption) ?_) | (go_at_call 43; refine red_k (by assumption) (by assumption) (by assumption) ?_) | (go_at_call 57; refine side_k (by assumption) (by assumption) (by assumption) ?_))
            have HA : Hid (∀ n : Nat, Calls Try.prog 36 #[.pointer (some ⟨h.t, 0, none⟩), .int .i64 p] ((wd.setCell ⟨h.g, q.toNat * 10 + 8, none⟩ (.bool true)).drewN n) fun e w' => e = .returned (.pointer (some ⟨h.g, p.toNat * 10, none⟩)) ∧ w' = (wd.setCell ⟨h.g, q.toNat * 10 + 8, none⟩ (.bool true)).drewN n) :=
              Lib.hid (fun n => (at_calls (H2.drewN n) hp2).mono fun e w' h => ⟨h.1, h.2.symm⟩)
            go_quiet ((go_at_call 36; exact Calls.quiet_of_same (HA.out _)))
            go_wp2
            go_roundg k
            case measure => omega
            case rel => exact ⟨_, _, _, rfl, rfl, H2.drewN nq, F2.trans (Fr.drewN _ _ nq), hR.out⟩
        | red hkq0 hq0 hrq ho h1 hpc hkq hq hnear hfar =>
          rename_i q0
          subst h1
          have hkq' : (T1.nd p).l = q0 := hkq0
          rw [hkq'] at hck
          have hq' : q0 = -1 ∨ T1.ok q0 := .inr hq0
          have hrq := Lib.hid hrq
          clear hkq0 hkq'
          have z1 := H1.f_g hq0 (q0.toNat * 10 + 8)
          have e1 := H1.c_red hq0
          have H2 := H1.st_red hq0 false
          have F2 := F1.trans (H1.st_fr hq0 (q0.toNat * 10 + 8) (.bool false))
          have hp2 := (ok_setRed (x := false) hq0).2 hp
          have z2 := H2.f_g hp2 (p.toNat * 10 + 8)
          have e2 := H2.c_red hp2
          have H3 := H2.st_red hp2 true
          have F3 := F2.trans (H2.st_fr hp2 (p.toNat * 10 + 8) (.bool true))
          go_wp2_with (first | (go_at_call 36; refine at_k (by assumption) (by assumption) ?_) | (go_at_call 43; refine red_k (by assumption) (by assumption) (by assumption) ?_) | (go_at_call 57; refine side_k (by assumption) (by assumption) (by assumption) ?_))
          refine rot_k1 H3 ho (fun wc Hc F4 => ?_)
          have Fc := F3.trans F4
          have e4 := Tree.c_l Hc hpc
          have hkq2 : (TS.nd _ p).l = q := hkq
          rw [hkq2] at e4
          clear hkq hkq2
          go_wp2_with (first | (go_at_call 36; refine at_k (by assumption) (by assumption) ?_) | (go_at_call 43; refine red_k (by assumption) (by assumption) (by assumption) ?_) | (go_at_call 57; refine side_k (by assumption) (by assumption) (by assumption) ?_))
          clear H1 F1 hck z1 e1 H2 F2 hp2 z2 e2 H3 F3 F4 e4 ho hrq hq' hq0
          have hl := Tree.c_r Hc hq
          have hr := Tree.c_l Hc hq
          have hnear' : (TS.nd _ q).r = near := hnear
          have hfar' : (TS.nd _ q).l = far := hfar
          rw [hnear'] at hl
          rw [hfar'] at hr
          clear hnear hfar hnear' hfar'
          -- R7: near and far are read
          have HA : Hid (∀ n : Nat, Calls Try.prog 36 #[.pointer (some ⟨h.t, 0, none⟩), .int .i64 q] (wc.drewN n) fun e w' => e = .returned (.pointer (some ⟨h.g, q.toNat * 10, none⟩)) ∧ w' = wc.drewN n) :=
            Lib.hid (fun n => (at_calls (Hc.drewN n) hq).mono fun e w' h => ⟨h.1, h.2.symm⟩)
          go_quiet ((go_at_call 36; exact Calls.quiet_of_same (HA.out _)))
          have Hd := Hc.drewN nq
          have Fd := Fc.trans (Fr.drewN h.inn wc nq)
          clear HA hl hr Hc Fc
          revert Hd Fd
          generalize wc.drewN nq = wd
          intro Hd Fd
          cases hB with
          | up hbn hbf hpp =>
            have hbn := Lib.hid hbn
            have hbf := Lib.hid hbf
            have z2 := Hd.f_g hq (q.toNat * 10 + 8)
            have e2 := Hd.c_red hq
            have H2 := Hd.st_red hq true
            have F2 := Fd.trans (Hd.st_fr hq (q.toNat * 10 + 8) (.bool true))
            have hp2 := (ok_setRed (x := true) hq).2 hpc
            have e3 := H2.c_p hp2
            rw [hpp] at e3
            have hR := Lib.hid hrest
            clear hrest hpp
            go_wp2_with (first | (go_at_call 36; refine at_k (by assumption) (by assumption) ?_) | (go_at_call 43; refine red_k (by assumption) (by assumption) (by assumption) ?_) | (go_at_call 57; refine side_k (by assumption) (by assumption) (by assumption) ?_))
            have HA : Hid (∀ n : Nat, Calls Try.prog 36 #[.pointer (some ⟨h.t, 0, none⟩), .int .i64 p] ((wd.setCell ⟨h.g, q.toNat * 10 + 8, none⟩ (.bool true)).drewN n) fun e w' => e = .returned (.pointer (some ⟨h.g, p.toNat * 10, none⟩)) ∧ w' = (wd.setCell ⟨h.g, q.toNat * 10 + 8, none⟩ (.bool true)).drewN n) :=
              Lib.hid (fun n => (at_calls (H2.drewN n) hp2).mono fun e w' h => ⟨h.1, h.2.symm⟩)
            go_quiet ((go_at_call 36; exact Calls.quiet_of_same (HA.out _)))
            go_wp2
            go_roundg k
            case measure => omega
            case rel => exact ⟨_, _, _, rfl, rfl, H2.drewN nq, F2.trans (Fr.drewN _ _ nq), hR.out⟩
end
end Go.Proofs.Ytkajknicgabdkaa

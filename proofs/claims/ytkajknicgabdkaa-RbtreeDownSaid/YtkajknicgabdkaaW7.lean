/-
  Walks of end, deep, next.
-/
import Derived.Test.YtkajknicgabdkaaW6
namespace Go.Proofs.Ytkajknicgabdkaa
open Go.RowKit
section
variable {w : World} {b : Nat} {h : Han} {T : TS} {R : Ending → World → Prop}

inductive End (T : TS) (s : Bool) : Nat → Int → Int → Prop
  | none : End T s 0 (-1) (-1)
  | stop {i : Int} (hi : T.ok i) (hj : T.kid i s = -1) : End T s 0 i i
  | go {n : Nat} {i j r : Int} (hi : T.ok i) (hj : T.kid i s = j) (hn : j ≠ -1) (rest : End T s n j r) : End T s (n + 1) i r

set_option maxHeartbeats 1000000 in
set_option maxRecDepth 100000 in
theorem end0_k {i r : Int} {n : Nat} (H : Tree w b h T) (hr : End T false n i r) (hk : R (.returned (.int .i64 r)) w) :
    Calls Try.prog 40 #[.pointer (some ⟨h.t, 0, none⟩), .int .i64 i, .int .i64 0] w R := by
  have HE := Lib.hid hr
  clear hr
  go_enter Try.func40, Try.ntmps40
  go_wp2_with fail
  go_loopg [1] n (fun k v1 wr => ∃ j : Int, v1 = .int .i64 j ∧ wr = w ∧ End T false k j r)
  case atStart => exact ⟨i, rfl, rfl, HE.out⟩
  case round =>
    clear HE
    obtain ⟨j, rfl, rfl, he⟩ := hrel
    cases he with
    | none =>
      go_wp2
      exact hk
    | stop hi hj =>
      have hni : (r != -1) = true := by have := hi.1; rw [bne_iff_ne]; omega
      have hx := Tree.c_l H hi
      have hj' : (T.nd r).l = -1 := hj
      rw [hj'] at hx
      clear hj hj'
      go_wp2_with (go_at_call 36; refine at_k H hi ?_)
      exact hk
    | @go n _ j2 _ hi hj hn rest =>
      have hni : (j != -1) = true := by have := hi.1; rw [bne_iff_ne]; omega
      have hx := Tree.c_l H hi
      have hj' : (T.nd j).l = j2 := hj
      rw [hj'] at hx
      have hnn : (j2 != -1) = true := bne_iff_ne.2 hn
      have HR := Lib.hid rest
      clear hj hj' hn rest
      go_wp2_with (go_at_call 36; refine at_k H hi ?_)
      go_roundg n
      case measure => omega
      case rel => exact ⟨_, rfl, rfl, HR.out⟩
set_option maxHeartbeats 1000000 in
set_option maxRecDepth 100000 in
theorem end1_k {i r : Int} {n : Nat} (H : Tree w b h T) (hr : End T true n i r) (hk : R (.returned (.int .i64 r)) w) :
    Calls Try.prog 40 #[.pointer (some ⟨h.t, 0, none⟩), .int .i64 i, .int .i64 1] w R := by
  have HE := Lib.hid hr
  clear hr
  go_enter Try.func40, Try.ntmps40
  go_wp2_with fail
  go_loopg [1] n (fun k v1 wr => ∃ j : Int, v1 = .int .i64 j ∧ wr = w ∧ End T true k j r)
  case atStart => exact ⟨i, rfl, rfl, HE.out⟩
  case round =>
    clear HE
    obtain ⟨j, rfl, rfl, he⟩ := hrel
    cases he with
    | none =>
      go_wp2
      exact hk
    | stop hi hj =>
      have hni : (r != -1) = true := by have := hi.1; rw [bne_iff_ne]; omega
      have hx := Tree.c_r H hi
      have hj' : (T.nd r).r = -1 := hj
      rw [hj'] at hx
      clear hj hj'
      go_wp2_with (go_at_call 36; refine at_k H hi ?_)
      exact hk
    | @go n _ j2 _ hi hj hn rest =>
      have hni : (j != -1) = true := by have := hi.1; rw [bne_iff_ne]; omega
      have hx := Tree.c_r H hi
      have hj' : (T.nd j).r = j2 := hj
      rw [hj'] at hx
      have hnn : (j2 != -1) = true := bne_iff_ne.2 hn
      have HR := Lib.hid rest
      clear hj hj' hn rest
      go_wp2_with (go_at_call 36; refine at_k H hi ?_)
      go_roundg n
      case measure => omega
      case rel => exact ⟨_, rfl, rfl, HR.out⟩

/-- How many nodes, and how many black ones, stand from a node up. -/
inductive Deep (T : TS) : Int → Nat → Nat → Prop
  | none : Deep T (-1) 0 0
  | go {i p : Int} {m k : Nat} (hi : T.ok i) (hp : (T.nd i).p = p) (rest : Deep T p m k) : Deep T i (m + 1) (k + if (T.nd i).red then 0 else 1)
theorem Deep.le {T : TS} {i : Int} {m k : Nat} (h : Deep T i m k) : k ≤ m := by
  induction h with
  | none => exact Nat.le_refl _
  | go hi hp rest ih => split <;> omega

set_option maxHeartbeats 1000000 in
set_option maxRecDepth 100000 in
theorem deep_k {i : Int} {m k : Nat} (H : Tree w b h T) (hd : Deep T i m k) (hm : m < 4611686018427387904) (hk : R (.returned (.tuple #[.int .i64 m, .int .i64 k])) w) :
    Calls Try.prog 47 #[.pointer (some ⟨h.t, 0, none⟩), .int .i64 i] w R := by
  have hkm := hd.le
  have HD := Lib.hid hd
  clear hd
  go_enter Try.func47, Try.ntmps47
  go_wp2_with fail
  go_loopg [1, 6, 7] m (fun q v1 v6 v7 wr => ∃ (j : Int) (x y q2 : Nat), v1 = .int .i64 j ∧ v6 = .int .i64 x ∧ v7 = .int .i64 y ∧ wr = w ∧ Deep T j q q2 ∧ Hid (x + q = m) ∧ Hid (y + q2 = k))
  case atStart => exact ⟨i, 0, 0, k, rfl, rfl, rfl, rfl, HD.out, Lib.hid (by omega), Lib.hid (by omega)⟩
  case round =>
    clear HD
    obtain ⟨j, x, y, q2, rfl, rfl, rfl, rfl, he, hx, hy⟩ := hrel
    cases he with
    | none =>
      obtain rfl : x = m := by have := hx.out; omega
      obtain rfl : y = k := by have := hy.out; omega
      go_wp2
      exact hk
    | @go _ p m1 k1 hi hp rest =>
      have hxm : x < m := by have := hx.out; omega
      have hyx : y < 4611686018427387904 := by have := hy.out; omega
      have hni : (j != -1) = true := by have := hi.1; rw [bne_iff_ne]; omega
      have hc := H.c_p hi
      rw [hp] at hc
      have HR := Lib.hid rest
      clear rest hp
      have hi' : j = -1 ∨ T.ok j := .inr hi
      have hred : T.isRed j = (T.nd j).red := by simp [TS.isRed, hni]
      cases hc2 : (T.nd j).red
      · have hr' : Hid (T.isRed j = false) := Lib.hid (hred.trans hc2)
        rw [hc2] at hy
        clear hred hc2
        go_wp2_with (first | (go_at_call 36; refine at_k (by assumption) (by assumption) ?_) | (go_at_call 43; refine red_k (by assumption) (by assumption) (by assumption) ?_))
        go_roundg m1
        case measure => omega
        case rel => exact ⟨_, x + 1, y + 1, k1, rfl, by go_num, by go_num, rfl, HR.out, Lib.hid (by have := hx.out; omega), Lib.hid (by have := hy.out; simp at this; omega)⟩
      · have hr' : Hid (T.isRed j = true) := Lib.hid (hred.trans hc2)
        rw [hc2] at hy
        clear hred hc2
        go_wp2_with (first | (go_at_call 36; refine at_k (by assumption) (by assumption) ?_) | (go_at_call 43; refine red_k (by assumption) (by assumption) (by assumption) ?_))
        go_roundg m1
        case measure => omega
        case rel => exact ⟨_, x + 1, y, k1, rfl, by go_num, rfl, rfl, HR.out, Lib.hid (by have := hx.out; omega), Lib.hid (by have := hy.out; simp at this; omega)⟩

inductive Climb (T : TS) (s : Bool) : Nat → Int → Int → Int → Prop
  | root {i : Int} : Climb T s 0 i (-1) (-1)
  | stop {i p : Int} (hp : T.ok p) (hs : sideT T i p = !s) : Climb T s 0 i p p
  | go {n : Nat} {i p q r : Int} (hp : T.ok p) (hs : sideT T i p = s) (hq : (T.nd p).p = q) (rest : Climb T s n p q r) : Climb T s (n + 1) i p r
/-- The node beside one. -/
def Next (T : TS) (s : Bool) (i r : Int) : Prop :=
  (∃ j, T.kid i s = j ∧ j ≠ -1 ∧ ∃ m, End T (!s) m j r) ∨ (T.kid i s = -1 ∧ ∃ p, (T.nd i).p = p ∧ ∃ m, Climb T s m i p r)
set_option maxHeartbeats 1000000 in
set_option maxRecDepth 100000 in
theorem next0_k {i r : Int} (H : Tree w b h T) (hi : T.ok i) (hr : Next T false i r) (hk : ∀ w', Below w.heap.size w w' → R (.returned (.int .i64 r)) w') :
    Calls Try.prog 66 #[.pointer (some ⟨h.t, 0, none⟩), .int .i64 i, .int .i64 0] w R := by
  have HK := Lib.hid hk
  clear hk
  rcases hr with ⟨j, hj, hn, m, he⟩ | ⟨hj, p, hp, m, hc⟩
  · have hx := Tree.c_l H hi
    have hj' : (T.nd i).l = j := hj
    rw [hj'] at hx
    have hnj : (j != -1) = true := bne_iff_ne.2 hn
    clear hj hj' hn
    have HE := Lib.hid he
    clear he
    go_enter Try.func66, Try.ntmps66
    go_wp2_with (first | (go_at_call 36; refine at_k H hi ?_) | (go_at_call 40; refine end1_k H HE.out ?_))
    exact HK.out _ (Below.refl _ _)
  · have hx := Tree.c_l H hi
    have hj' : (T.nd i).l = -1 := hj
    rw [hj'] at hx
    have hcp := H.c_p hi
    rw [hp] at hcp
    clear hj hj' hp
    have HC := Lib.hid hc
    clear hc
    go_enter Try.func66, Try.ntmps66
    go_wp2_with (go_at_call 36; refine at_k H hi ?_)
    go_loopg [1, 8] m (fun k v1 v8 wr => ∃ (i1 p1 : Int), v1 = .int .i64 i1 ∧ v8 = .int .i64 p1 ∧ Below w.heap.size w wr ∧ Climb T false k i1 p1 r)
    case atStart => exact ⟨i, p, rfl, rfl, Below.refl _ _, HC.out⟩
    case round =>
      clear HC
      obtain ⟨i1, p1, rfl, rfl, hB, hc⟩ := hrel
      have H1 := H.below hB
      cases hc with
      | root =>
        go_wp2
        exact HK.out _ hB
      | stop hq hs =>
        have hnp : (r != -1) = true := by have := hq.1; rw [bne_iff_ne]; omega
        have hS : Hid (sideI (sideT T i1 r) = 1) := Lib.hid (by rw [hs]; rfl)
        clear hs
        go_wp2_with (go_at_call 57; refine side_k H1 hq hS ?_)
        exact HK.out _ hB
      | @go m _ _ p2 _ hq hs hp2 rest =>
        have hnp : (p1 != -1) = true := by have := hq.1; rw [bne_iff_ne]; omega
        have hS : Hid (sideI (sideT T i1 p1) = 0) := Lib.hid (by rw [hs]; rfl)
        have hc2 := H1.c_p hq
        rw [hp2] at hc2
        clear hs hp2
        have HR := Lib.hid rest
        clear rest
        have HA : Hid (∀ n : Nat, Calls Try.prog 36 #[.pointer (some ⟨h.t, 0, none⟩), .int .i64 p1] (wr.drewN n) fun e w' => e = .returned (.pointer (some ⟨h.g, p1.toNat * 10, none⟩)) ∧ w' = wr.drewN n) :=
          Lib.hid (fun n => (at_calls (H1.drewN n) hq).mono fun e w' h => ⟨h.1, h.2.symm⟩)
        go_wp2_with (go_at_call 57; refine side_k H1 hq hS ?_)
        go_quiet ((go_at_call 36; exact Calls.quiet_of_same (HA.out _)))
        go_wp2
        go_roundg m
        case measure => omega
        case rel => exact ⟨_, _, rfl, rfl, hB.trans ((Fr.drewN (fun _ => False) wr nq).below hB.size (fun _ h => h.elim)), HR.out⟩
set_option maxHeartbeats 1000000 in
set_option maxRecDepth 100000 in
theorem next1_k {i r : Int} (H : Tree w b h T) (hi : T.ok i) (hr : Next T true i r) (hk : ∀ w', Below w.heap.size w w' → R (.returned (.int .i64 r)) w') :
    Calls Try.prog 66 #[.pointer (some ⟨h.t, 0, none⟩), .int .i64 i, .int .i64 1] w R := by
  have HK := Lib.hid hk
  clear hk
  rcases hr with ⟨j, hj, hn, m, he⟩ | ⟨hj, p, hp, m, hc⟩
  · have hx := Tree.c_r H hi
    have hj' : (T.nd i).r = j := hj
    rw [hj'] at hx
    have hnj : (j != -1) = true := bne_iff_ne.2 hn
    clear hj hj' hn
    have HE := Lib.hid he
    clear he
    go_enter Try.func66, Try.ntmps66
    go_wp2_with (first | (go_at_call 36; refine at_k H hi ?_) | (go_at_call 40; refine end0_k H HE.out ?_))
    exact HK.out _ (Below.refl _ _)
  · have hx := Tree.c_r H hi
    have hj' : (T.nd i).r = -1 := hj
    rw [hj'] at hx
    have hcp := H.c_p hi
    rw [hp] at hcp
    clear hj hj' hp
    have HC := Lib.hid hc
    clear hc
    go_enter Try.func66, Try.ntmps66
    go_wp2_with (go_at_call 36; refine at_k H hi ?_)
    go_loopg [1, 8] m (fun k v1 v8 wr => ∃ (i1 p1 : Int), v1 = .int .i64 i1 ∧ v8 = .int .i64 p1 ∧ Below w.heap.size w wr ∧ Climb T true k i1 p1 r)
    case atStart => exact ⟨i, p, rfl, rfl, Below.refl _ _, HC.out⟩
    case round =>
      clear HC
      obtain ⟨i1, p1, rfl, rfl, hB, hc⟩ := hrel
      have H1 := H.below hB
      cases hc with
      | root =>
        go_wp2
        exact HK.out _ hB
      | stop hq hs =>
        have hnp : (r != -1) = true := by have := hq.1; rw [bne_iff_ne]; omega
        have hS : Hid (sideI (sideT T i1 r) = 0) := Lib.hid (by rw [hs]; rfl)
        clear hs
        go_wp2_with (go_at_call 57; refine side_k H1 hq hS ?_)
        exact HK.out _ hB
      | @go m _ _ p2 _ hq hs hp2 rest =>
        have hnp : (p1 != -1) = true := by have := hq.1; rw [bne_iff_ne]; omega
        have hS : Hid (sideI (sideT T i1 p1) = 1) := Lib.hid (by rw [hs]; rfl)
        have hc2 := H1.c_p hq
        rw [hp2] at hc2
        clear hs hp2
        have HR := Lib.hid rest
        clear rest
        have HA : Hid (∀ n : Nat, Calls Try.prog 36 #[.pointer (some ⟨h.t, 0, none⟩), .int .i64 p1] (wr.drewN n) fun e w' => e = .returned (.pointer (some ⟨h.g, p1.toNat * 10, none⟩)) ∧ w' = wr.drewN n) :=
          Lib.hid (fun n => (at_calls (H1.drewN n) hq).mono fun e w' h => ⟨h.1, h.2.symm⟩)
        go_wp2_with (go_at_call 57; refine side_k H1 hq hS ?_)
        go_quiet ((go_at_call 36; exact Calls.quiet_of_same (HA.out _)))
        go_wp2
        go_roundg m
        case measure => omega
        case rel => exact ⟨_, _, rfl, rfl, hB.trans ((Fr.drewN (fun _ => False) wr nq).below hB.size (fun _ h => h.elim)), HR.out⟩
end
end Go.Proofs.Ytkajknicgabdkaa

/-
  Walk of the law RbtreeAll.
-/
import Derived.Test.YtkajknicgabdkaaRb
namespace Go.Proofs.Ytkajknicgabdkaa
open Go.RowKit
attribute [local go_sem high] eqCut eqSpan eqSeg
section
variable {w w0 : World} {tt : Nat} {T : TS} {t : Tr} {v : Value} {L : List Seg} {R : Ending → World → Prop}
theorem SRDo {room : Int} {o : Opn} {L' : List Seg} {x : Bool} {e : Int} (X : LS room w0 tt w v L) (hp : doR room L o = (L', x, e)) (hk : ∀ w' A c, LS1 room w0 tt w' (.slice A L'.length c) L L' → Below w.heap.size w w' → R (.returned (.tuple #[.slice A L'.length c, .bool x, .int .i64 e])) w') :
    Calls Try.prog 25 #[v, .int .i64 room, .agg #[.int .i64 o.kind, .int .i64 o.s.ls, .int .i64 o.s.la, .int .i64 o.s.hs, .int .i64 o.s.ha, .int .i64 o.s.v]] w R := by
  have hn := X.ln
  obtain ⟨T, t, h1, h2, h3⟩ := X
  refine LRDo (room := room) (o := o) h1 hn (fun w' v' X' hb => ?_)
  rw [hp] at *
  obtain ⟨A, c, rfl, -⟩ := owns_slice X'.row
  exact hk w' A c ⟨T, t, X', h2, h3⟩ hb
theorem SDoes {room : Int} {o : Opn} {L' : List Seg} {x : Bool} {e : Int} (X : LS1 room w0 tt w v L L') (hp : doR room L o = (L', x, e)) (hk : ∀ w', LS room w0 tt w' v L' → R (.returned (.tuple #[.bool x, .int .i64 e])) w') :
    Calls Try.prog 17 #[.pointer (some ⟨tt, 0, none⟩), .agg #[.int .i64 o.kind, .int .i64 o.s.ls, .int .i64 o.s.la, .int .i64 o.s.hs, .int .i64 o.s.ha, .int .i64 o.s.v]] w R := by
  obtain ⟨T, t, h1, h2, rfl⟩ := X
  refine LDoes h1 (fun w' T' t' X' e1 e2 => ?_)
  rw [h2, hp] at *
  exact hk w' ⟨T', t', X', e2, e1⟩
theorem SRoom {room : Int} (X : LS room w0 tt w v L) (hk : R (.returned (.int .i64 room)) w) : Calls Try.prog 24 #[.pointer (some ⟨tt, 0, none⟩)] w R := by
  obtain ⟨T, t, h1, rfl, h3⟩ := X
  exact LRoom h1 hk
theorem SLen {room : Int} (X : LS room w0 tt w v L) (hk : ∀ w', LS room w0 tt w' v L → R (.returned (.int .i64 L.length)) w') : Calls Try.prog 20 #[.pointer (some ⟨tt, 0, none⟩)] w R := by
  have Y := X
  obtain ⟨T, t, h1, h2, rfl⟩ := X
  exact LLen h1 (fun w' hb => hk w' (Y.below hb))
theorem LSnew {room : Int} (hb : Below w0.heap.size w0 w) (h0 : 0 ≤ room) (h1 : room ≤ 4096) (hk : ∀ w' tt, LS room w0 tt w' (.slice none 0 0) [] → R (.returned (.tuple #[.pointer (some ⟨tt, 0, none⟩), .int .i64 0])) w') : Calls Try.prog 7 #[.int .i64 room] w R :=
  LNew room hb h0 h1 (fun w' tt X => hk w' tt ⟨_, _, X, rfl, rfl⟩)
set_option maxHeartbeats 4000000 in
set_option maxRecDepth 100000 in
theorem all_walk (room : Int) (A0 : Option Addr) (cap0 : Nat) (z0 : List Opn) (w : World) (h0 : OpRow w A0 z0) :
    Calls Try.prog 6 #[.int .i64 room, .slice A0 z0.length cap0] w fun e w' => e = .returned (.bool true) ∧ Below w.heap.size w w' := by
  by_cases hs : z0.length ≤ 200
  · have hs' : decide ((200 : Int) < (z0.length : Int)) = false := decide_eq_false (by omega)
    by_cases hr : 0 ≤ room ∧ room ≤ 4096
    · have hr1 : decide (room < 0) = false := decide_eq_false (by omega)
      have hr2 : decide (4096 < room) = false := decide_eq_false (by omega)
      have H0 := Lib.hid h0
      have HR := Lib.hid hr
      clear h0 hr
      go_enter Try.func6, Try.ntmps6
      go_wp2_with (first
        | (go_at_call 7; refine LSnew (Below.refl _ _) HR.out.1 HR.out.2 (fun w1 tt X1 => ?_); have HX := Lib.hid X1; clear X1)
        | (go_at_call 24; refine SRoom HX.out ?_))
      go_loopg [7, 53] z0.length (fun q v7 v53 wr => ∃ (i : Nat) (L : List Seg), v53 = .int .i64 i ∧ q = z0.length - i ∧ i ≤ z0.length ∧ LS room w tt wr v7 L)
      case atStart => exact ⟨0, [], rfl, by simp, by omega, HX.out⟩
      case round =>
        clear HX
        obtain ⟨i, L, rfl, hq, hi, X⟩ := hrel
        have HX := Lib.hid X
        clear X
        by_cases hlt : i < z0.length
        · obtain ⟨b0, off0, rfl, hc0⟩ := H0.out (by intro e; rw [e] at hlt; simp at hlt)
          have hx := List.getElem?_eq_getElem hlt
          generalize z0[i] = o at hx
          have hc := hc0 i o hx
          have hbl := World.block_lt_of_cell? _ _ hc.1
          have hcc := fun k => (HX.out.bel.cell (p := ⟨b0, off0 + i * 6 + k, none⟩) hbl)
          obtain ⟨y0, y1, y2, y3, y4, y5⟩ := hc
          replace y0 := (HX.out.bel.cell (p := ⟨b0, off0 + i * 6, none⟩) hbl).trans y0
          replace y1 := (hcc 1).trans y1
          replace y2 := (hcc 2).trans y2
          replace y3 := (hcc 3).trans y3
          replace y4 := (hcc 4).trans y4
          replace y5 := (hcc 5).trans y5
          replace hbl : b0 < wr.heap.size := World.block_lt_of_cell? _ _ y0
          clear hc0 hx hcc
          rcases hp : doR room L o with ⟨L', x, e⟩
          have HP := Lib.hid hp
          clear hp
          go_upto_region 15 with (first
            | (go_at_call 25; refine SRDo (o := o) (HX.out.below ?hbb) HP.out (fun w3 A3 c3 X3 hb3 => ?_); rotate_left; replace HX := Lib.hid X3; obtain ⟨hc3, hf3⟩ := bcell hb3; have hz3 := hb3.size; simp at hz3; clear X3 hb3)
            | (go_at_call 17; refine SDoes (o := o) HX.out HP.out (fun w4 X4 => ?_); replace HX := Lib.hid X4; clear X4))
          case hbb =>
            (repeat (first | exact Below.refl _ _ | refine Below.setCell ?_ (by first | omega | (simp; done) | (simp; omega)) _ | refine Below.drew ?_ | refine Below.alloc ?_ (by first | omega | (simp; done) | (simp; omega)) _ | (refine Below.trans ?_ (Below.mono (by assumption) (by first | omega | (simp; done) | (simp; omega))))))
          clear y0 y1 y2 y3 y4 y5 hc3 hf3 hz3 hbl
          go_wp2_with (first
            | (go_at_call 16; (with_reducible refine SAll HX.out (fun v4 w4 X4 hr4 => ?_)); replace HX := Lib.hid X4; clear X4)
            | (go_at_call 15; (with_reducible refine SSame HX.out hr4 (fun w5 X5 => ?_)); replace HX := Lib.hid X5; clear X5)
            | (go_at_call 20; (with_reducible refine SLen HX.out (fun w5 X5 => ?_)); replace HX := Lib.hid X5; clear X5))
          go_roundg (z0.length - (i + 1))
          case measure => omega
          case rel => exact ⟨i + 1, L', by simp, rfl, by omega, HX.out⟩
        · go_wp2_with (go_at_call 8; refine alive_k (fun w3 hb3 => ?_); replace HX := Lib.hid (HX.out.below hb3); clear hb3)
          go_ret
          exact ⟨rfl, HX.out.bel⟩
    · have HR := Lib.hid hr
      by_cases hr3 : room < 0
      · have hr1 : decide (room < 0) = true := decide_eq_true hr3
        clear hr hr3 h0
        go_enter Try.func6, Try.ntmps6
        go_wp2_with (first
          | (go_at_call 7; refine New_bad room HR.out ?_)
          | (go_at_call 8; refine alive_k (fun w3 hb3 => ?_)))
        go_ret
        exact ⟨rfl, hb3⟩
      · have hr1 : decide (room < 0) = false := decide_eq_false hr3
        have hr2 : decide (4096 < room) = true := decide_eq_true (by omega)
        clear hr hr3 h0
        go_enter Try.func6, Try.ntmps6
        go_wp2_with (first
          | (go_at_call 7; refine New_bad room HR.out ?_)
          | (go_at_call 8; refine alive_k (fun w3 hb3 => ?_)))
        go_ret
        exact ⟨rfl, hb3⟩
  · have hs' : decide ((200 : Int) < (z0.length : Int)) = true := decide_eq_true (by omega)
    clear h0
    go_enter Try.func6, Try.ntmps6
    go_wp2_with (go_at_call 8; refine alive_k (fun w3 hb3 => ?_))
    go_ret
    exact ⟨rfl, hb3⟩
end
end Go.Proofs.Ytkajknicgabdkaa

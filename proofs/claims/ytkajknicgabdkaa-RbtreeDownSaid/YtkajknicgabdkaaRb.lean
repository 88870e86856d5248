/-
  Walk of the law RbtreeChecks.
-/
import Derived.Test.YtkajknicgabdkaaRa
namespace Go.Proofs.Ytkajknicgabdkaa
open Go.RowKit
attribute [local go_sem high] eqCut eqSpan eqSeg
section
variable {w w0 : World} {tt : Nat} {T : TS} {t : Tr} {v : Value} {L : List Seg} {R : Ending → World → Prop}
/-- A slice of calls that came in. -/
def OpRow (w : World) (A : Option Addr) (os : List Opn) : Prop := os ≠ [] → ∃ b off, A = some ⟨b, off, none⟩ ∧ ∀ j o, os[j]? = some o →
  w.cell? ⟨b, off + j * 6, none⟩ = some (.int .i64 o.kind) ∧ w.cell? ⟨b, off + j * 6 + 1, none⟩ = some (.int .i64 o.s.ls) ∧ w.cell? ⟨b, off + j * 6 + 2, none⟩ = some (.int .i64 o.s.la) ∧
  w.cell? ⟨b, off + j * 6 + 3, none⟩ = some (.int .i64 o.s.hs) ∧ w.cell? ⟨b, off + j * 6 + 4, none⟩ = some (.int .i64 o.s.ha) ∧ w.cell? ⟨b, off + j * 6 + 5, none⟩ = some (.int .i64 o.s.v)
theorem bitsR_le : ∀ (f n : Nat), bitsR f n ≤ f
  | 0, _ => Nat.le_refl _
  | f + 1, n => by
    unfold bitsR
    split
    · omega
    · have := bitsR_le f (n / 2); omega
theorem SBits {n : Int} {m : Nat} (hm : m ≤ 65536) (hn : n = (m : Int) + 1) (hk : R (.returned (.int .i64 (bitsR 17 (m + 1)))) w) : Calls Try.prog 19 #[.int .i64 n] w R := by
  subst hn
  have := Bits_k (w := w) (R := R) 17 (m + 1) (by omega) (by omega) hk
  simpa using this
def LQ (room : Int) (w0 : World) (tt : Nat) (w : World) (n hh : Nat) : Prop := ∃ T t, LI w0 tt w T t (.slice none 0 0) [] ∧ T.room = room ∧ t.inord.length = n ∧ t.ht = hh
theorem LQ.bel {room : Int} {n hh : Nat} (X : LQ room w0 tt w n hh) : Below w0.heap.size w0 w := by obtain ⟨T, t, h1, -⟩ := X; exact h1.bel
theorem LQ.below {room : Int} {n hh : Nat} {w' : World} (X : LQ room w0 tt w n hh) (hb : Below w.heap.size w w') : LQ room w0 tt w' n hh := by
  obtain ⟨T, t, h1, h2⟩ := X
  exact ⟨T, t, h1.below hb, h2⟩
theorem LQ.facts {room : Int} {n hh : Nat} (X : LQ room w0 tt w n hh) : n ≤ 65536 ∧ hh ≤ 2 * bitsR 17 (n + 1) ∧ (hh = 0 ↔ n = 0) := by
  obtain ⟨T, t, h1, h2, rfl, rfl⟩ := X
  have := h1.ln
  have h3 := h1.inv.ht_le (f := 17) (by omega)
  exact ⟨this, h3.1, h3.2⟩
theorem CDoes {room : Int} {n hh : Nat} {o : Opn} (X : LQ room w0 tt w n hh) (hk : ∀ w' n' hh' x e, LQ room w0 tt w' n' hh' → R (.returned (.tuple #[.bool x, .int .i64 e])) w') :
    Calls Try.prog 17 #[.pointer (some ⟨tt, 0, none⟩), .agg #[.int .i64 o.kind, .int .i64 o.s.ls, .int .i64 o.s.la, .int .i64 o.s.hs, .int .i64 o.s.ha, .int .i64 o.s.v]] w R := by
  obtain ⟨T, t, h1, h2, h3⟩ := X
  exact LDoes h1 (fun w' T' t' X' e1 e2 => hk w' _ _ _ _ ⟨T', t', X', e2.trans h2, rfl, rfl⟩)
theorem CCheck {room : Int} {n hh : Nat} (X : LQ room w0 tt w n hh) (hk : ∀ w', LQ room w0 tt w' n hh → R (.returned (.bool true)) w') : Calls Try.prog 14 #[.pointer (some ⟨tt, 0, none⟩)] w R := by
  have Y := X
  obtain ⟨T, t, h1, h2⟩ := X
  exact LCheck h1 (fun w' hb => hk w' (Y.below hb))
theorem CHeight {room : Int} {n hh : Nat} (X : LQ room w0 tt w n hh) (hk : ∀ w', LQ room w0 tt w' n hh → R (.returned (.int .i64 hh)) w') : Calls Try.prog 18 #[.pointer (some ⟨tt, 0, none⟩)] w R := by
  have Y := X
  obtain ⟨T, t, h1, h2, h3, rfl⟩ := X
  exact LHeight h1 (fun w' hb => hk w' (Y.below hb))
theorem CLen {room : Int} {n hh : Nat} (X : LQ room w0 tt w n hh) (hk : ∀ w', LQ room w0 tt w' n hh → R (.returned (.int .i64 n)) w') : Calls Try.prog 20 #[.pointer (some ⟨tt, 0, none⟩)] w R := by
  have Y := X
  obtain ⟨T, t, h1, h2, rfl, h3⟩ := X
  exact LLen h1 (fun w' hb => hk w' (Y.below hb))
theorem LBnew {room : Int} (h0 : 0 ≤ room) (h1 : room ≤ 4096) (hk : ∀ w' tt, LQ room w tt w' 0 0 → R (.returned (.tuple #[.pointer (some ⟨tt, 0, none⟩), .int .i64 0])) w') : Calls Try.prog 7 #[.int .i64 room] w R :=
  LNew (w0 := w) room (Below.refl _ _) h0 h1 (fun w' tt X => hk w' tt ⟨_, _, X, rfl, rfl, rfl⟩)
set_option maxHeartbeats 4000000 in
set_option maxRecDepth 100000 in
theorem checks_walk (room : Int) (A0 : Option Addr) (cap0 : Nat) (z0 : List Opn) (w : World) (h0 : OpRow w A0 z0) :
    Calls Try.prog 4 #[.int .i64 room, .slice A0 z0.length cap0] w fun e w' => e = .returned (.bool true) ∧ Below w.heap.size w w' := by
  by_cases hr : 0 ≤ room ∧ room ≤ 4096
  · by_cases hs : z0.length ≤ 200
    · have hs' : decide ((200 : Int) < (z0.length : Int)) = false := decide_eq_false (by omega)
      have H0 := Lib.hid h0
      have HR := Lib.hid hr
      clear h0 hr
      go_enter Try.func4, Try.ntmps4
      go_wp2_with (go_at_call 7; refine LBnew HR.out.1 HR.out.2 (fun w1 tt X1 => ?_); have HX := Lib.hid X1; clear X1)
      go_loopg [28] z0.length (fun q v28 wr => ∃ (i n hh : Nat), v28 = .int .i64 i ∧ q = z0.length - i ∧ i ≤ z0.length ∧ LQ room w tt wr n hh)
      case atStart => exact ⟨0, 0, 0, rfl, by simp, by omega, HX.out⟩
      case round =>
        clear HX
        obtain ⟨i, n, hh, rfl, hq, hi, X⟩ := hrel
        have HX := Lib.hid X
        clear X
        by_cases hlt : i < z0.length
        · obtain ⟨b0, off0, rfl, hc0⟩ := H0.out (by intro e; rw [e] at hlt; simp at hlt)
          have hx := List.getElem?_eq_getElem hlt
          generalize z0[i] = o at hx
          have hc := hc0 i o hx
          have hbl := World.block_lt_of_cell? _ _ hc.1
          have hcc := fun k => (HX.out.bel.cell (p := ⟨b0, off0 + i * 6 + k, none⟩) hbl)
          obtain ⟨y0, y1, y2, y3, y4, y5⟩ := hc
          replace y0 := (HX.out.bel.cell (p := ⟨b0, off0 + i * 6, none⟩) hbl).trans y0
          replace y1 := (hcc 1).trans y1
          replace y2 := (hcc 2).trans y2
          replace y3 := (hcc 3).trans y3
          replace y4 := (hcc 4).trans y4
          replace y5 := (hcc 5).trans y5
          replace hbl : b0 < wr.heap.size := World.block_lt_of_cell? _ _ y0
          clear hc0 hx hcc
          go_upto_region 8 with (go_at_call 17; refine CDoes (o := o) (HX.out.below ?hbb) (fun w3 n3 hh3 x3 e3 X3 => ?_))
          case hbb =>
            (repeat (first | exact Below.refl _ _ | refine Below.setCell ?_ (by first | omega | (simp; done) | (simp; omega)) _ | refine Below.drew ?_ | refine Below.alloc ?_ (by first | omega | (simp; done) | (simp; omega)) _ | (refine Below.trans ?_ (Below.mono (by assumption) (by first | omega | (simp; done) | (simp; omega))))))
          replace HX := Lib.hid X3
          obtain ⟨f1, f2, f3⟩ := X3.facts
          clear X3 y0 y1 y2 y3 y4 y5
          obtain ⟨B, hB⟩ : ∃ B, B = bitsR 17 (n3 + 1) := ⟨_, rfl⟩
          have hB17 : B ≤ 17 := by rw [hB]; exact bitsR_le _ _
          rw [← hB] at f2
          have HB := Lib.hid hB
          have g1 : decide (2 * (B : Int) < (hh3 : Int)) = false := decide_eq_false (by omega)
          by_cases hn : n3 = 0
          · have hh0 := f3.2 hn
            subst hn hh0
            clear f2 f3 hB
            go_wp2_with (first
              | (go_at_call 14; (with_reducible refine CCheck HX.out (fun w3 X3 => ?_)); replace HX := Lib.hid X3; clear X3)
              | (go_at_call 18; (with_reducible refine CHeight HX.out (fun w3 X3 => ?_)); replace HX := Lib.hid X3; clear X3)
              | (go_at_call 20; (with_reducible refine CLen HX.out (fun w3 X3 => ?_)); replace HX := Lib.hid X3; clear X3)
              | (go_at_call 19; refine SBits f1 (by simp) ?_; rw [← HB.out]))
            go_roundg (z0.length - (i + 1))
            case measure => omega
            case rel => exact ⟨i + 1, _, _, by simp, rfl, by omega, HX.out⟩
          · have hh0 : hh3 ≠ 0 := fun h => hn (f3.1 h)
            have k1 : ((hh3 : Int) == 0) = false := beq_eq_false_iff_ne.2 (by omega)
            have k2 : ((n3 : Int) == 0) = false := beq_eq_false_iff_ne.2 (by omega)
            clear f2 f3 hB hn hh0
            go_wp2_with (first
              | (go_at_call 14; (with_reducible refine CCheck HX.out (fun w3 X3 => ?_)); replace HX := Lib.hid X3; clear X3)
              | (go_at_call 18; (with_reducible refine CHeight HX.out (fun w3 X3 => ?_)); replace HX := Lib.hid X3; clear X3)
              | (go_at_call 20; (with_reducible refine CLen HX.out (fun w3 X3 => ?_)); replace HX := Lib.hid X3; clear X3)
              | (go_at_call 19; refine SBits f1 (by simp) ?_; rw [← HB.out]))
            go_roundg (z0.length - (i + 1))
            case measure => omega
            case rel => exact ⟨i + 1, _, _, by simp, rfl, by omega, HX.out⟩
        · go_wp2_with (go_at_call 8; refine alive_k (fun w3 hb3 => ?_); replace HX := Lib.hid (HX.out.below hb3); clear hb3)
          go_ret
          exact ⟨rfl, HX.out.bel⟩
    · have hs' : decide ((200 : Int) < (z0.length : Int)) = true := decide_eq_true (by omega)
      have HR := Lib.hid hr
      clear hr
      go_enter Try.func4, Try.ntmps4
      go_wp2_with (first
        | (go_at_call 7; refine LBnew HR.out.1 HR.out.2 (fun w1 tt X1 => ?_); have HX := Lib.hid X1; clear X1)
        | (go_at_call 8; refine alive_k (fun w3 hb3 => ?_); replace HX := Lib.hid (HX.out.below hb3); clear hb3))
      go_ret
      exact ⟨rfl, HX.out.bel⟩
  · have HR := Lib.hid hr
    clear hr
    go_enter Try.func4, Try.ntmps4
    go_wp2_with (first
      | (go_at_call 7; refine New_bad room HR.out ?_)
      | (go_at_call 8; refine alive_k (fun w3 hb3 => ?_)))
    go_ret
    exact ⟨rfl, hb3⟩
end
end Go.Proofs.Ytkajknicgabdkaa

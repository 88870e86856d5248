/-
  Walk of the law RbtreeRows.
-/
import Derived.Test.YtkajknicgabdkaaVi
import Derived.OpenShut
namespace Go.Proofs.Ytkajknicgabdkaa
open Go.RowKit
attribute [local go_sem high] eqCut eqSpan eqSeg
section
variable {w w0 : World} {tt : Nat} {T : TS} {t : Tr} {v : Value} {L : List Seg} {R : Ending → World → Prop}
/-- A slice of numbers that came in. -/
def IntRow (w : World) (A : Option Addr) (zs : List Int) : Prop := zs ≠ [] → ∃ b off, A = some ⟨b, off, none⟩ ∧ ∀ j n, zs[j]? = some n → w.cell? ⟨b, off + j, none⟩ = some (.int .i64 n)
/-- A tree and the document's row, that say the same, room for 4096. -/
def LS (room : Int) (w0 : World) (tt : Nat) (w : World) (v : Value) (L : List Seg) : Prop := ∃ T t, LI w0 tt w T t v L ∧ T.room = room ∧ t.inord = L
theorem LS.bel {room : Int} (X : LS room w0 tt w v L) : Below w0.heap.size w0 w := by obtain ⟨T, t, h1, -⟩ := X; exact h1.bel
theorem LS.below {room : Int} {w' : World} (X : LS room w0 tt w v L) (hb : Below w.heap.size w w') : LS room w0 tt w' v L := by
  obtain ⟨T, t, h1, h2⟩ := X
  exact ⟨T, t, h1.below hb, h2⟩
theorem LS.ln {room : Int} (X : LS room w0 tt w v L) : L.length ≤ 65536 := by
  obtain ⟨T, t, h1, h2, rfl⟩ := X
  exact h1.ln
/-- Between the document's call and the tree's: the row is one step ahead. -/
def LS1 (room : Int) (w0 : World) (tt : Nat) (w : World) (v : Value) (L L' : List Seg) : Prop := ∃ T t, LI w0 tt w T t v L' ∧ T.room = room ∧ t.inord = L
theorem LS1.below {room : Int} {w' : World} {L' : List Seg} (X : LS1 room w0 tt w v L L') (hb : Below w.heap.size w w') : LS1 room w0 tt w' v L L' := by
  obtain ⟨T, t, h1, h2⟩ := X
  exact ⟨T, t, h1.below hb, h2⟩
theorem SRPut (n : Int) {L' : List Seg} {e : Int} (X : LS 4096 w0 tt w v L) (hp : putR 4096 (sg n) L = (L', e)) (hk : ∀ w' v', LS1 4096 w0 tt w' v' L L' → R (.returned (.tuple #[v', .int .i64 e])) w') :
    Calls Try.prog 9 #[v, .int .i64 4096, .agg #[.int .i64 0, .int .i64 n, .int .i64 0, .int .i64 0, .int .i64 n]] w R := by
  have hn := X.ln
  obtain ⟨T, t, h1, h2, h3⟩ := X
  refine LRPut (room := 4096) (s := sg n) h1 hn (fun w' v' X' hb => ?_)
  rw [hp] at *
  exact hk w' v' ⟨T, t, X', h2, h3⟩
theorem SPut (n : Int) {L' : List Seg} {e : Int} (X : LS1 4096 w0 tt w v L L') (hp : putR 4096 (sg n) L = (L', e)) (hk : ∀ w', LS 4096 w0 tt w' v L' → R (.returned (.int .i64 e)) w') :
    Calls Try.prog 11 #[.pointer (some ⟨tt, 0, none⟩), .agg #[.int .i64 0, .int .i64 n, .int .i64 0, .int .i64 0, .int .i64 n]] w R := by
  obtain ⟨T, t, h1, h2, rfl⟩ := X
  refine LPut (s := sg n) h1 (fun w' T' t' X' e1 e2 => ?_)
  rw [h2, hp] at *
  exact hk w' ⟨T', t', X', e2, e1⟩
theorem SRDelete {room : Int} (n : Int) {L' : List Seg} {e : Bool} (X : LS room w0 tt w v L) (hp : delR (0, n) L = (L', e)) (hk : ∀ w' v', LS1 room w0 tt w' v' L L' → R (.returned (.tuple #[v', .bool e])) w') :
    Calls Try.prog 12 #[v, .agg #[.int .i64 0, .int .i64 n]] w R := by
  have hn := X.ln
  obtain ⟨T, t, h1, h2, h3⟩ := X
  refine LRDelete (c := (0, n)) h1 hn (fun w' v' X' hb => ?_)
  rw [hp] at *
  exact hk w' v' ⟨T, t, X', h2, h3⟩
theorem SDelete {room : Int} (n : Int) {L' : List Seg} {e : Bool} (X : LS1 room w0 tt w v L L') (hp : delR (0, n) L = (L', e)) (hk : ∀ w', LS room w0 tt w' v L' → R (.returned (.bool e)) w') :
    Calls Try.prog 13 #[.pointer (some ⟨tt, 0, none⟩), .agg #[.int .i64 0, .int .i64 n]] w R := by
  obtain ⟨T, t, h1, h2, rfl⟩ := X
  refine LDelete (c := (0, n)) h1 (fun w' T' t' X' e1 e2 => ?_)
  rw [hp] at *
  exact hk w' ⟨T', t', X', e2.trans h2, e1⟩
theorem SCheck {room : Int} (X : LS room w0 tt w v L) (hk : ∀ w', LS room w0 tt w' v L → R (.returned (.bool true)) w') : Calls Try.prog 14 #[.pointer (some ⟨tt, 0, none⟩)] w R := by
  have Y := X
  obtain ⟨T, t, h1, h2, rfl⟩ := X
  exact LCheck h1 (fun w' hb => hk w' (Y.below hb))
theorem SAll {room : Int} (X : LS room w0 tt w v L) (hk : ∀ v' w', LS room w0 tt w' v L → SRow w' w.heap.size v' L → R (.returned v') w') : Calls Try.prog 16 #[.pointer (some ⟨tt, 0, none⟩)] w R := by
  have Y := X
  obtain ⟨T, t, h1, h2, rfl⟩ := X
  exact LAll h1 (fun v' w' h3 hb => hk v' w' (Y.below hb) h3)
theorem SSame {room : Int} {b1 : Nat} {v' : Value} (X : LS room w0 tt w v L) (hr : SRow w b1 v' L) (hk : ∀ w', LS room w0 tt w' v L → R (.returned (.bool true)) w') : Calls Try.prog 15 #[v', v] w R := by
  have Y := X
  have hn := X.ln
  obtain ⟨T, t, h1, h2, h3⟩ := X
  exact Same_k hr h1.row hn (fun w' hb => hk w' (Y.below hb))

set_option maxHeartbeats 4000000 in
set_option maxRecDepth 100000 in
theorem rows_walk (A0 : Option Addr) (cap0 : Nat) (z0 : List Int) (A1 : Option Addr) (cap1 : Nat) (z1 : List Int) (w : World) (h0 : IntRow w A0 z0) (h1 : IntRow w A1 z1) (hl0 : z0.length ≤ 1000000000000000) (hl1 : z1.length ≤ 1000000000000000) :
    Calls Try.prog 3 #[.slice A0 z0.length cap0, .slice A1 z1.length cap1] w fun e w' => e = .returned (.bool true) ∧ Below w.heap.size w w' := by
  by_cases hs : z0.length + z1.length ≤ 300
  · have hs' : decide ((300 : Int) < (z0.length : Int) + (z1.length : Int)) = false := decide_eq_false (by omega)
    have H0 := Lib.hid h0
    have H1 := Lib.hid h1
    clear h0 h1
    go_enter Try.func3, Try.ntmps3
    go_wp2_with (go_at_call 7; refine LNew (w0 := w) 4096 (Below.refl _ _) (by decide) (by decide) (fun w1 tt X1 => ?_); have HX : Hid (LS 4096 w tt w1 (.slice none 0 0) []) := Lib.hid ⟨_, _, X1, rfl, rfl⟩; clear X1)
    go_loopg [7, 45] z0.length (fun q v7 v45 wr => ∃ (i : Nat) (L : List Seg), v45 = .int .i64 i ∧ q = z0.length - i ∧ i ≤ z0.length ∧ LS 4096 w tt wr v7 L)
    case atStart => exact ⟨0, [], rfl, by simp, by omega, HX.out⟩
    case round =>
      clear HX
      obtain ⟨i, L, rfl, hq, hi, X⟩ := hrel
      have HX := Lib.hid X
      clear X
      by_cases hlt : i < z0.length
      · obtain ⟨b0, off0, rfl, hc0⟩ := H0.out (by intro e; rw [e] at hlt; simp at hlt)
        have hx := List.getElem?_eq_getElem hlt
        generalize z0[i] = n at hx
        have hc := hc0 i n hx
        replace hc := (HX.out.bel.cell (p := ⟨b0, off0 + i, none⟩) (World.block_lt_of_cell? _ _ hc)).trans hc
        clear hc0 hx
        rcases hp : putR 4096 (sg n) L with ⟨L', e⟩
        have HP := Lib.hid hp
        clear hp
        go_wp2_with (first
          | (go_at_call 10; refine seg_k _ (fun w2 hb2 => ?_); replace HX := Lib.hid (HX.out.below hb2); clear hb2)
          | (go_at_call 9; (with_reducible refine SRPut n HX.out HP.out (fun w3 v3 X3 => ?_)); replace HX := Lib.hid X3; clear X3)
          | (go_at_call 11; (with_reducible refine SPut n HX.out HP.out (fun w3 X3 => ?_)); replace HX := Lib.hid X3; clear X3))
        go_roundg (z0.length - (i + 1))
        case measure => omega
        case rel => exact ⟨i + 1, L', by simp, rfl, by omega, HX.out⟩
      · go_wp2_with fail
        go_loopg [7, 66] z1.length (fun q v7 v66 wr => ∃ (i : Nat) (L : List Seg), v66 = .int .i64 i ∧ q = z1.length - i ∧ i ≤ z1.length ∧ LS 4096 w tt wr v7 L)
        case atStart => exact ⟨0, L, rfl, by simp, by omega, HX.out⟩
        case round =>
          clear HX hlt hq hi
          obtain ⟨i, L, rfl, hq, hi, X⟩ := hrel
          have HX := Lib.hid X
          clear X
          by_cases hlt : i < z1.length
          · obtain ⟨b0, off0, rfl, hc0⟩ := H1.out (by intro e; rw [e] at hlt; simp at hlt)
            have hx := List.getElem?_eq_getElem hlt
            generalize z1[i] = n at hx
            have hc := hc0 i n hx
            replace hc := (HX.out.bel.cell (p := ⟨b0, off0 + i, none⟩) (World.block_lt_of_cell? _ _ hc)).trans hc
            clear hc0 hx
            rcases hp : delR (0, n) L with ⟨L', e⟩
            have HP := Lib.hid hp
            clear hp
            go_wp2_with (first
              | (go_at_call 12; (with_reducible refine SRDelete n HX.out HP.out (fun w3 v3 X3 => ?_)); replace HX := Lib.hid X3; clear X3)
              | (go_at_call 13; (with_reducible refine SDelete n HX.out HP.out (fun w3 X3 => ?_)); replace HX := Lib.hid X3; clear X3)
              | (go_at_call 14; (with_reducible refine SCheck HX.out (fun w3 X3 => ?_)); replace HX := Lib.hid X3; clear X3))
            go_roundg (z1.length - (i + 1))
            case measure => omega
            case rel => exact ⟨i + 1, L', by simp, rfl, by omega, HX.out⟩
          · go_wp2_with (first
              | (go_at_call 8; refine alive_k (fun w3 hb3 => ?_); replace HX := Lib.hid (HX.out.below hb3); clear hb3)
              | (go_at_call 16; (with_reducible refine SAll HX.out (fun v4 w4 X4 hr4 => ?_)); replace HX := Lib.hid X4; clear X4)
              | (go_at_call 15; (with_reducible refine SSame HX.out hr4 (fun w5 X5 => ?_)); replace HX := Lib.hid X5; clear X5))
            go_ret
            exact ⟨rfl, HX.out.bel⟩
  · have hs' : decide ((300 : Int) < (z0.length : Int) + (z1.length : Int)) = true := decide_eq_true (by omega)
    go_enter Try.func3, Try.ntmps3
    go_wp2_with (first
      | (go_at_call 7; refine LNew (w0 := w) 4096 (Below.refl _ _) (by decide) (by decide) (fun w1 tt X1 => ?_); have HX := Lib.hid X1.bel; clear X1)
      | (go_at_call 8; refine alive_k (fun w3 hb3 => ?_); replace HX := Lib.hid (HX.out.trans (hb3.mono HX.out.size)); clear hb3))
    go_ret
    exact ⟨rfl, HX.out⟩
end
end Go.Proofs.Ytkajknicgabdkaa

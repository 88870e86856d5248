/-
  The tree's fine.
-/
import Derived.Test.YtkajknicgabdkaaWh
import Derived.Test.YtkajknicgabdkaaW4
namespace Go.Proofs.Ytkajknicgabdkaa
open Go.RowKit
section
variable {w : World} {b : Nat} {h : Han} {T : TS} {R : Ending → World → Prop}
/-- A child that hangs as it must. -/
def FineS (T : TS) (i : Int) (s : Bool) : Prop := T.kid i s = -1 ∨ (T.ok (T.kid i s) ∧ (T.nd (T.kid i s)).p = i ∧ (T.isRed i = false ∨ T.isRed (T.kid i s) = false))
set_option maxHeartbeats 4000000 in
set_option maxRecDepth 100000 in
theorem fine_k {i : Int} (H : Tree w b h T) (hi : T.ok i) (hl : FineS T i false) (hr : FineS T i true) (hk : R (.returned (.bool true)) w) :
    Calls Try.prog 46 #[.pointer (some ⟨h.t, 0, none⟩), .int .i64 i] w R := by
  have HK := Lib.hid hk
  clear hk
  have yl := H.c_l hi
  have yr := H.c_r hi
  go_enter Try.func46, Try.ntmps46
  go_wp2_with (go_at_call 36; refine at_k H hi ?_)
  clear yl yr
  have i0 : ∀ w, (Instr.index 63 (.agg #[.int .i64 (T.nd i).l, .int .i64 (T.nd i).r]) (.int .i64 0)).run Try.prog w = .ok (.int .i64 (T.nd i).l) w := fun _ => by kernel_rfl
  have i1 : ∀ w, (Instr.index 63 (.agg #[.int .i64 (T.nd i).l, .int .i64 (T.nd i).r]) (.int .i64 1)).run Try.prog w = .ok (.int .i64 (T.nd i).r) w := fun _ => by kernel_rfl
  go_loopg [13] 2 (fun q v wr => wr = w ∧ ((v = .int .i64 0 ∧ q = 2) ∨ (v = .int .i64 1 ∧ q = 1) ∨ (v = .int .i64 2 ∧ q = 0)))
  case atStart => exact ⟨rfl, .inl ⟨rfl, rfl⟩⟩
  case round =>
    obtain ⟨rfl, ⟨rfl, rfl⟩ | ⟨rfl, rfl⟩ | ⟨rfl, rfl⟩⟩ := hrel
    · clear hr
      rcases hl with hk | ⟨hok, hp, hr⟩
      · have hk' : (T.nd i).l = -1 := hk
        have hne : ((T.nd i).l != -1) = false := by rw [hk']; rfl
        clear hk hk'
        go_wp2_with fail
        go_roundg 1
        case measure => omega
        case rel => exact ⟨rfl, by simp⟩
      · change T.ok (T.nd i).l at hok
        change (T.nd (T.nd i).l).p = i at hp
        have hne : ((T.nd i).l != -1) = true := by have := hok.1; rw [bne_iff_ne]; omega
        have cp := H.c_p hok
        rw [hp] at cp
        clear hp
        rcases hr with hr | hr
        · have hR := Lib.hid hr
          clear hr
          go_wp2_with (first | (go_at_call 36; refine at_k H hok ?_) | (go_at_call 43; refine red_k H (.inr hi) hR ?_))
          go_roundg 1
          case measure => omega
          case rel => exact ⟨rfl, by simp⟩
        · have hR := Lib.hid hr
          clear hr
          cases hri : T.isRed i
          · have hRi := Lib.hid hri
            clear hri
            go_wp2_with (first | (go_at_call 36; refine at_k H hok ?_) | (go_at_call 43; refine red_k H (.inr hi) hRi ?_))
            go_roundg 1
            case measure => omega
            case rel => exact ⟨rfl, by simp⟩
          · have hRi := Lib.hid hri
            clear hri
            go_wp2_with (first | (go_at_call 36; refine at_k H hok ?_) | (go_at_call 43; refine red_k H (.inr hi) hRi ?_) | (go_at_call 43; refine red_k H (.inr hok) hR ?_))
            go_roundg 1
            case measure => omega
            case rel => exact ⟨rfl, by simp⟩
    · clear hl
      rcases hr with hk | ⟨hok, hp, hr⟩
      · have hk' : (T.nd i).r = -1 := hk
        have hne : ((T.nd i).r != -1) = false := by rw [hk']; rfl
        clear hk hk'
        go_wp2_with fail
        go_roundg 0
        case measure => omega
        case rel => exact ⟨rfl, by simp⟩
      · change T.ok (T.nd i).r at hok
        change (T.nd (T.nd i).r).p = i at hp
        have hne : ((T.nd i).r != -1) = true := by have := hok.1; rw [bne_iff_ne]; omega
        have cp := H.c_p hok
        rw [hp] at cp
        clear hp
        rcases hr with hr | hr
        · have hR := Lib.hid hr
          clear hr
          go_wp2_with (first | (go_at_call 36; refine at_k H hok ?_) | (go_at_call 43; refine red_k H (.inr hi) hR ?_))
          go_roundg 0
          case measure => omega
          case rel => exact ⟨rfl, by simp⟩
        · have hR := Lib.hid hr
          clear hr
          cases hri : T.isRed i
          · have hRi := Lib.hid hri
            clear hri
            go_wp2_with (first | (go_at_call 36; refine at_k H hok ?_) | (go_at_call 43; refine red_k H (.inr hi) hRi ?_))
            go_roundg 0
            case measure => omega
            case rel => exact ⟨rfl, by simp⟩
          · have hRi := Lib.hid hri
            clear hri
            go_wp2_with (first | (go_at_call 36; refine at_k H hok ?_) | (go_at_call 43; refine red_k H (.inr hi) hRi ?_) | (go_at_call 43; refine red_k H (.inr hok) hR ?_))
            go_roundg 0
            case measure => omega
            case rel => exact ⟨rfl, by simp⟩
    · go_wp2
      exact HK.out
end
end Go.Proofs.Ytkajknicgabdkaa

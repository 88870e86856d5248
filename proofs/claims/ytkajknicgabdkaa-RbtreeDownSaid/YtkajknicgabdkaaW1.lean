/-
  Walks of the tree's small functions: At, at, red, side, hang, rotate.
-/
import Derived.Test.YtkajknicgabdkaaMem
import Derived.WalkSpells
import Derived.BigQuiet
import Derived.Deep.QuietTactic
import Derived.StillTailTactics
import Derived.Lib.Hide
namespace Go.Proofs.Ytkajknicgabdkaa
open Go.RowKit
section
variable {w : World} {b : Nat} {h : Han} {T : TS}

theorem At_calls {i : Int} (H : Tree w b h T) (hi : T.ok i) :
    Calls Try.prog 56 #[.pointer (some ⟨h.a, 0, none⟩), .int .i64 i] w fun e w' => e = .returned (.pointer (some ⟨h.g, i.toNat * 10, none⟩)) ∧ w = w' := by
  obtain ⟨cap, h1, h2⟩ := H.lv_form hi
  have hc := H.c_lv
  rw [h1] at hc
  have hu : w.cell? ⟨h.g, i.toNat * 10 + 9, none⟩ = some (.bool true) := by rw [H.c_pl hi 9 (by decide)]; simp [Place.enc, hi.2.2]
  have h0 := hi.1
  have hn := hi.2.1
  clear H hi h1 h2
  go_enter Try.func56, Try.ntmps56
  go_wp2
  go_ret
  exact ⟨rfl, rfl⟩

theorem at_calls {i : Int} (H : Tree w b h T) (hi : T.ok i) :
    Calls Try.prog 36 #[.pointer (some ⟨h.t, 0, none⟩), .int .i64 i] w fun e w' => e = .returned (.pointer (some ⟨h.g, i.toNat * 10, none⟩)) ∧ w = w' := by
  have hc := H.c_arena
  go_enter Try.func36, Try.ntmps36
  go_wp2_with (go_at_call 56; refine (At_calls H hi).mono ?_; rintro e w' ⟨rfl, rfl⟩)
  go_ret
  exact ⟨rfl, rfl⟩

theorem red_calls {i : Int} (H : Tree w b h T) (hi : i = -1 ∨ T.ok i) :
    Calls Try.prog 43 #[.pointer (some ⟨h.t, 0, none⟩), .int .i64 i] w fun e w' => e = .returned (.bool (T.isRed i)) ∧ w = w' := by
  rcases hi with rfl | hi
  · go_enter Try.func43, Try.ntmps43
    go_wp2
    go_ret
    exact ⟨rfl, rfl⟩
  · have hc := H.c_red hi
    have hn : (i != -1) = true := by have := hi.1; rw [bne_iff_ne]; omega
    have hr : T.isRed i = (T.nd i).red := by simp [TS.isRed, hn]
    rw [hr]
    go_enter Try.func43, Try.ntmps43
    go_wp2_with (go_at_call 36; refine (at_calls H hi).mono ?_; rintro e w' ⟨rfl, rfl⟩)
    go_ret
    exact ⟨rfl, rfl⟩

def sideT (T : TS) (i p : Int) : Bool := (T.nd p).l != i
def sideI (x : Bool) : Int := if x then 1 else 0

theorem side_calls {i p n : Int} (H : Tree w b h T) (hp : T.ok p) (hsn : sideI (sideT T i p) = n) :
    Calls Try.prog 57 #[.pointer (some ⟨h.t, 0, none⟩), .int .i64 i, .int .i64 p] w fun e w' => e = .returned (.int .i64 n) ∧ w = w' := by
  subst hsn
  have hc := H.c_l hp
  by_cases hx : (T.nd p).l = i
  · have hb : ((T.nd p).l == i) = true := beq_iff_eq.2 hx
    have hs : sideI (sideT T i p) = 0 := by simp [sideI, sideT, hx]
    rw [hs]
    clear hs hx
    go_enter Try.func57, Try.ntmps57
    go_wp2_with (go_at_call 36; refine (at_calls H hp).mono ?_; rintro e w' ⟨rfl, rfl⟩)
    go_ret
    exact ⟨rfl, rfl⟩
  · have hb : ((T.nd p).l == i) = false := beq_eq_false_iff_ne.2 hx
    have hs : sideI (sideT T i p) = 1 := by simp [sideI, sideT, hx]
    rw [hs]
    clear hs hx
    go_enter Try.func57, Try.ntmps57
    go_wp2_with (go_at_call 36; refine (at_calls H hp).mono ?_; rintro e w' ⟨rfl, rfl⟩)
    go_ret
    exact ⟨rfl, rfl⟩
end
end Go.Proofs.Ytkajknicgabdkaa

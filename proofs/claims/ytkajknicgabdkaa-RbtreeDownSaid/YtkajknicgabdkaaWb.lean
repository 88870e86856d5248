/-
  Walks of the arena's Reset, New, and the tree's New, Clear.
-/
import Derived.Test.YtkajknicgabdkaaWa
namespace Go.Proofs.Ytkajknicgabdkaa
open Go.RowKit
section
variable {w : World} {b : Nat} {h : Han} {T : TS} {R : Ending → World → Prop}
abbrev Han.empty (t a : Nat) : Han := ⟨t, a, .slice none 0 0, .slice none 0 0⟩
theorem ownsRow_nil {W : World} {e : TypeId} {s : Nat} : W.ownsRow b e s (.slice none 0 0) 0 [] := ⟨by simp, .inl ⟨rfl, rfl⟩⟩

theorem Tree.reset (H : Tree w b h T) :
    Tree ((w.setCell ⟨h.a, 1, none⟩ (.slice none 0 0)).setCell ⟨h.a, 2, none⟩ (.slice none 0 0)) b (Han.empty h.t h.a) { T with ps := [], free := [] } ∧
      Out h (Han.empty h.t h.a) w ((w.setCell ⟨h.a, 1, none⟩ (.slice none 0 0)).setCell ⟨h.a, 2, none⟩ (.slice none 0 0)) := by
  have F : Fr (fun k => k = h.a) w ((w.setCell ⟨h.a, 1, none⟩ (.slice none 0 0)).setCell ⟨h.a, 2, none⟩ (.slice none 0 0)) := (Fr.setCell (S := fun k => k = h.a) _ _ _ rfl).trans (Fr.setCell (S := fun k => k = h.a) _ _ _ rfl)
  refine ⟨⟨?_, ?_, ownsRow_nil, ownsRow_nil, H.ta, ?_, ?_, ?_, ?_, ?_, H.tb, H.ab, H.rm, Nat.zero_le _, Nat.le_refl _⟩, ⟨F.mono (fun k hk => .inr (.inl hk)), ?_, rfl, rfl⟩⟩
  · rw [F.block _ (lt_of_heap H.ht) (fun e => H.ta e)]; exact H.ht
  · simpa using setCell_block (i := 2) (v := .slice none 0 0) (setCell_block (i := 1) (v := .slice none 0 0) H.ha)
  · intro e; cases e
  · intro e; cases e
  · intro e; cases e
  · intro e; cases e
  · intro k e; cases e
  · intro k hk
    rcases hk with hk | hk | hk | hk
    · exact .inl (.inl hk)
    · exact .inl (.inr (.inl hk))
    · cases hk
    · cases hk

theorem Reset_k (H : Tree w b h T) (hk : ∀ w', Tree w' b (Han.empty h.t h.a) { T with ps := [], free := [] } → Out h (Han.empty h.t h.a) w w' → R (.returned (.tuple #[])) w') :
    Calls Try.prog 64 #[.pointer (some ⟨h.a, 0, none⟩)] w R := by
  have HK := Lib.hid hk
  have hla := H.f_a
  have c1 := H.c_lv
  have c2 := H.c_fv
  obtain ⟨H1, O1⟩ := H.reset
  have H1' := Lib.hid H1
  have O1' := Lib.hid O1
  clear H1 O1 hk
  go_enter Try.func64, Try.ntmps64
  go_wp2
  go_end0
  exact HK.out _ H1'.out O1'.out

theorem Clear_k (H : Tree w b h T) (hk : ∀ w', Tree w' b (Han.empty h.t h.a) ⟨T.room, -1, [], []⟩ → Out h (Han.empty h.t h.a) w w' → R (.returned (.tuple #[])) w') :
    Calls Try.prog 49 #[.pointer (some ⟨h.t, 0, none⟩)] w R := by
  have HK := Lib.hid hk
  have c := H.c_arena
  clear hk
  go_enter Try.func49, Try.ntmps49
  go_wp2_with (go_at_call 64; refine Reset_k H (fun w1 H1 O1 => ?_); have hft := H1.f_t 1; have c2 := H1.c_root; have H2 := Lib.hid (H1.st_root (-1)); have O2 := Lib.hid O1; clear H1 O1)
  go_end0
  exact HK.out _ H2.out (O2.out.trans (Out.inn (Tree.st_root_fr _ _ _)))

theorem ANew_k (room : Int) (h0 : 0 ≤ room) (h1 : room ≤ 65536) (hk : R (.returned (.tuple #[.pointer (some ⟨w.heap.size, 0, none⟩), .int .i64 0])) (w.alloc (.cells #[.int .i64 room, .slice none 0 0, .slice none 0 0] 95))) :
    Calls Try.prog 26 #[.int .i64 room] w R := by
  have a1 : decide (room < 0) = false := decide_eq_false (by omega)
  have a2 : decide (65536 < room) = false := decide_eq_false (by omega)
  have HK := Lib.hid hk
  clear h0 h1 hk
  go_enter Try.func26, Try.ntmps26
  go_wp2
  exact HK.out
theorem New_bad (room : Int) (h0 : ¬ (0 ≤ room ∧ room ≤ 4096)) (hk : R (.returned (.tuple #[.pointer none, .int .i64 1])) w) :
    Calls Try.prog 7 #[.int .i64 room] w R := by
  by_cases a : room < 0
  · have a1 : decide (room < 0) = true := decide_eq_true a
    clear h0 a
    go_enter Try.func7, Try.ntmps7
    go_wp2
    exact hk
  · have a1 : decide (room < 0) = false := decide_eq_false a
    have a2 : decide (4096 < room) = true := decide_eq_true (by omega)
    clear h0 a
    go_enter Try.func7, Try.ntmps7
    go_wp2
    exact hk
theorem Tree.born (W : World) {b : Nat} (hb : b ≤ W.heap.size) {room : Int} (h0 : 0 ≤ room) (h1 : room ≤ 65536) :
    Tree ((W.alloc (.cells #[.int .i64 room, .slice none 0 0, .slice none 0 0] 95)).alloc (.cells #[.pointer (some ⟨W.heap.size, 0, none⟩), .int .i64 (-1)] 67)) b (Han.empty (W.heap.size + 1) W.heap.size) ⟨room, -1, [], []⟩ := by
  refine ⟨?_, ?_, ownsRow_nil, ownsRow_nil, ?_, ?_, ?_, ?_, ?_, ?_, ?_, ?_, ⟨h0, h1⟩, Nat.zero_le _, Nat.le_refl _⟩
  · have := heap_alloc_new (W.alloc (.cells #[.int .i64 room, .slice none 0 0, .slice none 0 0] 95)) (.cells #[.pointer (some ⟨W.heap.size, 0, none⟩), .int .i64 (-1)] 67)
    simpa using this
  · exact (Below.heap_alloc _ _ _ (by simp)).trans (heap_alloc_new W _)
  · simp
  · intro e; cases e
  · intro e; cases e
  · intro e; cases e
  · intro e; cases e
  · intro k e; cases e
  · show b ≤ W.heap.size + 1; omega
  · exact hb
theorem New_k (room : Int) (hb : b ≤ w.heap.size) (h0 : 0 ≤ room) (h1 : room ≤ 4096)
    (hk : ∀ w' t a, Tree w' b (Han.empty t a) ⟨room, -1, [], []⟩ → w.heap.size ≤ t → w.heap.size ≤ a → Below w.heap.size w w' → R (.returned (.tuple #[.pointer (some ⟨t, 0, none⟩), .int .i64 0])) w') :
    Calls Try.prog 7 #[.int .i64 room] w R := by
  have a1 : decide (room < 0) = false := decide_eq_false (by omega)
  have a2 : decide (4096 < room) = false := decide_eq_false (by omega)
  have HT := Lib.hid (Tree.born w hb h0 (by omega : room ≤ 65536))
  have HK := Lib.hid hk
  have HA : ∀ (w : World) (R : Ending → World → Prop), R (.returned (.tuple #[.pointer (some ⟨w.heap.size, 0, none⟩), .int .i64 0])) (w.alloc (.cells #[.int .i64 room, .slice none 0 0, .slice none 0 0] 95)) → Calls Try.prog 26 #[.int .i64 room] w R := fun _ _ h => ANew_k room h0 (by omega) h
  have HA' := Lib.hid HA
  clear h0 h1 hk HA
  go_enter Try.func7, Try.ntmps7
  go_wp2_with (go_at_call 26; refine HA'.out _ _ ?_)
  exact HK.out _ _ _ HT.out (by omega) (Nat.le_refl _) (((Below.refl _ _).alloc (Nat.le_refl _) _).alloc (by simp) _)
end
end Go.Proofs.Ytkajknicgabdkaa

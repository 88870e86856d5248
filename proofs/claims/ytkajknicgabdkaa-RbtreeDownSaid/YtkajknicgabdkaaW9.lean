/-
  Walks of the arena's Len, Room, Put, Free, Reset, New.
-/
import Derived.Test.YtkajknicgabdkaaW5
import Derived.Test.YtkajknicgabdkaaC1
import Derived.Test.YtkajknicgabdkaaMem2
import Derived.Deep.AppendLies
import Derived.Deep.RegionHeld3
import Derived.Deep.RegionLaw
namespace Go.Proofs.Ytkajknicgabdkaa
open Go.RowKit
section
variable {w : World} {b : Nat} {h : Han} {T : TS} {R : Ending → World → Prop}

theorem ALen_calls (H : Tree w b h T) :
    Calls Try.prog 50 #[.pointer (some ⟨h.a, 0, none⟩)] w fun e w' => e = .returned (.int .i64 ((T.ps.length : Int) - T.free.length)) ∧ ∃ n, w' = w.drewN n := by
  obtain ⟨A, cl, hl, -⟩ := owns_slice H.hl
  obtain ⟨B, cf, hf, -⟩ := owns_slice H.hf
  have c1 := H.c_lv
  have c2 := H.c_fv
  rw [hl] at c1
  rw [hf] at c2
  have b1 := H.ln
  have b2 := H.fn
  clear H hl hf
  go_enter Try.func50, Try.ntmps50
  go_wp2_with fail
  go_quiet (fail)
  go_wp2
  go_ret
  exact ⟨rfl, _, rfl⟩
theorem ARoom_k (H : Tree w b h T) (hk : R (.returned (.int .i64 T.room)) w) : Calls Try.prog 52 #[.pointer (some ⟨h.a, 0, none⟩)] w R := by
  have c := H.c_room
  go_enter Try.func52, Try.ntmps52
  go_wp2
  exact hk
theorem Len_k (H : Tree w b h T) (hk : ∀ w', Below w.heap.size w w' → R (.returned (.int .i64 ((T.ps.length : Int) - T.free.length))) w') : Calls Try.prog 20 #[.pointer (some ⟨h.t, 0, none⟩)] w R := by
  have c := H.c_arena
  have HK := Lib.hid hk
  clear hk
  go_enter Try.func20, Try.ntmps20
  go_wp2_with (go_at_call 50; refine (ALen_calls H).mono ?_; rintro e w' ⟨rfl, nq, rfl⟩)
  exact HK.out _ ((Fr.drewN (fun _ => False) w nq).below (Nat.le_refl _) (fun _ h => h.elim))
theorem Room_k (H : Tree w b h T) (hk : R (.returned (.int .i64 T.room)) w) : Calls Try.prog 24 #[.pointer (some ⟨h.t, 0, none⟩)] w R := by
  have c := H.c_arena
  go_enter Try.func24, Try.ntmps24
  go_wp2_with (go_at_call 52; refine ARoom_k H ?_)
  exact hk

/-- What a call does that may make the tree's blocks anew. -/
structure Out (h h' : Han) (w w' : World) : Prop where
  fr : Fr h.own w w'
  own : ∀ k, h'.own k → h.own k ∨ w.heap.size ≤ k
  t : h'.t = h.t
  a : h'.a = h.a
theorem Out.refl (h : Han) (w : World) : Out h h w w := ⟨Fr.refl _ _, fun _ h => .inl h, rfl, rfl⟩
theorem Out.trans {h h' h'' : Han} {w w' w'' : World} (x : Out h h' w w') (y : Out h' h'' w' w'') : Out h h'' w w'' :=
  ⟨x.fr.trans' y.fr (fun i hi hs => (x.own i hs).resolve_right (by omega)), fun k hk => by
    rcases y.own k hk with h1 | h1
    · exact x.own k h1
    · exact .inr (Nat.le_trans x.fr.size h1), y.t.trans x.t, y.a.trans x.a⟩
theorem Out.inn {h : Han} {w w' : World} (x : Fr h.inn w w') : Out h h w w' :=
  ⟨x.mono (fun k hk => hk.elim (fun e => .inl e) (fun e => .inr (.inr (.inl e)))), fun _ h => .inl h, rfl, rfl⟩
theorem Out.below {h : Han} {w w' : World} (x : Below w.heap.size w w') : Out h h w w' := ⟨Fr.of_below x, fun _ h => .inl h, rfl, rfl⟩

theorem Tree.appended {p : Place} {W w1 : World} {g cap : Nat} (H : Tree W b h T) (hown : w1.ownsRow b 100 10 (.slice (some ⟨g, 0, none⟩) (T.ps.length + 1) cap) (T.ps.length + 1) (T.ps.flatMap Place.enc ++ p.enc))
    (hg : W.grownBy w1 h.lv.ownBlock) (hat : h.lv.ownBlock = some g ∨ W.heap.size ≤ g) (hlen : T.ps.length + 1 ≤ 65536) :
    Tree (w1.setCell ⟨h.a, 1, none⟩ (.slice (some ⟨g, 0, none⟩) (T.ps.length + 1) cap)) b { h with lv := .slice (some ⟨g, 0, none⟩) (T.ps.length + 1) cap } { T with ps := T.ps ++ [p] } ∧
      Out h { h with lv := .slice (some ⟨g, 0, none⟩) (T.ps.length + 1) cap } W (w1.setCell ⟨h.a, 1, none⟩ (.slice (some ⟨g, 0, none⟩) (T.ps.length + 1) cap)) := by
  have hlt := fun k hk => (H.lt (k := k) hk).2
  have ht := hlt _ (.inl rfl)
  have ha := hlt _ (.inr (.inl rfl))
  have hgt : g ≠ h.t := fun e => by
    rcases hat with h1 | h1
    · exact H.tl (by rw [h1, e])
    · omega
  have hga : g ≠ h.a := fun e => by
    rcases hat with h1 | h1
    · exact H.al (by rw [h1, e])
    · omega
  have hgf : h.fv.ownBlock ≠ some g := fun e => by
    rcases hat with h1 | h1
    · exact H.lf _ h1 e
    · have := hlt g (.inr (.inr (.inr e))); omega
  have F : Fr (fun k => h.lv.ownBlock = some k ∨ k = h.a) W (w1.setCell ⟨h.a, 1, none⟩ (.slice (some ⟨g, 0, none⟩) (T.ps.length + 1) cap)) := by
    refine Fr.trans (w' := w1) ⟨hg.os, hg.tape, hg.output, hg.size, fun k hk hn => hg.block k hk (fun e => hn (.inl e.symm))⟩ (Fr.setCell _ _ _ (.inr rfl))
  refine ⟨⟨?_, ?_, ?_, ?_, H.ta, ?_, ?_, H.tf, H.af, ?_, H.tb, H.ab, H.rm, ?_, ?_⟩, ⟨?_, ?_, rfl, rfl⟩⟩
  · rw [F.block _ ht (fun e => e.elim (fun e => H.tl e) (fun e => H.ta e))]; exact H.ht
  · have h0 : w1.heap[h.a]? = some (.cells #[.int .i64 T.room, h.lv, h.fv] 95 (0, 0)) := by rw [hg.block _ ha (fun e => H.al e.symm)]; exact H.ha
    simp only [World.setCell, Array.getElem?_modify]
    simp [h0]
  · have := owns_fr hown (Fr.setCell (S := fun k => k = h.a) w1 ⟨h.a, 1, none⟩ (.slice (some ⟨g, 0, none⟩) (T.ps.length + 1) cap) rfl) (fun k hk e => hga (by simp [Value.ownBlock] at hk; omega))
    simpa [List.flatMap_append] using this
  · exact owns_fr H.hf F (fun k hk e => e.elim (fun e => H.lf k e hk) (fun e => H.af (by rw [hk, e])))
  · simpa [Value.ownBlock] using hgt
  · simpa [Value.ownBlock] using hga
  · intro k hk
    simp [Value.ownBlock] at hk
    subst hk; exact hgf
  · simpa using hlen
  · have := H.fn; simp; omega
  · exact F.mono (fun k hk => hk.elim (fun e => .inr (.inr (.inl e))) (fun e => .inr (.inl e)))
  · intro k hk
    rcases hk with hk | hk | hk | hk
    · exact .inl (.inl hk)
    · exact .inl (.inr (.inl hk))
    · simp [Value.ownBlock] at hk
      subst hk
      exact hat.imp (fun e => .inr (.inr (.inl e))) id
    · exact .inl (.inr (.inr (.inr hk)))

theorem info_place : (Try.prog.info? 100).map (fun i => (i.zero, i.size, i.bytes)) = some (some (.agg #[.int .i64 0, .int .i64 0, .int .i64 0, .int .i64 0, .int .i64 0, .int .i64 0, .int .i64 0, .int .i64 0, .bool false, .bool false]), 10, 80) := by kernel_rfl

theorem Place.enc_one {p : Place} : ∀ u ∈ p.enc, u.oneCell' = true := by simp [Place.enc, Value.oneCell']
abbrev Node.val (n : Node) : Value := .agg #[.int .i64 n.s.ls, .int .i64 n.s.la, .int .i64 n.s.hs, .int .i64 n.s.ha, .int .i64 n.s.v, .int .i64 n.l, .int .i64 n.r, .int .i64 n.p, .bool n.red]
set_option maxHeartbeats 2000000 in
set_option maxRecDepth 100000 in
theorem APut_app (n : Node) (H : Tree w b h T) (hroom : (T.ps.length : Int) < T.room) (hfree : T.free = [])
    (hk : ∀ w' h', Tree w' b h' { T with ps := T.ps ++ [⟨n, true⟩] } → Out h h' w w' → R (.returned (.tuple #[.int .i64 T.ps.length, .int .i64 0])) w') :
    Calls Try.prog 37 #[.pointer (some ⟨h.a, 0, none⟩), .agg #[.int .i64 n.s.ls, .int .i64 n.s.la, .int .i64 n.s.hs, .int .i64 n.s.ha, .int .i64 n.s.v, .int .i64 n.l, .int .i64 n.r, .int .i64 n.p, .bool n.red]] w R := by
  have hal : h.a < w.heap.size := (H.lt (.inr (.inl rfl))).2
  have HK := Lib.hid hk
  clear hk
  obtain ⟨W0, hW0⟩ : ∃ W0, W0 = w.alloc (.cells #[.int .i64 n.s.ls, .int .i64 n.s.la, .int .i64 n.s.hs, .int .i64 n.s.ha, .int .i64 n.s.v, .int .i64 n.l, .int .i64 n.r, .int .i64 n.p, .bool n.red] 65) := ⟨_, rfl⟩
  have H0 : Tree W0 b h T := by rw [hW0]; exact H.alloc _
  have bx : W0.heap[w.heap.size]? = some (.cells #[.int .i64 n.s.ls, .int .i64 n.s.la, .int .i64 n.s.hs, .int .i64 n.s.ha, .int .i64 n.s.v, .int .i64 n.l, .int .i64 n.r, .int .i64 n.p, .bool n.red] 65 (0, 0)) := by rw [hW0]; exact heap_alloc_new _ _
  have hB : Below w.heap.size w W0 := by rw [hW0]; exact (Below.refl _ _).alloc (Nat.le_refl _) _
  have hWs : Hid (W0 = w.alloc (.cells #[.int .i64 n.s.ls, .int .i64 n.s.la, .int .i64 n.s.hs, .int .i64 n.s.ha, .int .i64 n.s.v, .int .i64 n.l, .int .i64 n.r, .int .i64 n.p, .bool n.red] 65)) := Lib.hid hW0
  clear hW0
  have cr := H0.c_room
  have hp1 : T.ps.length + 1 ≤ 65536 := by have := H.rm; omega
  have hlt : decide (T.room ≤ (T.ps.length : Int) - T.free.length) = false := by rw [hfree]; simp; omega
  go_enter Try.func37, Try.ntmps37
  go_wp2_with fail
  rw [← hWs.out]
  have hlen : ∀ n : Nat, Calls Try.prog 50 #[.pointer (some ⟨h.a, 0, none⟩)] (W0.drewN n) fun e w' => e = .returned (.int .i64 ((T.ps.length : Int) - T.free.length)) ∧ ∃ m, w' = (W0.drewN n).drewN m :=
    fun n => ALen_calls (H0.drewN n)
  have HL := Lib.hid hlen
  clear hlen
  go_quiet ((go_at_call 50; exact Calls.quiet_of (HL.out _)))
  have Ha := H0.drewN nq
  have ba : (W0.drewN nq).heap[w.heap.size]? = _ := ((Fr.drewN (fun _ => False) W0 nq).block _ (lt_of_heap bx) id).trans bx
  have hBa : Below w.heap.size w (W0.drewN nq) := hB.trans ((Fr.drewN (fun _ => False) W0 nq).below hB.size (fun _ h => h.elim))
  clear HL cr bx hB H0 hWs H
  revert Ha ba hBa
  generalize W0.drewN nq = wa
  intro Ha ba hBa
  obtain ⟨A, cl, hl, -⟩ := owns_slice Ha.hl
  obtain ⟨B, cf, hf, -⟩ := owns_slice Ha.hf
  have c1 := Ha.c_lv
  have c2 := Ha.c_fv
  rw [hfree, List.length_nil] at hf
  rw [hf] at c2
  have x0 : wa.cell? ⟨w.heap.size, 0, none⟩ = some (.int .i64 n.s.ls) := by simp [World.cell?, ba]
  have x1 : wa.cell? ⟨w.heap.size, 1, none⟩ = some (.int .i64 n.s.la) := by simp [World.cell?, ba]
  have x2 : wa.cell? ⟨w.heap.size, 2, none⟩ = some (.int .i64 n.s.hs) := by simp [World.cell?, ba]
  have x3 : wa.cell? ⟨w.heap.size, 3, none⟩ = some (.int .i64 n.s.ha) := by simp [World.cell?, ba]
  have x4 : wa.cell? ⟨w.heap.size, 4, none⟩ = some (.int .i64 n.s.v) := by simp [World.cell?, ba]
  have x5 : wa.cell? ⟨w.heap.size, 5, none⟩ = some (.int .i64 n.l) := by simp [World.cell?, ba]
  have x6 : wa.cell? ⟨w.heap.size, 6, none⟩ = some (.int .i64 n.r) := by simp [World.cell?, ba]
  have x7 : wa.cell? ⟨w.heap.size, 7, none⟩ = some (.int .i64 n.p) := by simp [World.cell?, ba]
  have x8 : wa.cell? ⟨w.heap.size, 8, none⟩ = some (.bool n.red) := by simp [World.cell?, ba]
  have HF := Lib.hid hf
  have HFr := Lib.hid hfree
  have hps := Ha.ln
  clear hf hfree hlt ba hl
  go_wp2_with fail
  obtain ⟨i0, hi, hz0, hz1, hz2⟩ := info_parts info_place
  have hla := Ha.f_a 1
  replace hal : h.a < wa.heap.size := (Ha.lt (.inr (.inl rfl))).2
  have hne : some h.a ≠ h.lv.ownBlock := fun e => Ha.al e.symm
  go_region_law ((refine step_append_lies _ rfl _ _ 92 rfl b 100 i0 (.agg #[.int .i64 0, .int .i64 0, .int .i64 0, .int .i64 0, .int .i64 0, .int .i64 0, .int .i64 0, .int .i64 0, .bool false, .bool false]) 10 80 Try.underlying92 hi hz0 hz1 hz2 rfl (by decide) h.lv _ _ rfl (by exact ((Ha.drew.alloc _).hl)) ⟨wa.heap.size, 0, none⟩ 1 1 (Place.enc ⟨n, true⟩) rfl rfl (by exact World.news_of_block (heap_alloc_new wa _)) Place.enc_one (by decide) (by simp only [maxLen]; omega) (by omega) (by have := Ha.ab; have := hal; simp; omega) _ rfl (fun g cap w1 hown hgrow hat hlt => ?_); have hc1 := (hgrow.cell_far ⟨h.a, 1, none⟩ (by simp; omega) hne); have hzz1 := (hgrow.frozen_far ⟨h.a, 1, none⟩ (by simp; omega) hne); simp only [World.cell?_drew, World.frozen?_drew] at hc1 hzz1))
  all_goals clear hi hz0 hz1 hz2 i0
  all_goals obtain ⟨HT, HO⟩ := ((Ha.alloc (.cells (Place.enc ⟨n, true⟩).toArray 100)).drew).appended hown hgrow (hat.imp id (fun e => Nat.le_of_eq e.symm)) hp1
  all_goals have HTT := Lib.hid HT
  all_goals have HOO := Lib.hid HO
  all_goals clear HT HO hown hgrow hat
  all_goals go_wp2
  all_goals exact HK.out _ _ HTT.out ((Out.below (hBa.trans ((((Below.refl _ _).alloc (Nat.le_refl _) _).drew).mono hBa.size))).trans HOO.out)

set_option maxHeartbeats 1000000 in
theorem APut_full (n : Node) (H : Tree w b h T) (hroom : T.room ≤ (T.ps.length : Int) - T.free.length)
    (hk : ∀ w', Below w.heap.size w w' → R (.returned (.tuple #[.int .i64 0, .int .i64 50])) w') :
    Calls Try.prog 37 #[.pointer (some ⟨h.a, 0, none⟩), .agg #[.int .i64 n.s.ls, .int .i64 n.s.la, .int .i64 n.s.hs, .int .i64 n.s.ha, .int .i64 n.s.v, .int .i64 n.l, .int .i64 n.r, .int .i64 n.p, .bool n.red]] w R := by
  have hal : h.a < w.heap.size := (H.lt (.inr (.inl rfl))).2
  have HK := Lib.hid hk
  clear hk
  obtain ⟨W0, hW0⟩ : ∃ W0, W0 = w.alloc (.cells #[.int .i64 n.s.ls, .int .i64 n.s.la, .int .i64 n.s.hs, .int .i64 n.s.ha, .int .i64 n.s.v, .int .i64 n.l, .int .i64 n.r, .int .i64 n.p, .bool n.red] 65) := ⟨_, rfl⟩
  have H0 : Tree W0 b h T := by rw [hW0]; exact H.alloc _
  have bx : W0.heap[w.heap.size]? = some (.cells #[.int .i64 n.s.ls, .int .i64 n.s.la, .int .i64 n.s.hs, .int .i64 n.s.ha, .int .i64 n.s.v, .int .i64 n.l, .int .i64 n.r, .int .i64 n.p, .bool n.red] 65 (0, 0)) := by rw [hW0]; exact heap_alloc_new _ _
  have hB : Below w.heap.size w W0 := by rw [hW0]; exact (Below.refl _ _).alloc (Nat.le_refl _) _
  have hWs : Hid (W0 = w.alloc (.cells #[.int .i64 n.s.ls, .int .i64 n.s.la, .int .i64 n.s.hs, .int .i64 n.s.ha, .int .i64 n.s.v, .int .i64 n.l, .int .i64 n.r, .int .i64 n.p, .bool n.red] 65)) := Lib.hid hW0
  clear hW0
  have cr := H0.c_room
  have hlt : decide (T.room ≤ (T.ps.length : Int) - T.free.length) = true := decide_eq_true hroom
  go_enter Try.func37, Try.ntmps37
  go_wp2_with fail
  rw [← hWs.out]
  have hlen : ∀ n : Nat, Calls Try.prog 50 #[.pointer (some ⟨h.a, 0, none⟩)] (W0.drewN n) fun e w' => e = .returned (.int .i64 ((T.ps.length : Int) - T.free.length)) ∧ ∃ m, w' = (W0.drewN n).drewN m :=
    fun n => ALen_calls (H0.drewN n)
  have HL := Lib.hid hlen
  clear hlen
  go_quiet ((go_at_call 50; exact Calls.quiet_of (HL.out _)))
  go_wp2
  exact HK.out _ (hB.trans ((Fr.drewN (fun _ => False) W0 nq).below hB.size (fun _ h => h.elim)))

theorem Tree.popped {fs : List Int} {i : Int} {gf cf : Nat} (H : Tree w b h T) (hf : T.free = fs ++ [i]) (he : h.fv = .slice (some ⟨gf, 0, none⟩) (fs.length + 1) cf) :
    Tree (w.setCell ⟨h.a, 2, none⟩ (.slice (some ⟨gf, 0, none⟩) fs.length cf)) b { h with fv := .slice (some ⟨gf, 0, none⟩) fs.length cf } { T with free := fs } ∧
      Out h { h with fv := .slice (some ⟨gf, 0, none⟩) fs.length cf } w (w.setCell ⟨h.a, 2, none⟩ (.slice (some ⟨gf, 0, none⟩) fs.length cf)) := by
  have F : Fr (fun k => k = h.a) w (w.setCell ⟨h.a, 2, none⟩ (.slice (some ⟨gf, 0, none⟩) fs.length cf)) := Fr.setCell _ _ _ rfl
  have hob : h.fv.ownBlock = some gf := by rw [he]; rfl
  refine ⟨⟨?_, ?_, ?_, ?_, H.ta, H.tl, H.al, ?_, ?_, ?_, H.tb, H.ab, H.rm, H.ln, ?_⟩, ⟨?_, ?_, rfl, rfl⟩⟩
  · rw [F.block _ (lt_of_heap H.ht) (fun e => H.ta e)]; exact H.ht
  · have h0 := H.ha
    simp only [World.setCell, Array.getElem?_modify]
    simp [h0]
  · exact owns_fr H.hl F (fun k hk e => H.al (by rw [hk, e]))
  · have h0 := owns_fr H.hf F (fun k hk e => H.af (by rw [hk, e]))
    rw [he, hf] at h0
    obtain ⟨h1, h2⟩ := h0
    refine ⟨by simp, ?_⟩
    rcases h2 with ⟨h2, -⟩ | ⟨g, cap, cur, hv, hb, hg, hc, hm, hs, ht⟩
    · simp at h2
    · simp only [Value.slice.injEq, Option.some.injEq, Addr.mk.injEq, and_true, true_and] at hv
      obtain ⟨rfl, -, rfl⟩ := hv
      refine .inr ⟨gf, cf, cur, rfl, hb, hg, ?_, hm, hs, ?_⟩
      · show fs.length ≤ cf
        simp at hc; omega
      · have := congrArg (List.take fs.length) ht
        simpa [List.take_take] using this
  · show Value.ownBlock _ ≠ _
    have := H.tf; rw [hob] at this; exact this
  · have := H.af; rw [hob] at this; exact this
  · intro k hk
    have := H.lf k hk; rw [hob] at this; exact this
  · have := H.fn; rw [hf] at this; simp at this ⊢; omega
  · exact F.mono (fun k hk => .inr (.inl hk))
  · intro k hk
    rcases hk with hk | hk | hk | hk
    · exact .inl (.inl hk)
    · exact .inl (.inr (.inl hk))
    · exact .inl (.inr (.inr (.inl hk)))
    · exact .inl (.inr (.inr (.inr (by rw [hob]; exact hk))))

set_option maxHeartbeats 4000000 in
set_option maxRecDepth 100000 in
theorem APut_reuse (n : Node) {fs : List Int} {i : Int} (H : Tree w b h T) (hroom : (T.ps.length : Int) - T.free.length < T.room) (hfree : T.free = fs ++ [i]) (hi0 : 0 ≤ i) (hi1 : i < T.ps.length)
    (hk : ∀ w' h', Tree w' b h' { T with ps := T.ps.set i.toNat ⟨n, true⟩, free := fs } → Out h h' w w' → R (.returned (.tuple #[.int .i64 i, .int .i64 0])) w') :
    Calls Try.prog 37 #[.pointer (some ⟨h.a, 0, none⟩), .agg #[.int .i64 n.s.ls, .int .i64 n.s.la, .int .i64 n.s.hs, .int .i64 n.s.ha, .int .i64 n.s.v, .int .i64 n.l, .int .i64 n.r, .int .i64 n.p, .bool n.red]] w R := by
  have hal : h.a < w.heap.size := (H.lt (.inr (.inl rfl))).2
  have HK := Lib.hid hk
  clear hk
  obtain ⟨W0, hW0⟩ : ∃ W0, W0 = w.alloc (.cells #[.int .i64 n.s.ls, .int .i64 n.s.la, .int .i64 n.s.hs, .int .i64 n.s.ha, .int .i64 n.s.v, .int .i64 n.l, .int .i64 n.r, .int .i64 n.p, .bool n.red] 65) := ⟨_, rfl⟩
  have H0 : Tree W0 b h T := by rw [hW0]; exact H.alloc _
  have bx : W0.heap[w.heap.size]? = some (.cells #[.int .i64 n.s.ls, .int .i64 n.s.la, .int .i64 n.s.hs, .int .i64 n.s.ha, .int .i64 n.s.v, .int .i64 n.l, .int .i64 n.r, .int .i64 n.p, .bool n.red] 65 (0, 0)) := by rw [hW0]; exact heap_alloc_new _ _
  have hB : Below w.heap.size w W0 := by rw [hW0]; exact (Below.refl _ _).alloc (Nat.le_refl _) _
  have hWs : Hid (W0 = w.alloc (.cells #[.int .i64 n.s.ls, .int .i64 n.s.la, .int .i64 n.s.hs, .int .i64 n.s.ha, .int .i64 n.s.v, .int .i64 n.l, .int .i64 n.r, .int .i64 n.p, .bool n.red] 65)) := Lib.hid hW0
  clear hW0
  have cr := H0.c_room
  have hlt : decide (T.room ≤ (T.ps.length : Int) - T.free.length) = false := decide_eq_false (by omega)
  have hfl : fs.length + 1 ≤ 65536 := by have := H.fn; have := H.ln; rw [hfree] at *; simp at *; omega
  have hFree := Lib.hid hfree
  clear hfree
  go_enter Try.func37, Try.ntmps37
  go_wp2_with fail
  rw [← hWs.out]
  have hlen : ∀ n : Nat, Calls Try.prog 50 #[.pointer (some ⟨h.a, 0, none⟩)] (W0.drewN n) fun e w' => e = .returned (.int .i64 ((T.ps.length : Int) - T.free.length)) ∧ ∃ m, w' = (W0.drewN n).drewN m :=
    fun n => ALen_calls (H0.drewN n)
  have HL := Lib.hid hlen
  clear hlen
  go_quiet ((go_at_call 50; exact Calls.quiet_of (HL.out _)))
  have Ha := H0.drewN nq
  have ba : (W0.drewN nq).heap[w.heap.size]? = _ := ((Fr.drewN (fun _ => False) W0 nq).block _ (lt_of_heap bx) id).trans bx
  have hBa : Below w.heap.size w (W0.drewN nq) := hB.trans ((Fr.drewN (fun _ => False) W0 nq).below hB.size (fun _ h => h.elim))
  clear HL cr bx hB H0 hWs H
  revert Ha ba hBa
  generalize W0.drewN nq = wa
  intro Ha ba hBa
  have hfree := hFree.out
  obtain ⟨gf, cf, hf1, hf, hcap, -⟩ := owns_form Ha.hf (by rw [hfree]; simp)
  have hfl2 : T.free.length = fs.length + 1 := by rw [hfree]; simp
  rw [hfl2] at hf hcap
  have c2 := Ha.c_fv
  rw [hf] at c2
  have c3 : wa.cell? ⟨gf, fs.length, none⟩ = some (.int .i64 i) := by
    have := Ha.hf
    rw [hf, hfl2] at this
    rw [this.cellAt _ (by omega), hfree]
    simp
  have z2 := Ha.f_a 2
  obtain ⟨H2, O2⟩ := Ha.popped hfree hf
  have H2' := Lib.hid H2
  have O2' := Lib.hid O2
  have hHa := Lib.hid Ha
  have hF2 := Lib.hid hfl2
  clear H2 O2 hf hfree hlt hfl2
  go_wp2_with fail
  refine wp_world (fun W => Tree W b { h with fv := .slice (some ⟨gf, 0, none⟩) fs.length cf } { T with free := fs } ∧ Out h { h with fv := .slice (some ⟨gf, 0, none⟩) fs.length cf } w W ∧ W.heap[w.heap.size]? = some (.cells #[.int .i64 n.s.ls, .int .i64 n.s.la, .int .i64 n.s.hs, .int .i64 n.s.ha, .int .i64 n.s.v, .int .i64 n.l, .int .i64 n.r, .int .i64 n.p, .bool n.red] 65 (0, 0))) ⟨H2'.out, (Out.below hBa).trans O2'.out, by rw [setCell_other (fun e => by omega)]; exact ba⟩ ?_
  clear c2 c3 z2 H2' O2' hHa hBa ba Ha
  rintro wb ⟨Hb, Ob, bb⟩
  have x0 : wb.cell? ⟨w.heap.size, 0, none⟩ = some (.int .i64 n.s.ls) := by simp [World.cell?, bb]
  have x1 : wb.cell? ⟨w.heap.size, 1, none⟩ = some (.int .i64 n.s.la) := by simp [World.cell?, bb]
  have x2 : wb.cell? ⟨w.heap.size, 2, none⟩ = some (.int .i64 n.s.hs) := by simp [World.cell?, bb]
  have x3 : wb.cell? ⟨w.heap.size, 3, none⟩ = some (.int .i64 n.s.ha) := by simp [World.cell?, bb]
  have x4 : wb.cell? ⟨w.heap.size, 4, none⟩ = some (.int .i64 n.s.v) := by simp [World.cell?, bb]
  have x5 : wb.cell? ⟨w.heap.size, 5, none⟩ = some (.int .i64 n.l) := by simp [World.cell?, bb]
  have x6 : wb.cell? ⟨w.heap.size, 6, none⟩ = some (.int .i64 n.r) := by simp [World.cell?, bb]
  have x7 : wb.cell? ⟨w.heap.size, 7, none⟩ = some (.int .i64 n.p) := by simp [World.cell?, bb]
  have x8 : wb.cell? ⟨w.heap.size, 8, none⟩ = some (.bool n.red) := by simp [World.cell?, bb]
  obtain ⟨g, cl, hg1, hg2, -, -⟩ := owns_form Hb.hl (by show 0 < T.ps.length; omega)
  have c1 := Hb.c_lv
  rw [hg2] at c1
  have hgg : Han.g { h with fv := Value.slice (some ⟨gf, 0, none⟩) fs.length cf } = g := by simp [Han.g, hg1]
  have hlti : i.toNat < T.ps.length := by omega
  have key : ∀ nq, Tree (putAll (wb.drewN nq) g (i.toNat * 10) (Place.enc ⟨n, true⟩)) b { h with fv := .slice (some ⟨gf, 0, none⟩) fs.length cf } { T with ps := T.ps.set i.toNat ⟨n, true⟩, free := fs } ∧ Fr (Han.inn { h with fv := Value.slice (some ⟨gf, 0, none⟩) fs.length cf }) (wb.drewN nq) (putAll (wb.drewN nq) g (i.toNat * 10) (Place.enc ⟨n, true⟩)) := by
    intro nq
    have := (Hb.drewN nq).st_place (i := i.toNat) hlti ⟨n, true⟩
    rw [hgg] at this
    exact this
  have HKEY := Lib.hid key
  obtain ⟨y0, y1, y2, y3, y4, y5, y6, y7, y8, y9⟩ := Hb.c_all hi0 hi1 hgg
  have yf := Hb.f_all (by show 0 < T.ps.length; omega) hgg
  have OB := Lib.hid Ob
  clear key Hb Ob hgg bb
  refine wp_region_qt (fun w' => ∃ n, w' = World.drewN wb n) 8 (by kernel_rfl) (by kernel_rfl) ⟨1, rfl⟩ ?_
  simp only [List.take_succ_cons, List.take_zero, List.drop_succ_cons, List.drop_zero]
  repeat (quiet_step (fail))
  refine wpQuiet_nil ?_
  intro _ hw'
  obtain ⟨nq, hw''⟩ := hw'
  subst hw''
  go_wp2
  refine HK.out _ _ (HKEY.out nq).1 ?_
  exact OB.out.trans (Out.trans (Out.below ((Fr.drewN (fun _ => False) wb nq).below (Nat.le_refl _) (fun _ h => h.elim))) (Out.inn (HKEY.out nq).2))
end
end Go.Proofs.Ytkajknicgabdkaa

/-
  Walks of the arena's Free, Reset, New, and the tree's New, Clear.
-/
import Derived.Test.YtkajknicgabdkaaW9
import Derived.Deep.Cut
namespace Go.Proofs.Ytkajknicgabdkaa
open Go.RowKit
section
variable {w : World} {b : Nat} {h : Han} {T : TS} {R : Ending → World → Prop}

theorem Tree.freed {i : Int} {W w1 : World} {g cap : Nat} (H : Tree W b h T) (hown : w1.ownsRow b 3 1 (.slice (some ⟨g, 0, none⟩) (T.free.length + 1) cap) (T.free.length + 1) (T.free.map (Value.int .i64) ++ [.int .i64 i]))
    (hg : W.grownBy w1 h.fv.ownBlock) (hat : h.fv.ownBlock = some g ∨ W.heap.size ≤ g) (hlen : T.free.length + 1 ≤ T.ps.length) :
    Tree (w1.setCell ⟨h.a, 2, none⟩ (.slice (some ⟨g, 0, none⟩) (T.free.length + 1) cap)) b { h with fv := .slice (some ⟨g, 0, none⟩) (T.free.length + 1) cap } { T with free := T.free ++ [i] } ∧
      Out h { h with fv := .slice (some ⟨g, 0, none⟩) (T.free.length + 1) cap } W (w1.setCell ⟨h.a, 2, none⟩ (.slice (some ⟨g, 0, none⟩) (T.free.length + 1) cap)) := by
  have hlt := fun k hk => (H.lt (k := k) hk).2
  have ht := hlt _ (.inl rfl)
  have ha := hlt _ (.inr (.inl rfl))
  have hgt : g ≠ h.t := fun e => by
    rcases hat with h1 | h1
    · exact H.tf (by rw [h1, e])
    · omega
  have hga : g ≠ h.a := fun e => by
    rcases hat with h1 | h1
    · exact H.af (by rw [h1, e])
    · omega
  have hgf : h.lv.ownBlock ≠ some g := fun e => by
    rcases hat with h1 | h1
    · exact H.lf _ e h1
    · have := hlt g (.inr (.inr (.inl e))); omega
  have F : Fr (fun k => h.fv.ownBlock = some k ∨ k = h.a) W (w1.setCell ⟨h.a, 2, none⟩ (.slice (some ⟨g, 0, none⟩) (T.free.length + 1) cap)) := by
    refine Fr.trans (w' := w1) ⟨hg.os, hg.tape, hg.output, hg.size, fun k hk hn => hg.block k hk (fun e => hn (.inl e.symm))⟩ (Fr.setCell _ _ _ (.inr rfl))
  refine ⟨⟨?_, ?_, ?_, ?_, H.ta, H.tl, H.al, ?_, ?_, ?_, H.tb, H.ab, H.rm, H.ln, ?_⟩, ⟨?_, ?_, rfl, rfl⟩⟩
  · rw [F.block _ ht (fun e => e.elim (fun e => H.tf e) (fun e => H.ta e))]; exact H.ht
  · have h0 : w1.heap[h.a]? = some (.cells #[.int .i64 T.room, h.lv, h.fv] 95 (0, 0)) := by rw [hg.block _ ha (fun e => H.af e.symm)]; exact H.ha
    simp only [World.setCell, Array.getElem?_modify]
    simp [h0]
  · exact owns_fr H.hl F (fun k hk e => e.elim (fun e => H.lf k hk e) (fun e => H.al (by rw [hk, e])))
  · have := owns_fr hown (Fr.setCell (S := fun k => k = h.a) w1 ⟨h.a, 2, none⟩ (.slice (some ⟨g, 0, none⟩) (T.free.length + 1) cap) rfl) (fun k hk e => hga (by simp [Value.ownBlock] at hk; omega))
    simpa using this
  · simpa [Value.ownBlock] using hgt
  · simpa [Value.ownBlock] using hga
  · intro k hk e
    simp [Value.ownBlock] at e
    subst e; exact hgf hk
  · simpa using hlen
  · exact F.mono (fun k hk => hk.elim (fun e => .inr (.inr (.inr e))) (fun e => .inr (.inl e)))
  · intro k hk
    rcases hk with hk | hk | hk | hk
    · exact .inl (.inl hk)
    · exact .inl (.inr (.inl hk))
    · exact .inl (.inr (.inr (.inl hk)))
    · simp [Value.ownBlock] at hk
      subst hk
      exact hat.imp (fun e => .inr (.inr (.inr e))) id

theorem info_int : (Try.prog.info? 3).map (fun i => (i.zero, i.size, i.bytes)) = some (some (.int .i64 0), 1, 8) := by kernel_rfl
set_option maxHeartbeats 2000000 in
set_option maxRecDepth 100000 in
theorem AFree_k {i : Int} (H : Tree w b h T) (hi : T.ok i) (hfl : T.free.length + 1 ≤ T.ps.length)
    (hk : ∀ w' h', Tree w' b h' { T with ps := T.ps.set i.toNat Place.zero, free := T.free ++ [i] } → Out h h' w w' → R (.returned (.bool true)) w') :
    Calls Try.prog 42 #[.pointer (some ⟨h.a, 0, none⟩), .int .i64 i] w R := by
  have HK := Lib.hid hk
  clear hk
  obtain ⟨cl, hl, hl2⟩ := H.lv_form hi
  have hi0 := hi.1
  have hi1 := hi.2.1
  obtain ⟨y0, y1, y2, y3, y4, y5, y6, y7, y8, y9⟩ := H.c_all hi0 hi1 rfl
  have yf := H.f_g hi
  have c1 := H.c_lv
  rw [hl] at c1
  obtain ⟨H1, F1⟩ := H.st_place (i := i.toNat) (by omega) Place.zero
  have H1' := Lib.hid H1
  have F1' := Lib.hid F1
  have hL := Lib.hid hl
  clear H1 F1 hl hl2
  go_enter Try.func42, Try.ntmps42
  go_upto_region 4 with ((go_at_call 56; refine (At_calls H hi).mono ?_; rintro e w' ⟨rfl, rfl⟩))
  refine wp_world (fun W => Tree W b h { T with ps := T.ps.set i.toNat Place.zero } ∧ Fr h.inn w W) ⟨H1'.out, F1'.out⟩ ?_
  clear H1' F1' c1 y0 y1 y2 y3 y4 y5 y6 y7 y8 y9 yf H hL
  rintro W ⟨Ha, Fa⟩
  have HF1 := Lib.hid Fa
  clear Fa
  have c2 := Ha.c_fv
  obtain ⟨B, cf, hf, -⟩ := owns_slice Ha.hf
  obtain ⟨i0, hi9, hz0, hz1, hz2⟩ := info_parts info_int
  have hla := Ha.f_a 2
  have hal : h.a < W.heap.size := (Ha.lt (.inr (.inl rfl))).2
  have hne : some h.a ≠ h.fv.ownBlock := fun e => Ha.af e.symm
  have hlen : T.free.length + 1 ≤ T.ps.length := hfl
  have hp1 : T.free.length + 1 ≤ (T.ps.set i.toNat Place.zero).length := by simpa using hlen
  have hps : T.ps.length ≤ 65536 := by simpa using Ha.ln
  rw [hf] at c2
  have HF := Lib.hid hf
  clear hf hfl hi
  go_wp2_with (refine wpList_append_lies _ rfl _ _ 93 rfl b 3 i0 (.int .i64 0) 1 8 Try.underlying93 hi9 hz0 hz1 hz2 rfl (by decide) h.fv T.free.length (T.free.map (Value.int .i64)) (by simp [Act.eval, HF.out]) (Ha.alloc _).hf ⟨W.heap.size, 0, none⟩ 1 1 [.int .i64 i] rfl rfl (by exact World.news_of_block (heap_alloc_new W _)) (by simp [Value.oneCell']) (by decide) (by simp only [maxLen]; omega) (by omega) (by have := Ha.ab; simp; omega) _ rfl (fun g cap w1 hown hgrow hat hlt => ?_); have hc1 := (hgrow.cell_far ⟨h.a, 2, none⟩ (by simp; omega) hne); have hzz1 := (hgrow.frozen_far ⟨h.a, 2, none⟩ (by simp; omega) hne))
  all_goals obtain ⟨HT, HO⟩ := (Ha.alloc (.cells #[.int .i64 i] 3)).freed hown hgrow (hat.imp id (fun e => Nat.le_of_eq e.symm)) hp1
  all_goals have HTT := Lib.hid HT
  all_goals have HOO := Lib.hid HO
  all_goals clear HT HO hown hgrow hat
  all_goals go_wp2
  all_goals exact HK.out _ _ HTT.out ((Out.inn HF1.out).trans ((Out.below ((Below.refl _ _).alloc (Nat.le_refl _) _)).trans HOO.out))
end
end Go.Proofs.Ytkajknicgabdkaa

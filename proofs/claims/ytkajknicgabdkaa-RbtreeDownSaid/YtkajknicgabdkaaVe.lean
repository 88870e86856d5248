/-
  Walk of the document's Put, where a segment comes in.
-/
import Derived.Test.YtkajknicgabdkaaVd
namespace Go.Proofs.Ytkajknicgabdkaa
open Go.RowKit
attribute [local go_sem high] eqCut eqSpan eqSeg
section
variable {w : World} {b : Nat} {R : Ending → World → Prop}
theorem SRow.lt {W : World} {v : Value} {L : List Seg} (h : SRow W b v L) {k : Nat} (hk : v.ownBlock = some k) : b ≤ k ∧ k < W.heap.size := World.ownsRow.lt h k hk
theorem SRow.fr {S : Nat → Prop} {W W' : World} {v : Value} {L : List Seg} (h : SRow W b v L) (hf : Fr S W W') (hn : ∀ k, v.ownBlock = some k → ¬ S k) : SRow W' b v L := owns_fr h hf hn
theorem SRow.nil {W : World} : SRow W b (.slice none 0 0) [] := ownsRow_nil
/-- Behind an append of one. -/
theorem SRow.append {w1 : World} {out : List Seg} {s : Seg} {g cap : Nat} (hown : w1.ownsRow b 36 5 (.slice (some ⟨g, 0, none⟩) (out.length + 1) cap) (out.length + 1) (out.flatMap Seg.enc ++ s.enc)) :
    SRow w1 b (.slice (some ⟨g, 0, none⟩) (out.length + 1) cap) (out ++ [s]) := by
  unfold SRow
  simpa [List.flatMap_append] using hown
theorem SRow.len {W : World} {A : Option Addr} {n cap : Nat} {L : List Seg} (h : SRow W b (.slice A n cap) L) : n = L.length := by
  rcases owns_slice h with ⟨A, c, e, -⟩
  exact (Value.slice.inj e).2.1
theorem grown_below1 {B : Nat} {W W' : World} {v : Value} {L : List Seg} (hg : W.grownBy W' v.ownBlock) (hr : SRow W b v L) (hb : B ≤ b) (hB : B ≤ W.heap.size) : Below B W W' :=
  ⟨hg.os, hg.tape, hg.output, hg.size, fun k hk => hg.block k (by omega) (fun e => by have := hr.lt e.symm; omega)⟩
theorem SRow.alloc {W : World} {v : Value} {L : List Seg} (h : SRow W b v L) (o : Obj) : SRow (W.alloc o) b v L := h.below ((Below.refl _ _).alloc (Nat.le_refl _) _)
theorem wpl_segap {ops : Array Oper} {rest : List Oper} {o : Oper} {a : Act} {Q : Exit → Act → World → Prop} {base : Nat} {v : Value} {out : List Seg} (B : Nat) (sg : Seg) (hO : SRow w base v out)
    (hb : w.heap[B]? = some (.cells (Seg.enc sg).toArray 36 (0, 0))) (hlen : out.length ≤ 100000) (hbase : base ≤ w.heap.size) (hgd : o.guard = none) (s x : Operand)
    (ho : o.op = .call { callee := .builtin .append, args := #[s, x], argTypes := #[28, 28] }) (hs : a.eval s = v) (hx : a.eval x = .slice (some ⟨B, 0, none⟩) 1 1)
    (h : ∀ g cap w', SRow w' base (.slice (some ⟨g, 0, none⟩) (out.length + 1) cap) (out ++ [sg]) → w.grownBy w' v.ownBlock → (v.ownBlock = some g ∨ g = w.heap.size) → wpList Try.prog ops Q rest (a.put o.dst (.slice (some ⟨g, 0, none⟩) (out.length + 1) cap)) w') :
    wpList Try.prog ops Q (o :: rest) a w := by
  obtain ⟨i0, hi9, hz9, hz1, hz3⟩ := info_parts info_seg
  exact wpList_append_lies w hgd s x 28 ho base 36 i0 (.agg #[.int .i64 0, .int .i64 0, .int .i64 0, .int .i64 0, .int .i64 0]) 5 40 Try.underlying28 hi9 hz9 hz1 hz3 rfl (by decide) v out.length (out.flatMap Seg.enc) hs hO ⟨B, 0, none⟩ 1 1 (Seg.enc sg) hx rfl (World.news_of_block hb) Seg.enc_one (by decide) (by simp only [maxLen]; omega) (by omega) hbase _ rfl
    (fun g cap w' hown hgrow hat _ => h g cap w' (SRow.append hown) hgrow hat)
set_option maxHeartbeats 4000000 in
set_option maxRecDepth 100000 in
theorem RPut_new {v : Value} {L : List Seg} {room : Int} {s : Seg} (hr : SRow w b v L) (hn : L.length ≤ 65536) (hc : goodR (s.ls, s.la) = true) (hf : findR (s.ls, s.la) L 0 = -1) (hroom : ¬ room ≤ L.length)
    (hk : ∀ w' v', SRow w' w.heap.size v' (insR s L) → Below w.heap.size w w' → R (.returned (.tuple #[v', .int .i64 0])) w') :
    Calls Try.prog 9 #[v, .int .i64 room, .agg #[.int .i64 s.ls, .int .i64 s.la, .int .i64 s.hs, .int .i64 s.ha, .int .i64 s.v]] w R := by
  obtain ⟨A, cap, hv, -⟩ := owns_slice hr
  subst hv
  obtain ⟨hr0, hl0⟩ := goodR_parts hc
  simp only at hr0 hl0
  have hl1 : ¬ (0 < s.ls) := of_decide_eq_false hl0
  clear hc hl0
  have HK := Lib.hid hk
  clear hk
  have fld : ∀ w, (Instr.field 32 (.agg #[.int .i64 s.ls, .int .i64 s.la]) 0).run Try.prog w = .ok (.int .i64 s.ls) w := fun _ => by kernel_rfl
  have bx : (w.alloc (.cells #[.int .i64 s.ls, .int .i64 s.la, .int .i64 s.hs, .int .i64 s.ha, .int .i64 s.v] 36)).heap[w.heap.size]? = _ := heap_alloc_new _ _
  go_enter Try.func9, Try.ntmps9
  go_wp2_with fail
  refine wp_region_qb (by kernel_rfl) (by kernel_rfl) ?_
  repeat (first | (with_reducible refine wpQuiet_step (fun K hK => ?_); go_simp; first | (with_reducible refine hK _ ?_; clear hK K) | (apply Exists.intro; with_reducible refine ⟨fun W hW => ?_, hK _ ?_⟩; (first | (first | (go_at_call 30; refine RKey_k s (fun w1 hb => ⟨rfl, ?_⟩); exact bstep hW hb (by simp)) | (go_at_call 29; refine RCanon_k _ _ (fun w1 hb => ⟨rfl, ?_⟩); exact bstep hW hb (by simp))) | ((try obtain ⟨hc, hf⟩ := bcell hW); (try go_simp); first | done | exact ⟨rfl, rfl⟩ | rfl)); clear hK K)) | (with_reducible refine wpQ_skip (by with_unfolding_all rfl) ?_))
  refine wpQuiet_nil ?_
  intro w1 hb
  have b1 := (hb.block _ (by simp)).trans bx
  have hB1 : Below w.heap.size w w1 := ((Below.refl _ _).alloc (Nat.le_refl _) _).trans (hb.mono (by simp))
  clear hb bx
  have hR1 := SRow.below hr hB1
  have e0 : w1.cell? ⟨w.heap.size, 0, none⟩ = some (.int .i64 s.ls) := by simp [World.cell?, b1]
  have e1 : w1.cell? ⟨w.heap.size, 1, none⟩ = some (.int .i64 s.la) := by simp [World.cell?, b1]
  have e2 : w1.cell? ⟨w.heap.size, 2, none⟩ = some (.int .i64 s.hs) := by simp [World.cell?, b1]
  have e3 : w1.cell? ⟨w.heap.size, 3, none⟩ = some (.int .i64 s.ha) := by simp [World.cell?, b1]
  have e4 : w1.cell? ⟨w.heap.size, 4, none⟩ = some (.int .i64 s.v) := by simp [World.cell?, b1]
  have hlw := lt_of_heap b1
  go_upto_region 4 with (first | (go_at_call 30; refine RKey_k s (fun w2 hb2 => ?_); have b2 := (hb2.block _ (lt_of_heap b1)).trans b1; have HB2 := Lib.hid (hB1.trans (hb2.mono hB1.size)); clear hb2) | (go_at_call 31; refine RFind_k _ _ (SRow.below hr HB2.out) hn (fun w3 hb3 => ?_); have b3 := (hb3.block _ (lt_of_heap b2)).trans b2; have HB3 := Lib.hid (HB2.out.trans (hb3.mono HB2.out.size)); clear hb3))
  have hR3 := SRow.below hr HB3.out
  clear e0 e1 e2 e3 e4 hlw hR1 HB2 b2 b1 hB1
  have hrm : decide (room ≤ (L.length : Int)) = false := decide_eq_false (by omega)
  go_wp2_with fail
  go_loopg [10, 11, 12] L.length (fun q v10 v11 v12 wr => ∃ (pre rest out : List Seg) (done : Bool), v11 = .bool done ∧ v12 = .int .i64 (pre.length : Nat) ∧ q = rest.length ∧ L = pre ++ rest ∧ SRow wr (w.heap.size + 1) v10 out ∧
    Hid ((done = true ∧ out ++ rest = insR s L) ∨ (done = false ∧ out ++ insR s rest = insR s L)) ∧ out.length ≤ pre.length + done.toNat ∧ Below w.heap.size w wr ∧ wr.heap[w.heap.size]? = some (.cells #[.int .i64 s.ls, .int .i64 s.la, .int .i64 s.hs, .int .i64 s.ha, .int .i64 s.v] 36 (0, 0)))
  case atStart => exact ⟨[], L, [], false, rfl, rfl, rfl, rfl, SRow.nil, Lib.hid (.inr ⟨rfl, rfl⟩), by simp, HB3.out, b3⟩
  case round =>
    clear hR3 b3 HB3
    obtain ⟨pre, rest, out, done, rfl, rfl, hq, hL, hO, hD, hol, hB, hbx⟩ := hrel
    have hr1 := SRow.below hr hB
    have hLl : L.length = pre.length + rest.length := by rw [hL]; simp
    obtain ⟨A1, cap1, hv1, -⟩ := owns_slice hO
    subst hv1
    have e0 : wr.cell? ⟨w.heap.size, 0, none⟩ = some (.int .i64 s.ls) := by simp [World.cell?, hbx]
    have e1 : wr.cell? ⟨w.heap.size, 1, none⟩ = some (.int .i64 s.la) := by simp [World.cell?, hbx]
    have e2 : wr.cell? ⟨w.heap.size, 2, none⟩ = some (.int .i64 s.hs) := by simp [World.cell?, hbx]
    have e3 : wr.cell? ⟨w.heap.size, 3, none⟩ = some (.int .i64 s.ha) := by simp [World.cell?, hbx]
    have e4 : wr.cell? ⟨w.heap.size, 4, none⟩ = some (.int .i64 s.v) := by simp [World.cell?, hbx]
    have hbl : w.heap.size < wr.heap.size := lt_of_heap hbx
    have hdn : done.toNat ≤ 1 := by cases done <;> simp
    cases rest with
    | nil =>
      have hlt : ¬ ((pre.length : Int) < (L.length : Int)) := by simp at hLl; omega
      have hlt2 : ¬ (pre.length < L.length) := by omega
      have hol2 : out.length ≤ 65537 := by simp at hLl; omega
      clear hL hLl
      cases done with
      | true =>
        have hout : out = insR s L := by
          rcases hD.out with ⟨-, h2⟩ | ⟨h1, -⟩
          · simpa using h2
          · cases h1
        have hout' := Lib.hid hout
        clear hD hout
        go_wp2
        exact HK.out _ _ (by rw [← hout'.out]; exact ownsRow_base hO (by omega)) hB
      | false =>
        have hout : out ++ [s] = insR s L := by
          rcases hD.out with ⟨h1, -⟩ | ⟨-, h2⟩
          · cases h1
          · simpa [insR] using h2
        have hout' := Lib.hid hout
        clear hD hout
        have hz2 := hB.size
        go_wp2_with (at_builtin; refine wpl_segap wr.heap.size s (SRow.alloc hO _) (by exact heap_alloc_new _ _) (by omega) (by simp; omega) rfl _ _ rfl rfl rfl (fun g' cap' w5 hO5 hgrow hat => ?_))
        have hrow := (SRow.alloc hO (.cells (Seg.enc s).toArray 36))
        have hB5 : Below w.heap.size w w5 := (hB.alloc (by omega) _).trans (grown_below1 hgrow hrow (by omega) (by simp; omega))
        exact HK.out _ _ (by rw [← hout'.out]; exact ownsRow_base hO5 (by omega)) hB5
    | cons x rest =>
      have hlt : ((pre.length : Int) < (L.length : Int)) := by simp at hLl; omega
      have hlt2 : pre.length < L.length := by simp at hLl; omega
      have hi : L[pre.length]? = some x := by rw [hL]; simp
      obtain ⟨g, cap', hg1, hg2, -, -⟩ := owns_form hr1 (by omega)
      obtain ⟨rfl, -, -⟩ := Value.slice.inj hg2
      obtain ⟨y0, y1, y2, y3, y4⟩ := hr1.cells hi
      have hgl : g < wr.heap.size := World.block_lt_of_cell? _ _ y0
      have hL' := Lib.hid hL
      have hi' := Lib.hid hi
      clear hL hLl hi hg1 hg2
      cases done with
      | true =>
        go_wp2_with fail
        refine wp_region_qb (by kernel_rfl) (by kernel_rfl) ?_
        repeat (first | (with_reducible refine wpQuiet_step (fun K hK => ?_); go_simp; first | (with_reducible refine hK _ ?_; clear hK K) | (apply Exists.intro; with_reducible refine ⟨fun W hW => ?_, hK _ ?_⟩; (first | fail | ((try obtain ⟨hc, hf⟩ := bcell hW); (try go_simp); first | done | exact ⟨rfl, rfl⟩ | rfl)); clear hK K)) | (with_reducible refine wpQ_skip (by with_unfolding_all rfl) ?_))
        refine wpQuiet_nil ?_
        intro w2 hb2
        have hB2 := hB.trans (hb2.mono hB.size)
        have hbx2 := (hb2.block _ (lt_of_heap hbx)).trans hbx
        have hO2 := SRow.below hO hb2
        obtain ⟨y0, y1, y2, y3, y4⟩ := (SRow.below hr1 hb2).cells hi'.out
        have hz2 := hB2.size
        go_wp2_with (at_builtin; refine wpl_segap w2.heap.size x (SRow.alloc hO2 _) (by exact heap_alloc_new _ _) (by omega) (by simp; omega) rfl _ _ rfl rfl rfl (fun g' cap' w5 hO5 hgrow hat => ?_))
        have hrow := (SRow.alloc hO2 (.cells (Seg.enc x).toArray 36))
        have hbx5 := (hgrow.block w.heap.size (by simp; omega) (fun e => by have := hrow.lt e.symm; omega)).trans ((Below.heap_alloc _ _ _ (lt_of_heap hbx2)).trans hbx2)
        have hB5 : Below w.heap.size w w5 := (hB2.alloc (by omega) _).trans (grown_below1 hgrow hrow (by omega) (by simp; omega))
        go_roundg rest.length
        case measure => rw [hq]; simp
        case rel =>
          refine ⟨pre ++ [x], rest, out ++ [x], true, rfl, by simp, rfl, by rw [hL'.out]; simp, hO5, Lib.hid (.inl ⟨rfl, ?_⟩), by simp at hol ⊢; omega, hB5, hbx5⟩
          rcases hD.out with ⟨-, h2⟩ | ⟨h1, -⟩
          · simpa using h2
          · cases h1
      | false =>
        have hD2 := hD.out.resolve_left (fun h => by cases h.1)
        have hD3 := Lib.hid hD2.2
        clear hD hD2
        cases hl : lessK (s.ls, s.la) (x.ls, x.la) with
        | false =>
          go_wp2_with fail
          refine wp_region_qb (by kernel_rfl) (by kernel_rfl) ?_
          repeat (first | (with_reducible refine wpQuiet_step (fun K hK => ?_); go_simp; first | (with_reducible refine hK _ ?_; clear hK K) | (apply Exists.intro; with_reducible refine ⟨fun W hW => ?_, hK _ ?_⟩; (first | (first | (go_at_call 30; refine RKey_k s (fun w1 hb => ⟨rfl, ?_⟩); exact hW.trans (hb.mono hW.size)) | (go_at_call 30; refine RKey_k x (fun w1 hb => ⟨rfl, ?_⟩); exact hW.trans (hb.mono hW.size)) | (go_at_call 32; refine RLess_k _ _ _ _ (fun w1 hb => ⟨rfl, ?_⟩); exact hW.trans (hb.mono hW.size))) | ((try obtain ⟨hc, hf⟩ := bcell hW); (try go_simp); first | done | exact ⟨rfl, rfl⟩ | rfl)); clear hK K)) | (with_reducible refine wpQ_skip (by with_unfolding_all rfl) ?_))
          refine wpQuiet_nil ?_
          intro w2 hb2
          have hB2 := hB.trans (hb2.mono hB.size)
          have hbx2 := (hb2.block _ (lt_of_heap hbx)).trans hbx
          have hO2 := SRow.below hO hb2
          obtain ⟨y0, y1, y2, y3, y4⟩ := (SRow.below hr1 hb2).cells hi'.out
          have hz2 := hB2.size
          go_wp2_with (at_builtin; refine wpl_segap w2.heap.size x (SRow.alloc hO2 _) (by exact heap_alloc_new _ _) (by omega) (by simp; omega) rfl _ _ rfl rfl rfl (fun g' cap' w5 hO5 hgrow hat => ?_))
          have hrow := (SRow.alloc hO2 (.cells (Seg.enc x).toArray 36))
          have hbx5 := (hgrow.block w.heap.size (by simp; omega) (fun e => by have := hrow.lt e.symm; omega)).trans ((Below.heap_alloc _ _ _ (lt_of_heap hbx2)).trans hbx2)
          have hB5 : Below w.heap.size w w5 := (hB2.alloc (by omega) _).trans (grown_below1 hgrow hrow (by omega) (by simp; omega))
          go_roundg rest.length
          case measure => rw [hq]; simp
          case rel =>
            refine ⟨pre ++ [x], rest, out ++ [x], false, rfl, by simp, rfl, by rw [hL'.out]; simp, hO5, Lib.hid (.inr ⟨rfl, ?_⟩), by simp at hol ⊢; omega, hB5, hbx5⟩
            have h2 := hD3.out
            rw [insR, hl] at h2
            simpa using h2
        | true =>
          go_wp2_with fail
          refine wp_region_qb (by kernel_rfl) (by kernel_rfl) ?_
          repeat (first | (with_reducible refine wpQuiet_step (fun K hK => ?_); go_simp; first | (with_reducible refine hK _ ?_; clear hK K) | (apply Exists.intro; with_reducible refine ⟨fun W hW => ?_, hK _ ?_⟩; (first | (first | (go_at_call 30; refine RKey_k s (fun w1 hb => ⟨rfl, ?_⟩); exact hW.trans (hb.mono hW.size)) | (go_at_call 30; refine RKey_k x (fun w1 hb => ⟨rfl, ?_⟩); exact hW.trans (hb.mono hW.size)) | (go_at_call 32; refine RLess_k _ _ _ _ (fun w1 hb => ⟨rfl, ?_⟩); exact hW.trans (hb.mono hW.size))) | ((try obtain ⟨hc, hf⟩ := bcell hW); (try go_simp); first | done | exact ⟨rfl, rfl⟩ | rfl)); clear hK K)) | (with_reducible refine wpQ_skip (by with_unfolding_all rfl) ?_))
          refine wpQuiet_nil ?_
          intro w2 hb2
          have hB2 := hB.trans (hb2.mono hB.size)
          have hbx2 := (hb2.block _ (lt_of_heap hbx)).trans hbx
          have hO2 := SRow.below hO hb2
          replace e0 : w2.cell? ⟨w.heap.size, 0, none⟩ = some (.int .i64 s.ls) := by simp [World.cell?, hbx2]
          replace e1 : w2.cell? ⟨w.heap.size, 1, none⟩ = some (.int .i64 s.la) := by simp [World.cell?, hbx2]
          replace e2 : w2.cell? ⟨w.heap.size, 2, none⟩ = some (.int .i64 s.hs) := by simp [World.cell?, hbx2]
          replace e3 : w2.cell? ⟨w.heap.size, 3, none⟩ = some (.int .i64 s.ha) := by simp [World.cell?, hbx2]
          replace e4 : w2.cell? ⟨w.heap.size, 4, none⟩ = some (.int .i64 s.v) := by simp [World.cell?, hbx2]
          clear y0 y1 y2 y3 y4
          have hz2 := hB2.size
          replace hbl : w.heap.size < w2.heap.size := lt_of_heap hbx2
          go_upto_region 18 with (at_builtin; refine wpl_segap w2.heap.size s (SRow.alloc hO2 _) (by exact heap_alloc_new _ _) (by omega) (by simp; omega) rfl _ _ rfl rfl rfl (fun g' cap' w5 hO5 hgrow hat => ?_))
          have hrow := (SRow.alloc hO2 (.cells (Seg.enc s).toArray 36))
          have hbx5 := (hgrow.block w.heap.size (by simp; omega) (fun e => by have := hrow.lt e.symm; omega)).trans ((Below.heap_alloc _ _ _ (lt_of_heap hbx2)).trans hbx2)
          have hB5 : Below w.heap.size w w5 := (hB2.alloc (by omega) _).trans (grown_below1 hgrow hrow (by omega) (by simp; omega))
          have hr5 := SRow.below hr hB5
          clear hrow hgrow hat hO2 hB2 hbx2 hb2 e0 e1 e2 e3 e4 hO
          obtain ⟨y0, y1, y2, y3, y4⟩ := hr5.cells hi'.out
          have hz5 := hB5.size
          have hbl5 := lt_of_heap hbx5
          go_wp2_with (at_builtin; refine wpl_segap w5.heap.size x (SRow.alloc hO5 _) (by exact heap_alloc_new _ _) (by simp; omega) (by simp; omega) rfl _ _ rfl rfl rfl (fun g2 cap2 w6 hO6 hgrow2 hat2 => ?_))
          have hrow2 := (SRow.alloc hO5 (.cells (Seg.enc x).toArray 36))
          have hbx6 := (hgrow2.block w.heap.size (by simp; omega) (fun e => by have := hrow2.lt e.symm; omega)).trans ((Below.heap_alloc _ _ _ (lt_of_heap hbx5)).trans hbx5)
          have hB6 : Below w.heap.size w w6 := (hB5.alloc (by omega) _).trans (grown_below1 hgrow2 hrow2 (by omega) (by simp; omega))
          go_roundg rest.length
          case measure => rw [hq]; simp
          case rel =>
            refine ⟨pre ++ [x], rest, out ++ [s, x], true, rfl, by simp, rfl, by rw [hL'.out]; simp, ?_, Lib.hid (.inl ⟨rfl, ?_⟩), by simp at hol ⊢; omega, hB6, hbx6⟩
            · simpa using hO6
            · have h2 := hD3.out
              rw [insR, hl] at h2
              simpa using h2
end
end Go.Proofs.Ytkajknicgabdkaa

/-
  Walk of the document's Put, where a segment stands already; Put whole.
-/
import Derived.Test.YtkajknicgabdkaaVe
import Derived.Maps.AppendAt
namespace Go.Proofs.Ytkajknicgabdkaa
open Go.RowKit
attribute [local go_sem high] eqCut eqSpan eqSeg
section
variable {w : World} {b : Nat} {R : Ending → World → Prop}
theorem wp_segs {o : Oper} {a : Act} {K : Act → World → Prop} {Q : Exit → Act → World → Prop} {base : Nat} {v : Value} {out M : List Seg} (g off m c : Nat) (hO : SRow w base v out)
    (hM : ∀ j u, (M.flatMap Seg.enc)[j]? = some u → w.cell? ((⟨g, off, none⟩ : Addr).add j) = some u) (hm : M.length = m) (hlen : out.length + m ≤ 200000) (hbase : base ≤ w.heap.size) (s x : Operand)
    (ho : o.op = .call { callee := .builtin .append, args := #[s, x], argTypes := #[28, 28] }) (hs : a.eval s = v) (hx : a.eval x = .slice (some ⟨g, off, none⟩) m c)
    (h : ∀ v' w', SRow w' base v' (out ++ M) → w.grownBy w' v.ownBlock → (v'.ownBlock = v.ownBlock ∨ v'.ownBlock = some w.heap.size) → K (a.put o.dst v') w') : o.wp Try.prog a w K Q := by
  obtain ⟨i0, hi9, hz9, hz1, hz3⟩ := info_parts info_seg
  subst hm
  obtain ⟨v', w', hr, h2, h3, -, h5⟩ := run_append_own_at (P := Try.prog) w base 28 o.type 36 i0 (.agg #[.int .i64 0, .int .i64 0, .int .i64 0, .int .i64 0, .int .i64 0]) 5 40 Try.underlying28 hi9 hz9 hz1 hz3 rfl (by decide) v out.length (out.flatMap Seg.enc) hO ⟨g, off, none⟩ M.length c (M.flatMap Seg.enc)
    (flat_length Seg.enc_length _) hM (by intro u hu; obtain ⟨q, -, hq⟩ := List.mem_flatMap.1 hu; exact Seg.enc_one u hq) (by simp only [maxLen]; omega) (by omega) hbase
  unfold Oper.wp execOp
  simp only [ho, resolve, invoke, builtin, Sem.run_bind, Sem.run_pure, Result.andThen_ok, List.map_toArray, List.map_cons, List.map_nil, hs, hx, hr]
  exact h v' w' (by unfold SRow; simpa [List.flatMap_append] using h2) h3 h5
theorem wpl_segs {ops : Array Oper} {rest : List Oper} {o : Oper} {a : Act} {Q : Exit → Act → World → Prop} {base : Nat} {v : Value} {out M : List Seg} (g off m c : Nat) (hO : SRow w base v out)
    (hM : ∀ j u, (M.flatMap Seg.enc)[j]? = some u → w.cell? ((⟨g, off, none⟩ : Addr).add j) = some u) (hm : M.length = m) (hlen : out.length + m ≤ 200000) (hbase : base ≤ w.heap.size) (hgd : o.guard = none) (s x : Operand)
    (ho : o.op = .call { callee := .builtin .append, args := #[s, x], argTypes := #[28, 28] }) (hs : a.eval s = v) (hx : a.eval x = .slice (some ⟨g, off, none⟩) m c)
    (h : ∀ v' w', SRow w' base v' (out ++ M) → w.grownBy w' v.ownBlock → (v'.ownBlock = v.ownBlock ∨ v'.ownBlock = some w.heap.size) → wpList Try.prog ops Q rest (a.put o.dst v') w') : wpList Try.prog ops Q (o :: rest) a w :=
  wpList_plain hgd fun _ hK => wp_segs g off m c hO hM hm hlen hbase s x ho hs hx fun v' w' h2 h3 h4 => hK _ _ (h v' w' h2 h3 h4)
theorem step_segs {ops : Array Oper} {o : Oper} {a : Act} {K : Act → World → Prop} {Q : Exit → Act → World → Prop} {E : Prop} {base : Nat} {v : Value} {out M : List Seg} (g off m c : Nat) (hO : SRow w base v out)
    (hM : ∀ j u, (M.flatMap Seg.enc)[j]? = some u → w.cell? ((⟨g, off, none⟩ : Addr).add j) = some u) (hm : M.length = m) (hlen : out.length + m ≤ 200000) (hbase : base ≤ w.heap.size) (hgd : o.guard = none) (s x : Operand)
    (ho : o.op = .call { callee := .builtin .append, args := #[s, x], argTypes := #[28, 28] }) (hs : a.eval s = v) (hx : a.eval x = .slice (some ⟨g, off, none⟩) m c)
    (h : ∀ v' w', SRow w' base v' (out ++ M) → w.grownBy w' v.ownBlock → (v'.ownBlock = v.ownBlock ∨ v'.ownBlock = some w.heap.size) → K (a.put o.dst v') w') :
    if Region.wanted o (yielded ops a.tmps) = true then Oper.wp Try.prog o a w K Q else E := by
  have hw : Region.wanted o (yielded ops a.tmps) = true := by simp [Region.wanted, hgd]
  rw [if_pos hw]
  exact wp_segs g off m c hO hM hm hlen hbase s x ho hs hx h
/-- A part of a row, cell by cell. -/
theorem SRow.part {L : List Seg} {g n cap : Nat} (h : SRow w b (.slice (some ⟨g, 0, none⟩) n cap) L) (o m : Nat) : ∀ j u, (((L.drop o).take m).flatMap Seg.enc)[j]? = some u → w.cell? ((⟨g, o * 5, none⟩ : Addr).add j) = some u := by
  intro j u hu
  have hn := SRow.len h
  subst hn
  have hadd : (⟨g, o * 5, none⟩ : Addr).add j = ⟨g, o * 5 + j, none⟩ := by unfold Addr.add; split <;> simp_all
  rw [hadd]
  have hdm : j / 5 * 5 + j % 5 = j := by omega
  have hm5 : j % 5 < 5 := Nat.mod_lt _ (by decide)
  rw [← hdm, flat_get Seg.enc_length _ _ _ hm5, Option.bind_eq_some_iff] at hu
  obtain ⟨x, hx, hu⟩ := hu
  rw [List.getElem?_take] at hx
  split at hx
  · rw [List.getElem?_drop] at hx
    have hlt : o + j / 5 < L.length := (List.getElem?_eq_some_iff.1 hx).1
    rw [show o * 5 + j = (o + j / 5) * 5 + j % 5 by omega, World.ownsRow.cellAt h _ (by omega), flat_get Seg.enc_length _ _ _ hm5, hx]
    exact hu
  · cases hx
theorem SRow.set {L : List Seg} {g n cap : Nat} (h : SRow w b (.slice (some ⟨g, 0, none⟩) n cap) L) {i : Nat} (hi : i < L.length) (s : Seg) :
    SRow (putAll w g (i * 5) s.enc) b (.slice (some ⟨g, 0, none⟩) n cap) (L.set i s) := by
  have hn := SRow.len h
  subst hn
  have h1 := owns_putAll s.enc w (L.flatMap Seg.enc) (i * 5) h
  have h2 := splice_flat Seg.enc_length L i 0 L[i] s s.enc (List.getElem?_eq_getElem hi) (by decide : 0 + 5 ≤ 5) (fun j hj => by rw [if_pos ⟨Nat.zero_le _, by rw [Seg.enc_length]; omega⟩]; rfl)
  rw [Nat.add_zero] at h2
  rw [h2] at h1
  unfold SRow
  rw [List.length_set]
  exact h1
set_option maxHeartbeats 4000000 in
set_option maxRecDepth 100000 in
theorem RPut_set {v : Value} {L : List Seg} {room : Int} {s : Seg} {j : Nat} (hr : SRow w b v L) (hn : L.length ≤ 65536) (hc : goodR (s.ls, s.la) = true) (hf : findR (s.ls, s.la) L 0 = (j : Int)) (hj : j < L.length)
    (hk : ∀ w' v', SRow w' w.heap.size v' (L.set j s) → Below w.heap.size w w' → R (.returned (.tuple #[v', .int .i64 0])) w') :
    Calls Try.prog 9 #[v, .int .i64 room, .agg #[.int .i64 s.ls, .int .i64 s.la, .int .i64 s.hs, .int .i64 s.ha, .int .i64 s.v]] w R := by
  obtain ⟨g, cap, hg1, hv, -, -⟩ := owns_form hr (by omega)
  subst hv
  obtain ⟨hr0, hl0⟩ := goodR_parts hc
  simp only at hr0 hl0
  have hl1 : ¬ (0 < s.ls) := of_decide_eq_false hl0
  clear hc hl0
  have HK := Lib.hid hk
  clear hk
  have fld : ∀ w, (Instr.field 32 (.agg #[.int .i64 s.ls, .int .i64 s.la]) 0).run Try.prog w = .ok (.int .i64 s.ls) w := fun _ => by kernel_rfl
  have bx : (w.alloc (.cells #[.int .i64 s.ls, .int .i64 s.la, .int .i64 s.hs, .int .i64 s.ha, .int .i64 s.v] 36)).heap[w.heap.size]? = _ := heap_alloc_new _ _
  go_enter Try.func9, Try.ntmps9
  go_wp2_with fail
  refine wp_region_qb (by kernel_rfl) (by kernel_rfl) ?_
  repeat (first | (with_reducible refine wpQuiet_step (fun K hK => ?_); go_simp; first | (with_reducible refine hK _ ?_; clear hK K) | (apply Exists.intro; with_reducible refine ⟨fun W hW => ?_, hK _ ?_⟩; (first | (first | (go_at_call 30; refine RKey_k s (fun w1 hb => ⟨rfl, ?_⟩); exact bstep hW hb (by simp)) | (go_at_call 29; refine RCanon_k _ _ (fun w1 hb => ⟨rfl, ?_⟩); exact bstep hW hb (by simp))) | ((try obtain ⟨hc, hf⟩ := bcell hW); (try go_simp); first | done | exact ⟨rfl, rfl⟩ | rfl)); clear hK K)) | (with_reducible refine wpQ_skip (by with_unfolding_all rfl) ?_))
  refine wpQuiet_nil ?_
  intro w1 hb
  have b1 := (hb.block _ (by simp)).trans bx
  have hB1 : Below w.heap.size w w1 := ((Below.refl _ _).alloc (Nat.le_refl _) _).trans (hb.mono (by simp))
  clear hb bx
  have hR1 := SRow.below hr hB1
  have e0 : w1.cell? ⟨w.heap.size, 0, none⟩ = some (.int .i64 s.ls) := by simp [World.cell?, b1]
  have e1 : w1.cell? ⟨w.heap.size, 1, none⟩ = some (.int .i64 s.la) := by simp [World.cell?, b1]
  have e2 : w1.cell? ⟨w.heap.size, 2, none⟩ = some (.int .i64 s.hs) := by simp [World.cell?, b1]
  have e3 : w1.cell? ⟨w.heap.size, 3, none⟩ = some (.int .i64 s.ha) := by simp [World.cell?, b1]
  have e4 : w1.cell? ⟨w.heap.size, 4, none⟩ = some (.int .i64 s.v) := by simp [World.cell?, b1]
  have hlw := lt_of_heap b1
  go_upto_region 4 with (first | (go_at_call 30; refine RKey_k s (fun w2 hb2 => ?_); have b2 := (hb2.block _ (lt_of_heap b1)).trans b1; have HB2 := Lib.hid (hB1.trans (hb2.mono hB1.size)); clear hb2) | (go_at_call 31; refine RFind_k _ _ (SRow.below hr HB2.out) hn (fun w3 hb3 => ?_); have b3 := (hb3.block _ (lt_of_heap b2)).trans b2; have HB3 := Lib.hid (HB2.out.trans (hb3.mono HB2.out.size)); clear hb3))
  have hR3 := SRow.below hr HB3.out
  clear e0 e1 e2 e3 e4 hlw hR1 HB2 b2 b1 hB1
  have e0 : w3.cell? ⟨w.heap.size, 0, none⟩ = some (.int .i64 s.ls) := by simp [World.cell?, b3]
  have e1 : w3.cell? ⟨w.heap.size, 1, none⟩ = some (.int .i64 s.la) := by simp [World.cell?, b3]
  have e2 : w3.cell? ⟨w.heap.size, 2, none⟩ = some (.int .i64 s.hs) := by simp [World.cell?, b3]
  have e3 : w3.cell? ⟨w.heap.size, 3, none⟩ = some (.int .i64 s.ha) := by simp [World.cell?, b3]
  have e4 : w3.cell? ⟨w.heap.size, 4, none⟩ = some (.int .i64 s.v) := by simp [World.cell?, b3]
  have hz3 := HB3.out.size
  have hlw := lt_of_heap b3
  have hE : SRow (w3.alloc (.cells #[] 36)) (w.heap.size + 1) (.slice (some ⟨w3.heap.size, 0, none⟩) 0 0) [] := ownsRow_empty (heap_alloc_new _ _) (by omega)
  have hM : ∀ j u, (L.flatMap Seg.enc)[j]? = some u → (w3.alloc (.cells #[] 36)).cell? ((⟨g, 0, none⟩ : Addr).add j) = some u := by
    have := (hR3.alloc (.cells #[] 36)).part 0 L.length
    simpa using this
  go_upto_region 6 with (at_builtin; refine wpl_segs g 0 L.length cap hE hM rfl (by simp; omega) (by simp; omega) rfl _ _ rfl rfl rfl (fun v4 w4 hO4 hgrow hat => ?_))
  rw [List.nil_append] at hO4
  have hB4 : Below w.heap.size w w4 := (HB3.out.alloc (by omega) _).trans (grown_below1 hgrow hE (by omega) (by simp; omega))
  have b4 := (hgrow.block w.heap.size (by simp; omega) (fun e => by have := hE.lt e.symm; omega)).trans ((Below.heap_alloc _ _ _ hlw).trans b3)
  clear hM hE hgrow hat e0 e1 e2 e3 e4 hR3 b3 HB3
  obtain ⟨g4, cap4, hg4, hv4, -, -⟩ := owns_form hO4 (by omega)
  subst hv4
  have hgb := hO4.lt hg4
  have x0 : w4.cell? ⟨w.heap.size, 0, none⟩ = some (.int .i64 s.ls) := by simp [World.cell?, b4]
  have x1 : w4.cell? ⟨w.heap.size, 1, none⟩ = some (.int .i64 s.la) := by simp [World.cell?, b4]
  have x2 : w4.cell? ⟨w.heap.size, 2, none⟩ = some (.int .i64 s.hs) := by simp [World.cell?, b4]
  have x3 : w4.cell? ⟨w.heap.size, 3, none⟩ = some (.int .i64 s.ha) := by simp [World.cell?, b4]
  have x4 : w4.cell? ⟨w.heap.size, 4, none⟩ = some (.int .i64 s.v) := by simp [World.cell?, b4]
  obtain ⟨y0, y1, y2, y3, y4⟩ := hO4.cells (List.getElem?_eq_getElem hj)
  have yf : ∀ k, w4.frozen? ⟨g4, k, none⟩ = false := fun k => World.ownsRow.frozenAt hO4 k
  have hS := Lib.hid (hO4.set hj s)
  have hF := Lib.hid (hB4.trans ((putAll_fr (S := fun k => k = g4) rfl s.enc w4 (j * 5)).below (B := w.heap.size) hB4.size (fun k hk => by omega)))
  go_wp2
  exact HK.out _ _ (ownsRow_base hS.out (by omega)) hF.out
end
end Go.Proofs.Ytkajknicgabdkaa

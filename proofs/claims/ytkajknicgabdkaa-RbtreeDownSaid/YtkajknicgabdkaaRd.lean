/-
  Walks of the law's made, and of the law RbtreeDown.
-/
import Derived.Test.YtkajknicgabdkaaRc
import Derived.Test.YtkajknicgabdkaaQr
namespace Go.Proofs.Ytkajknicgabdkaa
open Go.RowKit Go.Shelf
attribute [local go_sem] Oper.semAt_some
attribute [local go_sem high] eqCut eqSpan eqSeg
section
variable {w w0 : World} {tt : Nat} {T : TS} {t : Tr} {v : Value} {L : List Seg} {R : Ending → World → Prop}
set_option maxHeartbeats 4000000 in
set_option maxRecDepth 100000 in
theorem made_k (room : Int) (A0 : Option Addr) (cap0 : Nat) (z0 : List Opn) (h0 : OpRow w A0 z0) (hk0 : ∀ w', Below w.heap.size w w' → R (.returned (.tuple #[.pointer none, .slice none 0 0, .bool false])) w')
    (hk1 : ∀ w' tt A c L, LS room w tt w' (.slice A (List.length L) c) L → R (.returned (.tuple #[.pointer (some ⟨tt, 0, none⟩), .slice A L.length c, .bool true])) w') :
    Calls Try.prog 21 #[.int .i64 room, .slice A0 z0.length cap0] w R := by
  have K0 := Lib.hid hk0
  have K1 := Lib.hid hk1
  clear hk0 hk1
  by_cases hr : 0 ≤ room ∧ room ≤ 4096
  · have HR := Lib.hid hr
    clear hr
    by_cases hs : z0.length ≤ 200
    · have hs' : decide ((200 : Int) < (z0.length : Int)) = false := decide_eq_false (by omega)
      have H0 := Lib.hid h0
      clear h0
      go_enter Try.func21, Try.ntmps21
      go_wp2_with (go_at_call 7; refine LSnew (Below.refl _ _) HR.out.1 HR.out.2 (fun w1 tt X1 => ?_); have HX := Lib.hid X1; clear X1)
      go_loopg [9, 33] z0.length (fun q v9 v33 wr => ∃ (i : Nat) (L : List Seg) (A : Option Addr) (c : Nat), v33 = .int .i64 i ∧ v9 = .slice A L.length c ∧ q = z0.length - i ∧ i ≤ z0.length ∧ LS room w tt wr (.slice A L.length c) L)
      case atStart => exact ⟨0, [], none, 0, rfl, rfl, by simp, by omega, HX.out⟩
      case round =>
        clear HX
        obtain ⟨i, L, A, c, rfl, rfl, hq, hi, X⟩ := hrel
        have HX := Lib.hid X
        clear X
        by_cases hlt : i < z0.length
        · obtain ⟨b0, off0, rfl, hc0⟩ := H0.out (by intro e; rw [e] at hlt; simp at hlt)
          have hx := List.getElem?_eq_getElem hlt
          generalize z0[i] = o at hx
          have hc := hc0 i o hx
          have hbl := World.block_lt_of_cell? _ _ hc.1
          have hcc := fun k => (HX.out.bel.cell (p := ⟨b0, off0 + i * 6 + k, none⟩) hbl)
          obtain ⟨y0, y1, y2, y3, y4, y5⟩ := hc
          replace y0 := (HX.out.bel.cell (p := ⟨b0, off0 + i * 6, none⟩) hbl).trans y0
          replace y1 := (hcc 1).trans y1
          replace y2 := (hcc 2).trans y2
          replace y3 := (hcc 3).trans y3
          replace y4 := (hcc 4).trans y4
          replace y5 := (hcc 5).trans y5
          replace hbl : b0 < wr.heap.size := World.block_lt_of_cell? _ _ y0
          clear hc0 hx hcc
          rcases hp : doR room L o with ⟨L', x, e⟩
          have HP := Lib.hid hp
          clear hp
          go_upto_region 10 with (go_at_call 25; refine SRDo (o := o) (HX.out.below ?hbb) HP.out (fun w3 A3 c3 X3 hb3 => ?_); rotate_left; replace HX := Lib.hid X3; obtain ⟨hc3, hf3⟩ := bcell hb3; have hz3 := hb3.size; simp at hz3; clear X3 hb3)
          case hbb =>
            (repeat (first | exact Below.refl _ _ | refine Below.setCell ?_ (by first | omega | (simp; done) | (simp; omega)) _ | refine Below.drew ?_ | refine Below.alloc ?_ (by first | omega | (simp; done) | (simp; omega)) _ | (refine Below.trans ?_ (Below.mono (by assumption) (by first | omega | (simp; done) | (simp; omega))))))
          go_wp2_with (go_at_call 17; refine SDoes (o := o) HX.out HP.out (fun w4 X4 => ?_); replace HX := Lib.hid X4; clear X4)
          go_roundg (z0.length - (i + 1))
          case measure => omega
          case rel => exact ⟨i + 1, L', _, _, by simp, rfl, rfl, by omega, HX.out⟩
        · go_wp2
          exact K1.out _ _ _ _ _ HX.out
    · have hs' : decide ((200 : Int) < (z0.length : Int)) = true := decide_eq_true (by omega)
      clear h0
      go_enter Try.func21, Try.ntmps21
      go_wp2_with (go_at_call 7; refine LSnew (Below.refl _ _) HR.out.1 HR.out.2 (fun w1 tt X1 => ?_); have HX := Lib.hid X1.bel; clear X1)
      exact K0.out _ HX.out
  · have HR := Lib.hid hr
    clear hr h0
    go_enter Try.func21, Try.ntmps21
    go_wp2_with (go_at_call 7; refine New_bad room HR.out ?_)
    exact K0.out _ (Below.refl _ _)

/-- The boxes of RbtreeDown: where it stops, its answer, the row, a count. -/
structure DB (m b8 : Nat) (stop : Int) (v : Value) (n : Int) (W : World) : Prop where
  c5 : W.cell? ⟨m, 0, none⟩ = some (.int .i64 stop)
  c6 : W.cell? ⟨m + 1, 0, none⟩ = some (.bool false)
  f6 : W.frozen? ⟨m + 1, 0, none⟩ = false
  c8 : W.cell? ⟨b8, 0, none⟩ = some v
  c10 : W.cell? ⟨b8 + 1, 0, none⟩ = some (.int .i64 n)
  f10 : W.frozen? ⟨b8 + 1, 0, none⟩ = false
  mb : m + 2 ≤ b8
  sz : b8 + 2 ≤ W.heap.size
theorem DB.fr {m b8 : Nat} {stop n : Int} {S : Nat → Prop} {W W' : World} (X : DB m b8 stop v n W) (hf : Fr S W W') (h0 : ¬ S m) (h1 : ¬ S (m + 1)) (h2 : ¬ S b8) (h3 : ¬ S (b8 + 1)) : DB m b8 stop v n W' := by
  have hs := X.sz
  have hm := X.mb
  have k1 := hf.block (m + 1) (by omega) h1
  have k3 := hf.block (b8 + 1) (by omega) h3
  exact ⟨(hf.cell (a := ⟨m, 0, none⟩) (by simp only; omega) h0).trans X.c5, (hf.cell (a := ⟨m + 1, 0, none⟩) (by simp only; omega) h1).trans X.c6, (World.frozen?_of_block (w := W) (a := ⟨m + 1, 0, none⟩) k1).trans X.f6,
    (hf.cell (a := ⟨b8, 0, none⟩) (by simp only; omega) h2).trans X.c8, (hf.cell (a := ⟨b8 + 1, 0, none⟩) (by simp only; omega) h3).trans X.c10, (World.frozen?_of_block (w := W) (a := ⟨b8 + 1, 0, none⟩) k3).trans X.f10, hm, Nat.le_trans hs hf.size⟩
theorem DB.below {m b8 B : Nat} {stop n : Int} {W W' : World} (X : DB m b8 stop v n W) (hb : Below B W W') (hB : b8 + 2 ≤ B) : DB m b8 stop v n W' :=
  X.fr (S := fun k => B ≤ k) (below_frm hb) (by have := X.mb; omega) (by have := X.mb; omega) (by omega) (by omega)
theorem DB.set10 {m b8 : Nat} {stop n : Int} {W : World} (X : DB m b8 stop v n W) (k : Int) : DB m b8 stop v k (W.setCell ⟨b8 + 1, 0, none⟩ (.int .i64 k)) := by
  have hm := X.mb
  have hs := X.sz
  exact ⟨(World.cell?_setCell_far _ _ _ _ (by simp; omega)).trans X.c5, (World.cell?_setCell_far _ _ _ _ (by simp; omega)).trans X.c6, by rw [World.frozen?_setCell]; exact X.f6, (World.cell?_setCell_far _ _ _ _ (by simp)).trans X.c8, World.cell?_setCell_same _ _ _ X.c10,
    by rw [World.frozen?_setCell]; exact X.f10, hm, by simpa using hs⟩
def eqS (x y : Seg) : Bool := ((x.ls == y.ls && x.la == y.la) && (x.hs == y.hs && x.ha == y.ha)) && x.v == y.v
theorem eqS_iff (x y : Seg) : eqS x y = true ↔ x = y := by
  obtain ⟨a, b, c, d, e⟩ := x
  obtain ⟨a', b', c', d', e'⟩ := y
  simp [eqS, and_assoc]
theorem inBlock_mono {id : Nat} {Q1 Q2 : Exit → Act → World → Prop} (h : ∀ e a w, Q1 e a w → Q2 e a w) : ∀ e a w, Exit.inBlock id Q1 e a w → Exit.inBlock id Q2 e a w := by
  intro e a w hq
  cases e <;> simp only [Exit.inBlock] at hq ⊢
  case exit id' =>
    split at hq
    · rename_i e; rw [if_pos e]; exact h _ _ _ hq
    · rename_i e; rw [if_neg e]; exact h _ _ _ hq
  all_goals exact h _ _ _ hq
theorem inD_rev (t : Tr) : inD false t = t.inord.reverse := rfl

set_option maxHeartbeats 8000000 in
set_option maxRecDepth 100000 in
theorem down_walk (room : Int) (A0 : Option Addr) (cap0 : Nat) (z0 : List Opn) (stop : Int) (w : World) (h0 : OpRow w A0 z0) :
    Calls Try.prog 5 #[.int .i64 room, .slice A0 z0.length cap0, .int .i64 stop] w fun e w' => e = .returned (.bool true) ∧ Below w.heap.size w w' := by
  refine (callsIn_wide (n := 9)).1 ?_
  refine callsIn_of_wp_marks Try.func5 rfl trivial ?_ rfl
  simp only [Try.ntmps5, List.size_toArray, List.length_cons, List.length_nil, Nat.reduceAdd, Nat.reduceSub, Array.replicate_succ, Array.replicate_zero, List.push_toArray, List.append_toArray, List.nil_append, List.cons_append]
  obtain ⟨W0, hW0⟩ : ∃ W0, W0 = (w.alloc (.cells #[.int .i64 stop] 3)).alloc (.cells #[.bool false] 4) := ⟨_, rfl⟩
  have hz0 : W0.heap.size = w.heap.size + 2 := by rw [hW0]; simp
  have hB0 : Below w.heap.size w W0 := by rw [hW0]; exact ((Below.refl _ _).alloc (Nat.le_refl _) _).alloc (by simp) _
  have d5 : W0.cell? ⟨w.heap.size, 0, none⟩ = some (.int .i64 stop) := by rw [hW0]; simp
  have d6 : W0.cell? ⟨w.heap.size + 1, 0, none⟩ = some (.bool false) := by rw [hW0]; simp
  have g6 : W0.frozen? ⟨w.heap.size + 1, 0, none⟩ = false := by rw [hW0]; simp
  have hO0 : OpRow W0 A0 z0 := fun hne => by
    obtain ⟨b, off, e, hc⟩ := h0 hne
    refine ⟨b, off, e, fun j o hj => ?_⟩
    obtain ⟨y0, y1, y2, y3, y4, y5⟩ := hc j o hj
    have hl := World.block_lt_of_cell? _ _ y0
    obtain ⟨c1, -⟩ := bcell hB0
    exact ⟨(c1 _ _ hl).trans y0, (c1 _ _ hl).trans y1, (c1 _ _ hl).trans y2, (c1 _ _ hl).trans y3, (c1 _ _ hl).trans y4, (c1 _ _ hl).trans y5⟩
  have HO0 := Lib.hid hO0
  have hW0' := Lib.hid hW0
  clear hW0 hO0 h0
  gi_wp2_with (refine ⟨trivial, ?_⟩; gi_at_call 21; rw [← hW0'.out]; refine callsIn_wide.2 (made_k room A0 cap0 z0 HO0.out (fun w2 hb2 => ?k0) (fun w2 tt A c L X2 => ?k1)))
  · have e6 := ((bcell hb2).1 (w.heap.size + 1) 0 (by omega)).trans d6
    have f6 := ((bcell hb2).2 (w.heap.size + 1) 0 (by omega)).trans g6
    have hz2 := hb2.size
    have hl1 : w.heap.size + 1 < w2.heap.size := by omega
    have hba : Below w2.heap.size w2 (w2.alloc (.cells #[.slice none 0 0] 28)) := (Below.refl _ _).alloc (Nat.le_refl _) _
    have e6' := ((bcell hba).1 (w.heap.size + 1) 0 hl1).trans e6
    have f6' := ((bcell hba).2 (w.heap.size + 1) 0 hl1).trans f6
    have HB2 := Lib.hid ((hB0.trans (hb2.mono (by omega))).trans (hba.mono (by omega)))
    have hl2 : w.heap.size + 1 < (w2.alloc (.cells #[.slice none 0 0] 28)).heap.size := by simp; omega
    have E6 := Lib.hid e6'
    have F6 := Lib.hid f6'
    have HL2 := Lib.hid hl2
    clear hb2 hB0 d5 d6 g6 hW0' e6 f6 e6' f6' hba hl2
    gi_wp2_with (refine ⟨trivial, ?_⟩; gi_at_call 8; refine callsIn_wide.2 (alive_k (fun w3 hb3 => ?_)); have e7 := ((bcell hb3).1 _ _ HL2.out).trans E6.out; have f7 := ((bcell hb3).2 _ _ HL2.out).trans F6.out; have HB3 := Lib.hid (HB2.out.trans (hb3.mono HB2.out.size)); clear hb3)
    have cz : (w3.setCell ⟨w.heap.size + 1, 0, none⟩ (.bool true)).cell? ⟨w.heap.size + 1, 0, none⟩ = some (.bool true) := World.cell?_setCell_same _ _ _ e7
    exact ⟨.bool true, by simp [results, Try.results5, go_sem, cz], rfl, HB3.out.setCell (p := ⟨w.heap.size + 1, 0, none⟩) (by simp) _⟩
  · obtain ⟨T, t, ⟨h, htt, H2, I2, hB2, hR2, hsep⟩, -, hin⟩ := X2
    subst htt
    have hw2 := hB2.size
    have hown0 : ∀ k, h.own k → W0.heap.size ≤ k ∧ k < w2.heap.size := fun k hk => H2.lt hk
    obtain ⟨W3, hW3⟩ : ∃ W3, W3 = (w2.alloc (.cells #[.slice A L.length c] 28)).alloc (.cells #[.int .i64 L.length] 3) := ⟨_, rfl⟩
    have hB23 : Below w2.heap.size w2 W3 := by rw [hW3]; exact ((Below.refl _ _).alloc (Nat.le_refl _) _).alloc (by simp) _
    have hz3 : W3.heap.size = w2.heap.size + 2 := by rw [hW3]; simp
    have d8 : W3.cell? ⟨w2.heap.size, 0, none⟩ = some (.slice A L.length c) := by rw [hW3]; simp
    have d10 : W3.cell? ⟨w2.heap.size + 1, 0, none⟩ = some (.int .i64 L.length) := by rw [hW3]; simp
    have g10 : W3.frozen? ⟨w2.heap.size + 1, 0, none⟩ = false := by rw [hW3]; simp
    have hW3' := Lib.hid hW3
    clear hW3
    gi_wp2_with (refine ⟨trivial, ?_⟩; gi_at_call 22; rw [← hW3'.out]; refine callsIn_wide.2 (Down_k h (fun m1 m2 w4 B4 X4 hm1 hm2 hm3 hm4 => ?_)))
    have hz4 := B4.size
    have hB02 : Below w.heap.size w w2 := hB0.trans (hB2.mono (by omega))
    have hB04 : Below w.heap.size w w4 := (hB02.trans (hB23.mono (by omega))).trans (B4.mono (by omega))
    have D4 : DB w.heap.size w2.heap.size stop (.slice A L.length c) L.length w4 := by
      obtain ⟨p1, p2⟩ := bcell hB2
      obtain ⟨q1, q2⟩ := bcell hB23
      obtain ⟨r1, r2⟩ := bcell B4
      exact ⟨(r1 _ _ (by omega)).trans ((q1 _ _ (by omega)).trans ((p1 _ _ (by omega)).trans d5)), (r1 _ _ (by omega)).trans ((q1 _ _ (by omega)).trans ((p1 _ _ (by omega)).trans d6)), (r2 _ _ (by omega)).trans ((q2 _ _ (by omega)).trans ((p2 _ _ (by omega)).trans g6)),
        (r1 _ _ (by omega)).trans d8, (r1 _ _ (by omega)).trans d10, (r2 _ _ (by omega)).trans g10, by omega, by omega⟩
    have H4 := (H2.below hB23).below B4
    have R4 := (hR2.below hB23).below B4
    have hS : ∀ k, WS h m1 m2 k → k < w4.heap.size := fun k hk => hk.elim (fun e => by have := (hown0 k e).2; omega) (fun e => by omega)
    have hnS : ∀ k, k = w.heap.size ∨ k = w.heap.size + 1 ∨ k = w2.heap.size ∨ k = w2.heap.size + 1 → ¬ WS h m1 m2 k := fun k hk hs => by
      rcases hs with hs | hs | hs
      · have := hown0 k hs; omega
      · omega
      · omega
    obtain ⟨kd, i0, hE, hW⟩ := I2.walk false
    have hrev : inD false t = L.reverse := by rw [inD_rev, hin]
    rw [hrev] at hW
    have hln : L.length ≤ 65536 := by have h5 := I2.len; have h6 := H2.ln; rw [hin] at h5; omega
    refine wpIn_mono (Q := Exit.inBlock 0 (fun e a' W => e = .normal ∧ ∃ D nn : Nat, a' = { tmps := #[Value.int IntKind.i64 room, Value.slice A0 z0.length cap0, Value.int IntKind.i64 stop, undef, undef,
          Value.pointer (some { block := w.heap.size, off := 0 }),
          Value.pointer (some { block := w.heap.size + 1, off := 0 }), Value.pointer (some { block := h.t, off := 0 }),
          Value.pointer (some { block := w2.heap.size, off := 0 }), Value.bool true,
          Value.pointer (some { block := w2.heap.size + 1, off := 0 }), undef, undef, undef,
          Value.tuple #[Value.pointer (some { block := h.t, off := 0 }), Value.slice A L.length c, Value.bool true],
          Value.int IntKind.i64 room, Value.slice A0 z0.length cap0,
          Value.tuple #[Value.pointer (some { block := h.t, off := 0 }), Value.slice A L.length c, Value.bool true],
          Value.pointer (some { block := h.t, off := 0 }), Value.slice A L.length c, Value.bool true, Value.bool true,
          Value.bool false, undef, Value.slice A L.length c, Value.int IntKind.i64 L.length,
          Value.pointer (some { block := h.t, off := 0 }),
          Value.func (Fn.func 65) #[]
            #[Value.pointer (some { block := m1, off := 0 }), Value.pointer (some { block := m2, off := 0 })],
          undef, undef, undef, undef, undef, undef, undef, undef, undef, undef, undef, undef, undef, undef, undef, undef, undef, undef, undef, undef, undef, undef, undef, undef, undef, undef, undef, undef, undef, undef, undef, undef, undef, undef, undef, undef, undef, undef, undef, undef, undef, undef, undef, undef, undef, undef, undef, undef, undef, undef, undef, undef, undef, undef, undef, undef, undef, undef, undef, undef, undef], defers := [{ target := .collected D, args := #[] }] } ∧ w4.heap.size ≤ D ∧ (nn = 0 ∨ (L.length : Int) - nn = stop) ∧ nn ≤ L.length ∧ DB w.heap.size w2.heap.size stop (.slice A L.length c) nn W ∧ Tree W W0.heap.size h T ∧ SRow W W0.heap.size (.slice A L.length c) L ∧ Below w.heap.size w W ∧ w4.heap.size ≤ W.heap.size ∧ W.heap[D]? = some (.deferred (some [])))) ?range (inBlock_mono ?rest)
    case rest =>
      rintro e a' W ⟨rfl, D, nn, rfl, hD, hcond, hnl, x2, x3, x4, x5, x6, hK⟩
      have c5 := x2.c5
      have c8 := x2.c8
      have c10 := x2.c10
      have hXX := Lib.hid (And.intro x2 (And.intro x3 (And.intro x4 (And.intro x5 (And.intro x6 hK)))))
      have hszW := x2.sz
      clear x2 x3 x4 x5 x6 hK D4 H4 R4 hE hW
      have ways : nn = 0 ∨ (((nn : Int) != 0) = true ∧ ((L.length : Int) - (nn : Int) != stop) = false) := by
        rcases Nat.eq_zero_or_pos nn with h | h
        · exact .inl h
        · refine .inr ⟨by rw [bne_iff_ne]; omega, ?_⟩
          rw [bne_eq_false_iff_eq]
          exact hcond.resolve_left (by omega)
      clear hcond
      obtain ⟨W5, hW5⟩ : ∃ W5, W5 = W.alloc (.cells #[.int .i64 0] 3) := ⟨_, rfl⟩
      have hB5 : Below W.heap.size W W5 := by rw [hW5]; exact (Below.refl _ _).alloc (Nat.le_refl _) _
      have d12 : W5.cell? ⟨W.heap.size, 0, none⟩ = some (.int .i64 0) := by rw [hW5]; simp
      have g12 : W5.frozen? ⟨W.heap.size, 0, none⟩ = false := by rw [hW5]; simp
      have hz5 : W5.heap.size = W.heap.size + 1 := by rw [hW5]; simp
      have hW5' := Lib.hid hW5
      clear hW5
      rcases ways with rfl | ⟨hne, hse⟩
      all_goals gi_wp2_with fail
      all_goals clear c5 c8 c10
      all_goals (try clear hne hse)
      all_goals
        gi_wp2_with (refine ⟨trivial, ?_⟩; gi_at_call 23; rw [← hW5'.out]; refine callsIn_wide.2 (All_k h (fun m3 m4 w6 B6 X6 hm5 hm6 hm7 hm8 => ?_)))
        obtain ⟨x2, x3, x4, x5, x6, hK⟩ := hXX.out
        clear hXX
        have hz6 := B6.size
        have hDl := lt_of_heap hK
        have hB06 := x5.trans ((hB5.mono (by omega)).trans (B6.mono (by omega)))
        have D6 := (x2.below hB5 (by omega)).below B6 (by omega)
        have H6 := (x3.below hB5).below B6
        have R6 := (x4.below hB5).below B6
        have K6 := (B6.block D (by omega)).trans ((hB5.block D hDl).trans hK)
        have hDw6 : D < w6.heap.size := lt_of_heap K6
        have c12 := ((bcell B6).1 _ _ (by omega)).trans d12
        have f12 := ((bcell B6).2 _ _ (by omega)).trans g12
        have hS2 : ∀ k, WS h m3 m4 k → k < w6.heap.size := fun k hk => hk.elim (fun e => by have := (hown0 k e).2; omega) (fun e => by omega)
        have hnS2 : ¬ WS h m3 m4 W.heap.size := fun hs => by
          rcases hs with hs | hs | hs
          · have := hown0 _ hs; omega
          · omega
          · omega
        obtain ⟨ku, i1, hE2, hL2⟩ := I2.walk true
        have hin2 : inD true t = L := hin
        rw [hin2] at hL2
        clear x2 x3 x4 x5 hK d12 g12 hW5'
        refine wpIn_mono (Q := Exit.inBlock 2 (fun e a' V => e = .normal ∧ ∃ (D2 k : Nat) (u47 u48 u49 u50 u51 u52 u53 u54 u55 u56 : Value), a' = { tmps := #[Value.int IntKind.i64 room, Value.slice A0 z0.length cap0, Value.int IntKind.i64 stop, undef, undef,
          Value.pointer (some { block := w.heap.size, off := 0 }),
          Value.pointer (some { block := w.heap.size + 1, off := 0 }), Value.pointer (some { block := h.t, off := 0 }),
          Value.pointer (some { block := w2.heap.size, off := 0 }), Value.bool true,
          Value.pointer (some { block := w2.heap.size + 1, off := 0 }), undef, Value.pointer (some { block := W.heap.size, off := 0 }), undef,
          Value.tuple #[Value.pointer (some { block := h.t, off := 0 }), Value.slice A L.length c, Value.bool true],
          Value.int IntKind.i64 room, Value.slice A0 z0.length cap0,
          Value.tuple #[Value.pointer (some { block := h.t, off := 0 }), Value.slice A L.length c, Value.bool true],
          Value.pointer (some { block := h.t, off := 0 }), Value.slice A L.length c, Value.bool true, Value.bool true,
          Value.bool false, undef, Value.slice A L.length c, Value.int IntKind.i64 L.length,
          Value.pointer (some { block := h.t, off := 0 }),
          Value.func (Fn.func 65) #[]
            #[Value.pointer (some { block := m1, off := 0 }), Value.pointer (some { block := m2, off := 0 })],
          undef, undef, undef, undef, undef, undef, undef, undef, undef, undef, undef, undef, undef, undef, undef, undef, undef, undef, undef, u47, u48, u49, u50, u51, u52, u53, u54, u55, u56, Value.pointer (some { block := h.t, off := 0 }), Value.func (Fn.func 65) #[] #[Value.pointer (some { block := m3, off := 0 }), Value.pointer (some { block := m4, off := 0 })], undef, undef, undef, undef, undef, undef, undef, undef, undef, undef, undef, undef, undef, undef, undef, undef, undef, undef, undef, undef, undef, undef, undef, undef, undef, undef, undef, undef, undef, undef], defers := [{ target := .collected D2, args := #[] }, { target := .collected D, args := #[] }] } ∧ w6.heap.size ≤ D2 ∧ (k = L.length ∨ (k : Int) = stop) ∧ k ≤ L.length ∧ (∃ n, DB w.heap.size w2.heap.size stop (.slice A L.length c) n V) ∧ V.cell? ⟨W.heap.size, 0, none⟩ = some (.int .i64 k) ∧ Below w.heap.size w V ∧ V.heap[D]? = some (.deferred (some [])) ∧ w6.heap.size ≤ V.heap.size ∧ V.heap[D2]? = some (.deferred (some [])))) ?range2 (inBlock_mono ?rest2)
        case rest2 =>
          rintro e a' V ⟨rfl, D2, k, u47, u48, u49, u50, u51, u52, u53, u54, u55, u56, rfl, hD2, hcond, hkl, ⟨n, x2⟩, c12, x5, kD, x6, kD2⟩
          clear D6 H6 R6 K6 hE2 hL2
          have e5 := x2.c5
          have e6 := x2.c6
          have e8 := x2.c8
          have g6 := x2.f6
          have hszV := x2.sz
          have f12 := lt_of_heap kD2
          have hbs : ((k : Int) == stop) = true ∨ (((k : Int) == stop) = false ∧ ((k : Int) == (L.length : Int)) = true) := by
            cases hks : ((k : Int) == stop) with
            | true => exact .inl rfl
            | false =>
              refine .inr ⟨rfl, ?_⟩
              rw [beq_iff_eq]
              rcases hcond with h | h
              · omega
              · rw [beq_eq_false_iff_ne] at hks; exact absurd h hks
          have HX5 := Lib.hid x5
          have HKD := Lib.hid kD
          have HKD2 := Lib.hid kD2
          have hl0 : w.heap.size < V.heap.size := by omega
          have hl1 : w.heap.size + 1 < V.heap.size := by omega
          have hl2 : w2.heap.size < V.heap.size := by omega
          have hl3 : W.heap.size < V.heap.size := by omega
          have hne1 : D2 ≠ w.heap.size + 1 := by omega
          have hne2 : D ≠ w.heap.size + 1 := by omega
          have hne3 : D2 ≠ D := by omega
          clear x2 x5 kD kD2 hcond
          rcases hbs with hks | ⟨hks, hkl2⟩
          all_goals gi_wp2_with (refine ⟨trivial, ?_⟩; gi_at_call 8; refine callsIn_wide.2 (alive_k (fun w7 hb7 => ?_)); obtain ⟨q1, q2⟩ := bcell hb7; have p5 := (q1 _ 0 hl0).trans e5; have p6 := (q1 _ 0 hl1).trans e6; have p8 := (q1 _ 0 hl2).trans e8; have p12 := (q1 _ 0 hl3).trans c12; have pf6 := (q2 _ 0 hl1).trans g6; have HB7 := Lib.hid hb7; clear hb7 q1 q2)
          all_goals
            have hb7 := HB7.out
            have ka : (w7.setCell ⟨w.heap.size + 1, 0, none⟩ (.bool true)).heap[D2]? = some (.deferred (some [])) := by
              rw [setCell_other hne1, hb7.block D2 (lt_of_heap HKD2.out)]; exact HKD2.out
            have kb : ((w7.setCell ⟨w.heap.size + 1, 0, none⟩ (.bool true)).putObj D2 (.deferred none)).heap[D]? = some (.deferred (some [])) := by
              rw [World.putObj_heap_other (by omega), setCell_other hne2, hb7.block D (lt_of_heap HKD.out)]; exact HKD.out
            have cz : (((w7.setCell ⟨w.heap.size + 1, 0, none⟩ (.bool true)).putObj D2 (.deferred none)).putObj D (.deferred none)).cell? ⟨w.heap.size + 1, 0, none⟩ = some (.bool true) := by
              rw [World.cell?_of_block (w := (w7.setCell ⟨w.heap.size + 1, 0, none⟩ (.bool true)).putObj D2 (.deferred none)) (World.putObj_heap_other (by simp only; omega)), World.cell?_of_block (w := w7.setCell ⟨w.heap.size + 1, 0, none⟩ (.bool true)) (World.putObj_heap_other (by simp only; omega))]
              exact World.cell?_setCell_same _ _ _ p6
            refine ⟨by simp, .inl ⟨_, _, rfl, run_takeDeferred ka, ⟨by simp, .inl ⟨_, _, rfl, run_takeDeferred kb, ?_⟩⟩⟩⟩
            refine ⟨.bool true, by simp [results, Try.results5, go_sem, cz], rfl, ?_⟩
            exact (((HX5.out.trans (hb7.mono (by omega))).setCell (p := ⟨w.heap.size + 1, 0, none⟩) (by simp) _).trans (putObj_below (by omega))).trans (putObj_below (by omega))
        case range2 =>
          refine wpIn_rangeFunc_ownH (n := 9) rfl (by omega) (gf := 65) (lb := #[.pointer (some ⟨m3, 0, none⟩), .pointer (some ⟨m4, 0, none⟩)]) rfl trivial (enters_of Try.func65 (by kernel_rfl) rfl)
            (up_stops 8 (by omega) H6 X6 hE2 hL2) Kq.t (Kq.put hS2) (Below.refl _ _) (fun _ => rfl)
            (fun pre V => pre.length ≤ L.length ∧ (∃ n, DB w.heap.size w2.heap.size stop (.slice A L.length c) n V) ∧ V.cell? ⟨W.heap.size, 0, none⟩ = some (.int .i64 (pre.length : Nat)) ∧ V.frozen? ⟨W.heap.size, 0, none⟩ = false ∧ Tree V W0.heap.size h T ∧ SRow V W0.heap.size (.slice A L.length c) L ∧ Below w.heap.size w V ∧ V.heap[D]? = some (.deferred (some [])) ∧ w6.heap.size ≤ V.heap.size)
            (fun cd pre V => (cd = .exit 2 ∧ (pre.length : Int) = stop ∧ pre.length ≤ L.length ∧ (∃ n, DB w.heap.size w2.heap.size stop (.slice A L.length c) n V) ∧ V.cell? ⟨W.heap.size, 0, none⟩ = some (.int .i64 (pre.length : Nat)) ∧ V.frozen? ⟨W.heap.size, 0, none⟩ = false ∧ Tree V W0.heap.size h T ∧ SRow V W0.heap.size (.slice A L.length c) L ∧ Below w.heap.size w V ∧ V.heap[D]? = some (.deferred (some [])) ∧ w6.heap.size ≤ V.heap.size) ∨ (cd = .ret ∧ ¬ pre <+: L))
            ?own2 ?ownx2 ?start2
            (fun s a' V => ∃ (Bx : Nat) (u47 u48 u49 u50 u51 u52 u53 u54 u55 u56 : Value), w6.heap.size ≤ Bx ∧ SegAt V Bx s ∧ a' = { tmps := #[Value.int IntKind.i64 room, Value.slice A0 z0.length cap0, Value.int IntKind.i64 stop, undef, undef,
          Value.pointer (some { block := w.heap.size, off := 0 }),
          Value.pointer (some { block := w.heap.size + 1, off := 0 }), Value.pointer (some { block := h.t, off := 0 }),
          Value.pointer (some { block := w2.heap.size, off := 0 }), Value.bool true,
          Value.pointer (some { block := w2.heap.size + 1, off := 0 }), undef, Value.pointer (some { block := W.heap.size, off := 0 }), .pointer (some ⟨Bx, 0, none⟩),
          Value.tuple #[Value.pointer (some { block := h.t, off := 0 }), Value.slice A L.length c, Value.bool true],
          Value.int IntKind.i64 room, Value.slice A0 z0.length cap0,
          Value.tuple #[Value.pointer (some { block := h.t, off := 0 }), Value.slice A L.length c, Value.bool true],
          Value.pointer (some { block := h.t, off := 0 }), Value.slice A L.length c, Value.bool true, Value.bool true,
          Value.bool false, undef, Value.slice A L.length c, Value.int IntKind.i64 L.length,
          Value.pointer (some { block := h.t, off := 0 }),
          Value.func (Fn.func 65) #[]
            #[Value.pointer (some { block := m1, off := 0 }), Value.pointer (some { block := m2, off := 0 })],
          undef, undef, undef, undef, undef, undef, undef, undef, undef, undef, undef, undef, undef, undef, undef, undef, undef, undef, undef, u47, u48, u49, u50, u51, u52, u53, u54, u55, u56, Value.pointer (some { block := h.t, off := 0 }), Value.func (Fn.func 65) #[] #[Value.pointer (some { block := m3, off := 0 }), Value.pointer (some { block := m4, off := 0 })], .agg #[.int .i64 s.ls, .int .i64 s.la, .int .i64 s.hs, .int .i64 s.ha, .int .i64 s.v], undef, undef, undef, undef, undef, undef, undef, undef, undef, undef, undef, undef, undef, undef, undef, undef, undef, undef, undef, undef, undef, undef, undef, undef, undef, undef, undef, undef, undef], defers := [] })
            (fun s a' _ V V' row hs hg hr => by
              obtain ⟨Bx, u47, u48, u49, u50, u51, u52, u53, u54, u55, u56, h1, h2, h3⟩ := hs
              exact ⟨Bx, u47, u48, u49, u50, u51, u52, u53, u54, u55, u56, h1, cells_kept h2 hg (fun r e => (hr r e).2), h3⟩) ?assign2 ?body2 ?done2 ?stop2
          case own2 =>
            refine ownFrom_of (fun _ _ hs => hs.2.2.2.2.2.2.2.2) ?_
            rintro pre V V' ⟨x1, ⟨n, x2⟩, xc, xf, x3, x4, x5, xk, x6⟩ hb
            exact ⟨x1, ⟨n, x2.below hb (by omega)⟩, ((bcell hb).1 _ _ (by omega)).trans xc, ((bcell hb).2 _ _ (by omega)).trans xf, x3.fr (below_frm hb) (fun k hk => by have := hown0 k hk; omega), x4.fr (below_frm hb) (fun k hk => by have := (hR2.lt hk).2; omega), x5.trans (hb.mono (by omega)), (hb.block D (lt_of_heap K6 |> fun h => by have := B6.size; have := lt_of_heap K6; omega)).trans xk, Nat.le_trans x6 hb.size⟩
          case ownx2 =>
            intro cd s V V' row hs hg hr
            rcases hs with ⟨hc, hst, x1, ⟨n, x2⟩, xc, xf, x3, x4, x5, xk, x6⟩ | hs
            · have hb : Below w6.heap.size V V' := grown_below hg x6 hr
              exact .inl ⟨hc, hst, x1, ⟨n, x2.below hb (by omega)⟩, ((bcell hb).1 _ _ (by omega)).trans xc, ((bcell hb).2 _ _ (by omega)).trans xf, x3.fr (below_frm hb) (fun k hk => by have := hown0 k hk; omega), x4.fr (below_frm hb) (fun k hk => by have := (hR2.lt hk).2; omega), x5.trans (hb.mono (by omega)), (hb.block D (lt_of_heap K6)).trans xk, Nat.le_trans x6 hb.size⟩
            · exact .inr hs
          case start2 => exact ⟨Nat.zero_le _, ⟨_, D6⟩, c12, f12, H6, R6, hB06, K6, Nat.le_refl _⟩
          case assign2 =>
            rintro l pre x V K ⟨x1, ⟨n, x2⟩, xc, xf, x3, x4, x5, xk, x6⟩ hK
            obtain ⟨V', hV'⟩ : ∃ V', V' = V.alloc (.cells #[.int .i64 x.ls, .int .i64 x.la, .int .i64 x.hs, .int .i64 x.ha, .int .i64 x.v] 36) := ⟨_, rfl⟩
            have hb : Below V.heap.size V V' := by rw [hV']; exact (Below.refl _ _).alloc (Nat.le_refl _) _
            have hI : pre.length ≤ L.length ∧ (∃ n, DB w.heap.size w2.heap.size stop (.slice A L.length c) n V') ∧ V'.cell? ⟨W.heap.size, 0, none⟩ = some (.int .i64 (pre.length : Nat)) ∧ V'.frozen? ⟨W.heap.size, 0, none⟩ = false ∧ Tree V' W0.heap.size h T ∧ SRow V' W0.heap.size (.slice A L.length c) L ∧ Below w.heap.size w V' ∧ V'.heap[D]? = some (.deferred (some [])) ∧ w6.heap.size ≤ V'.heap.size :=
              ⟨x1, ⟨n, x2.below hb x2.sz⟩, ((bcell hb).1 _ _ (by omega)).trans xc, ((bcell hb).2 _ _ (by omega)).trans xf, x3.below hb, x4.below hb, x5.trans (hb.mono (by omega)), (hb.block D (lt_of_heap xk)).trans xk, Nat.le_trans x6 hb.size⟩
            have hk1 : KeepsFrom w6.heap.size V V' := by rw [hV']; exact (KeepsOthers.alloc _ _).from _
            have hk2 : Kq (WS h m3 m4) V V' := by rw [hV']; exact Fr.alloc _ _ _
            have hk3 : SegAt V' V.heap.size x := by rw [hV']; exact heap_alloc_new _ _
            have HI := Lib.hid (And.intro hI (And.intro hk1 (And.intro hk2 hk3)))
            have HKK := Lib.hid hK
            have HV := Lib.hid hV'
            clear hb hK x2 x3 x4 x5 xc xf xk hI hk1 hk2 hk3 hV'
            gi_wp2
            rw [← HV.out]
            exact HKK.out _ _ HI.out.2.1 HI.out.2.2.1 HI.out.1 ⟨V.heap.size, _, _, _, _, _, _, _, _, _, _, x6, HI.out.2.2.2, rfl⟩
          case body2 =>
            rintro l pre x a' V hl hr ⟨x1, ⟨n, x2⟩, xc, xf, x3, x4, x5, xk, x6⟩ ⟨Bx, u47, u48, u49, u50, u51, u52, u53, u54, u55, u56, hBx, bX, rfl⟩ hlt
            have hLk := List.getElem?_eq_getElem hlt
            generalize L[pre.length] = y at hLk
            obtain ⟨g, cap', hg1, hg2, -, -⟩ := owns_form x4 (by omega)
            obtain ⟨rfl, -, rfl⟩ := Value.slice.inj hg2
            obtain ⟨y0, y1, y2, y3, y4⟩ := x4.cells hLk
            have bX' : V.heap[Bx]? = _ := bX
            have q0 : V.cell? ⟨Bx, 0, none⟩ = some (.int .i64 x.ls) := by simp [World.cell?, bX']
            have q1 : V.cell? ⟨Bx, 1, none⟩ = some (.int .i64 x.la) := by simp [World.cell?, bX']
            have q2 : V.cell? ⟨Bx, 2, none⟩ = some (.int .i64 x.hs) := by simp [World.cell?, bX']
            have q3 : V.cell? ⟨Bx, 3, none⟩ = some (.int .i64 x.ha) := by simp [World.cell?, bX']
            have q4 : V.cell? ⟨Bx, 4, none⟩ = some (.int .i64 x.v) := by simp [World.cell?, bX']
            have c5 := x2.c5
            have c6 := x2.c6
            have f6 := x2.f6
            have c8 := x2.c8
            have hgw : g < w2.heap.size := by have := (hR2.lt (k := g) rfl).2; omega
            have hszV := x2.sz
            obtain ⟨pl, hpl⟩ : ∃ pl, pl = pre.length := ⟨_, rfl⟩
            rw [← hpl] at xc y0 y1 y2 y3 y4 hlt
            have t1 : decide ((L.length : Int) ≤ (pl : Int)) = false := decide_eq_false (by omega)
            have n1 : W.heap.size ≠ w.heap.size := by omega
            have hXX := Lib.hid (And.intro x1 (And.intro (show ∃ n, DB w.heap.size w2.heap.size stop (.slice (some ⟨g, 0, none⟩) L.length c) n V from ⟨n, x2⟩) (And.intro x3 (And.intro x4 (And.intro x5 (And.intro xk x6))))))
            have hY := Lib.hid hLk
            have hPl := Lib.hid hpl
            have hBl := lt_of_heap bX'
            have hcc := Lib.hid xc
            clear x1 x2 x3 x4 x5 xk x6 hLk bX bX' hpl D6 H6 R6 hE2 hL2
            cases he : eqS x y with
            | false =>
              have hnp : ¬ pre ++ [x] <+: L := fun hp => by
                obtain ⟨tl, htl⟩ := hp
                have h1 : (pre ++ [x] ++ tl)[pre.length]? = some x := by simp
                rw [htl, hY.out] at h1
                have := (eqS_iff x y).2 (Option.some.inj h1).symm
                rw [he] at this; cases this
              have HNP := Lib.hid hnp
              unfold eqS at he
              clear hnp
              gi_wp2_with fail
              refine wpIn_region_qbr (by kernel_rfl) (by kernel_rfl) (by kernel_rfl) ?_
              repeat (first | (with_reducible refine wpQuiet_step (fun K hK => ?_); go_simp; first | (with_reducible refine hK _ ?_; clear hK K) | (apply Exists.intro; with_reducible refine ⟨fun W hW => ?_, hK _ ?_⟩; (first | fail | ((try obtain ⟨hc, hf⟩ := bcell hW); (try go_simp); first | done | exact ⟨rfl, rfl⟩ | rfl)); clear hK K)) | (with_reducible refine wpQ_skip (by with_unfolding_all rfl) ?_))
              refine wpQuiet_nil ?_
              all_goals gi_wp2
              all_goals exact ⟨(keeps_below (Below.drew (Below.refl _ _))).trans ((KeepsOthers.setCell _ _ _).from _), .inr ⟨rfl, HNP.out⟩⟩
            | true =>
              obtain ⟨V', hV'⟩ : ∃ V', V' = (V.setCell ⟨W.heap.size, 0, none⟩ (.int .i64 ((pl : Int) + 1))).drew := ⟨_, rfl⟩
              have F : Fr (fun k => k = W.heap.size) V V' := by rw [hV']; exact (Fr.setCell (S := fun k => k = W.heap.size) _ _ _ rfl).trans (Fr.drew _ _)
              have hkf : KeepsFrom w6.heap.size V V' := by rw [hV']; exact ((KeepsOthers.setCell _ _ _).from _).trans (keeps_below (Below.drew (Below.refl _ _)))
              have hkq : Kq (WS h m3 m4) V V' := by rw [hV']; exact Kq.t (Kq.setCell _ _ _ hnS2) (Fr.drew _ _)
              have hstep : (pre ++ [x]).length ≤ L.length ∧ (∃ n, DB w.heap.size w2.heap.size stop (.slice (some ⟨g, 0, none⟩) L.length c) n V') ∧ V'.cell? ⟨W.heap.size, 0, none⟩ = some (.int .i64 ((pre ++ [x]).length : Nat)) ∧ V'.frozen? ⟨W.heap.size, 0, none⟩ = false ∧ Tree V' W0.heap.size h T ∧ SRow V' W0.heap.size (.slice (some ⟨g, 0, none⟩) L.length c) L ∧ Below w.heap.size w V' ∧ V'.heap[D]? = some (.deferred (some [])) ∧ w6.heap.size ≤ V'.heap.size := by
                obtain ⟨x1, ⟨n, x2⟩, x3, x4, x5, xk, x6⟩ := hXX.out
                have hpo := hPl.out
                refine ⟨by simp; omega, ⟨n, x2.fr F (by omega) (by omega) (by omega) (by omega)⟩, ?_, ?_, x3.fr F (fun k hk => by have := hown0 k hk; omega), x4.fr F (fun k hk => by have := (hR2.lt hk).2; omega), x5.trans (F.below (B := w.heap.size) (by omega) (fun k hk => by omega)), ?_, Nat.le_trans x6 F.size⟩
                · rw [hV', hPl.out]
                  rw [World.cell?_drew, World.cell?_setCell_same V ⟨W.heap.size, 0, none⟩ (.int .i64 ((pre.length : Int) + 1)) hcc.out]
                  simp
                · rw [hV', World.frozen?_drew, World.frozen?_setCell]; exact xf
                · rw [F.block D (lt_of_heap xk) (by omega)]; exact xk
              have HST := Lib.hid hstep
              have HKF := Lib.hid hkf
              have HKQ := Lib.hid hkq
              have HV := Lib.hid hV'
              have hlen1 : ((pre ++ [x]).length : Int) = (pl : Int) + 1 := by rw [hPl.out]; simp
              have HL1 := Lib.hid hlen1
              unfold eqS at he
              clear hstep hkf hkq hV' F hlen1
              cases hst : ((pl : Int) + 1 == stop) with
              | false =>
                gi_wp2_with fail
                refine wpIn_region_qbr (by kernel_rfl) (by kernel_rfl) (by kernel_rfl) ?_
                repeat (first | (with_reducible refine wpQuiet_step (fun K hK => ?_); go_simp; first | (with_reducible refine hK _ ?_; clear hK K) | (apply Exists.intro; with_reducible refine ⟨fun W hW => ?_, hK _ ?_⟩; (first | fail | ((try obtain ⟨hc, hf⟩ := bcell hW); (try go_simp); first | done | exact ⟨rfl, rfl⟩ | rfl)); clear hK K)) | (with_reducible refine wpQ_skip (by with_unfolding_all rfl) ?_))
                refine wpQuiet_nil ?_
                all_goals gi_wp2
                all_goals rw [← HV.out]
                all_goals exact ⟨HKF.out, HKQ.out, HST.out⟩
              | true =>
                have hse : ((pre ++ [x]).length : Int) = stop := by rw [HL1.out]; exact beq_iff_eq.1 hst
                have HSE := Lib.hid hse
                clear hse
                gi_wp2_with fail
                refine wpIn_region_qbr (by kernel_rfl) (by kernel_rfl) (by kernel_rfl) ?_
                repeat (first | (with_reducible refine wpQuiet_step (fun K hK => ?_); go_simp; first | (with_reducible refine hK _ ?_; clear hK K) | (apply Exists.intro; with_reducible refine ⟨fun W hW => ?_, hK _ ?_⟩; (first | fail | ((try obtain ⟨hc, hf⟩ := bcell hW); (try go_simp); first | done | exact ⟨rfl, rfl⟩ | rfl)); clear hK K)) | (with_reducible refine wpQ_skip (by with_unfolding_all rfl) ?_))
                refine wpQuiet_nil ?_
                all_goals gi_wp2
                all_goals rw [← HV.out]
                all_goals exact ⟨HKF.out, .inl ⟨rfl, HSE.out, HST.out⟩⟩
          case done2 =>
            rintro D2 ys V hD2 rfl ⟨x1, x2, xc, xf, x3, x4, x5, xk, x6⟩ hK2
            exact ⟨rfl, D2, ys.length, _, _, _, _, _, _, _, _, _, _, rfl, hD2, .inl rfl, Nat.le_refl _, x2, xc, x5, xk, x6, hK2⟩
          case stop2 =>
            rintro D2 cd pre V hD2 hp hx hK2
            rcases hx with ⟨rfl, hst, x1, x2, xc, xf, x3, x4, x5, xk, x6⟩ | ⟨-, hn⟩
            · gi_wp2
              exact ⟨trivial, D2, pre.length, _, _, _, _, _, _, _, _, _, _, rfl, hD2, .inr hst, x1, x2, xc, x5, xk, x6, hK2⟩
            · exact absurd hp hn
    case range =>
      refine wpIn_rangeFunc_ownH (n := 9) rfl (by omega) (gf := 65) (lb := #[.pointer (some ⟨m1, 0, none⟩), .pointer (some ⟨m2, 0, none⟩)]) rfl trivial (enters_of Try.func65 (by kernel_rfl) rfl)
        (down_stops 8 (by omega) H4 X4 hE hW) Kq.t (Kq.put hS) (Below.refl _ _) (fun _ => rfl)
        (fun pre W => pre.length ≤ L.length ∧ DB w.heap.size w2.heap.size stop (.slice A L.length c) ((L.length - pre.length : Nat) : Int) W ∧ Tree W W0.heap.size h T ∧ SRow W W0.heap.size (.slice A L.length c) L ∧ Below w.heap.size w W ∧ w4.heap.size ≤ W.heap.size)
        (fun cd pre W => (cd = .exit 0 ∧ (pre.length : Int) = stop ∧ pre.length ≤ L.length ∧ DB w.heap.size w2.heap.size stop (.slice A L.length c) ((L.length - pre.length : Nat) : Int) W ∧ Tree W W0.heap.size h T ∧ SRow W W0.heap.size (.slice A L.length c) L ∧ Below w.heap.size w W ∧ w4.heap.size ≤ W.heap.size) ∨ (cd = .ret ∧ ¬ pre <+: L.reverse))
        ?own ?ownx ?start
        (fun s a' W => ∃ Bx, w4.heap.size ≤ Bx ∧ SegAt W Bx s ∧ a' = { tmps := #[Value.int IntKind.i64 room, Value.slice A0 z0.length cap0, Value.int IntKind.i64 stop, undef, undef,
            Value.pointer (some { block := w.heap.size, off := 0 }),
            Value.pointer (some { block := w.heap.size + 1, off := 0 }), Value.pointer (some { block := h.t, off := 0 }),
            Value.pointer (some { block := w2.heap.size, off := 0 }), Value.bool true,
            Value.pointer (some { block := w2.heap.size + 1, off := 0 }), .pointer (some ⟨Bx, 0, none⟩), undef, undef,
            Value.tuple #[Value.pointer (some { block := h.t, off := 0 }), Value.slice A L.length c, Value.bool true],
            Value.int IntKind.i64 room, Value.slice A0 z0.length cap0,
            Value.tuple #[Value.pointer (some { block := h.t, off := 0 }), Value.slice A L.length c, Value.bool true],
            Value.pointer (some { block := h.t, off := 0 }), Value.slice A L.length c, Value.bool true, Value.bool true,
            Value.bool false, undef, Value.slice A L.length c, Value.int IntKind.i64 L.length,
            Value.pointer (some { block := h.t, off := 0 }),
            Value.func (Fn.func 65) #[]
              #[Value.pointer (some { block := m1, off := 0 }), Value.pointer (some { block := m2, off := 0 })],
            .agg #[.int .i64 s.ls, .int .i64 s.la, .int .i64 s.hs, .int .i64 s.ha, .int .i64 s.v], undef, undef, undef, undef, undef, undef, undef, undef, undef, undef, undef, undef, undef, undef, undef, undef, undef, undef, undef, undef, undef, undef, undef, undef, undef, undef, undef, undef, undef, undef, undef, undef, undef, undef, undef, undef, undef, undef, undef, undef, undef, undef, undef, undef, undef, undef, undef, undef, undef, undef, undef, undef, undef, undef, undef, undef, undef, undef, undef, undef], defers := [] })
        (fun s a' _ W W' row hs hg hr => by
          obtain ⟨Bx, h1, h2, h3⟩ := hs
          exact ⟨Bx, h1, cells_kept h2 hg (fun r e => (hr r e).2), h3⟩) ?assign ?body ?done ?stop
      case own =>
        refine ownFrom_of (fun _ _ hs => hs.2.2.2.2.2) ?_
        rintro pre W W' ⟨x1, x2, x3, x4, x5, x6⟩ hb
        exact ⟨x1, x2.below hb (by omega), x3.fr (below_frm hb) (fun k hk => by have := hown0 k hk; omega), x4.fr (below_frm hb) (fun k hk => by have := (hR2.lt hk).2; omega), x5.trans (hb.mono (by omega)), Nat.le_trans x6 hb.size⟩
      case ownx =>
        intro cd s W W' row hs hg hr
        rcases hs with ⟨hc, hst, x1, x2, x3, x4, x5, x6⟩ | hs
        · have hb : Below w4.heap.size W W' := grown_below hg x6 hr
          exact .inl ⟨hc, hst, x1, x2.below hb (by omega), x3.fr (below_frm hb) (fun k hk => by have := hown0 k hk; omega), x4.fr (below_frm hb) (fun k hk => by have := (hR2.lt hk).2; omega), x5.trans (hb.mono (by omega)), Nat.le_trans x6 hb.size⟩
        · exact .inr hs
      case start => exact ⟨Nat.zero_le _, by simpa using D4, H4, R4, hB04, Nat.le_refl _⟩
      case assign =>
        rintro l pre x W K ⟨x1, x2, x3, x4, x5, x6⟩ hK
        have hb : Below W.heap.size W (W.alloc (.cells #[.int .i64 x.ls, .int .i64 x.la, .int .i64 x.hs, .int .i64 x.ha, .int .i64 x.v] 36)) := (Below.refl _ _).alloc (Nat.le_refl _) _
        have hK' := Lib.hid (hK _ _ ((KeepsOthers.alloc W (.cells #[.int .i64 x.ls, .int .i64 x.la, .int .i64 x.hs, .int .i64 x.ha, .int .i64 x.v] 36)).from _) (Fr.alloc _ _ _) ⟨x1, x2.below hb x2.sz, x3.below hb, x4.below hb, x5.trans (hb.mono (by omega)), by simp; omega⟩ ⟨W.heap.size, by omega, heap_alloc_new _ _, rfl⟩)
        clear hb hK
        gi_wp2
        exact hK'.out
      case body =>
        rintro l pre x a' W hl hr ⟨x1, x2, x3, x4, x5, x6⟩ ⟨Bx, hBx, bX, rfl⟩ hlt
        have hlt2 : pre.length < L.length := by simpa using hlt
        obtain ⟨q, hq⟩ : ∃ q, q + 1 = L.length - pre.length := ⟨L.length - pre.length - 1, by omega⟩
        have hqL : q < L.length := by omega
        have hLq := List.getElem?_eq_getElem hqL
        generalize L[q] = y at hLq
        have hD := x2
        rw [← hq] at x2
        obtain ⟨g, cap', hg1, hg2, -, -⟩ := owns_form x4 (by omega)
        obtain ⟨rfl, -, rfl⟩ := Value.slice.inj hg2
        obtain ⟨y0, y1, y2, y3, y4⟩ := x4.cells hLq
        have bX' : W.heap[Bx]? = _ := bX
        have q0 : W.cell? ⟨Bx, 0, none⟩ = some (.int .i64 x.ls) := by simp [World.cell?, bX']
        have q1 : W.cell? ⟨Bx, 1, none⟩ = some (.int .i64 x.la) := by simp [World.cell?, bX']
        have q2 : W.cell? ⟨Bx, 2, none⟩ = some (.int .i64 x.hs) := by simp [World.cell?, bX']
        have q3 : W.cell? ⟨Bx, 3, none⟩ = some (.int .i64 x.ha) := by simp [World.cell?, bX']
        have q4 : W.cell? ⟨Bx, 4, none⟩ = some (.int .i64 x.v) := by simp [World.cell?, bX']
        have c5 := x2.c5
        have c6 := x2.c6
        have f6 := x2.f6
        have c8 := x2.c8
        have c10 : W.cell? ⟨w2.heap.size + 1, 0, none⟩ = some (.int .i64 ((q : Int) + 1)) := by have := x2.c10; simpa using this
        have f10 := x2.f10
        have hgw : g < w2.heap.size := by have := (hR2.lt (k := g) rfl).2; omega
        have t1 : decide ((q : Int) < 0) = false := decide_eq_false (by omega)
        have n1 : w2.heap.size + 1 ≠ Bx := by omega
        have n2 : w2.heap.size + 1 ≠ g := by omega
        have n3 : w2.heap.size + 1 ≠ w.heap.size := by omega
        have hXX := Lib.hid (And.intro hD (And.intro x3 (And.intro x4 (And.intro x5 x6))))
        have hQ := Lib.hid hq
        have hY := Lib.hid hLq
        have hBl := lt_of_heap bX'
        clear hD x2 x3 x4 x5 x6 hq hLq bX bX' D4 H4 R4 hE hW I2 hin H2 hsep
        cases he : eqS x y with
        | false =>
          have hne := he
          unfold eqS at he
          have hnp : ¬ pre ++ [x] <+: L.reverse := fun hp => by
            obtain ⟨tl, htl⟩ := hp
            have h1 : (pre ++ [x] ++ tl)[pre.length]? = some x := by simp
            rw [htl, List.getElem?_reverse hlt2, show L.length - 1 - pre.length = q by have := hQ.out; omega, hY.out] at h1
            have := (eqS_iff x y).2 (Option.some.inj h1).symm
            rw [hne] at this; cases this
          have HNP := Lib.hid hnp
          clear hne hnp
          gi_wp2_with fail
          refine wpIn_region_qbr (by kernel_rfl) (by kernel_rfl) (by kernel_rfl) ?_
          repeat (first | (with_reducible refine wpQuiet_step (fun K hK => ?_); go_simp; first | (with_reducible refine hK _ ?_; clear hK K) | (apply Exists.intro; with_reducible refine ⟨fun W hW => ?_, hK _ ?_⟩; (first | fail | ((try obtain ⟨hc, hf⟩ := bcell hW); (try go_simp); first | done | exact ⟨rfl, rfl⟩ | rfl)); clear hK K)) | (with_reducible refine wpQ_skip (by with_unfolding_all rfl) ?_))
          refine wpQuiet_nil ?_
          all_goals gi_wp2
          all_goals exact ⟨(((KeepsOthers.setCell _ _ _).from _).trans (keeps_below (Below.drew (Below.refl _ _)))).trans ((KeepsOthers.setCell _ _ _).from _), .inr ⟨rfl, HNP.out⟩⟩
        | true =>
          have hstep : (pre ++ [x]).length ≤ L.length ∧ DB w.heap.size w2.heap.size stop (.slice (some ⟨g, 0, none⟩) L.length c) ((L.length - (pre ++ [x]).length : Nat) : Int) (W.setCell ⟨w2.heap.size + 1, 0, none⟩ (.int .i64 q)).drew ∧ Tree (W.setCell ⟨w2.heap.size + 1, 0, none⟩ (.int .i64 q)).drew W0.heap.size h T ∧
              SRow (W.setCell ⟨w2.heap.size + 1, 0, none⟩ (.int .i64 q)).drew W0.heap.size (.slice (some ⟨g, 0, none⟩) L.length c) L ∧ Below w.heap.size w (W.setCell ⟨w2.heap.size + 1, 0, none⟩ (.int .i64 q)).drew ∧ w4.heap.size ≤ (W.setCell ⟨w2.heap.size + 1, 0, none⟩ (.int .i64 q)).drew.heap.size := by
            obtain ⟨x2, x3, x4, x5, x6⟩ := hXX.out
            have hq := hQ.out
            have F : Fr (fun k => k = w2.heap.size + 1) W (W.setCell ⟨w2.heap.size + 1, 0, none⟩ (.int .i64 q)).drew := (Fr.setCell (S := fun k => k = w2.heap.size + 1) _ _ _ rfl).trans (Fr.drew _ _)
            refine ⟨by simp; omega, ?_, x3.fr F (fun k hk => by have := hown0 k hk; omega), x4.fr F (fun k hk => by have := (hR2.lt hk).2; omega), ?_, ?_⟩
            · rw [show ((L.length - (pre ++ [x]).length : Nat) : Int) = (q : Int) by simp; omega]
              exact (x2.set10 q).below (B := w2.heap.size + 2) (Below.drew (Below.refl _ _)) (Nat.le_refl _)
            · exact Below.drew (x5.setCell (p := ⟨w2.heap.size + 1, 0, none⟩) (by simp only; omega) _)
            · simpa using x6
          have HST := Lib.hid hstep
          have hkf : KeepsFrom w4.heap.size W (W.setCell ⟨w2.heap.size + 1, 0, none⟩ (.int .i64 q)).drew := ((KeepsOthers.setCell _ _ _).from _).trans (keeps_below (Below.drew (Below.refl _ _)))
          have hkq : Kq (WS h m1 m2) W (W.setCell ⟨w2.heap.size + 1, 0, none⟩ (.int .i64 q)).drew := (Kq.setCell _ _ _ (hnS _ (.inr (.inr (.inr rfl))))).t (Fr.drew _ _)
          have hlenq : (L.length : Int) - (q : Int) = ((pre ++ [x]).length : Nat) := by have := hQ.out; simp; omega
          have HLQ := Lib.hid hlenq
          have HKF := Lib.hid hkf
          have HKQ := Lib.hid hkq
          have he2 := he
          unfold eqS at he
          clear hstep hkf hkq hlenq he2
          cases hst : ((L.length : Int) - (q : Int) == stop) with
          | false =>
            gi_wp2_with fail
            refine wpIn_region_qbr (by kernel_rfl) (by kernel_rfl) (by kernel_rfl) ?_
            repeat (first | (with_reducible refine wpQuiet_step (fun K hK => ?_); go_simp; first | (with_reducible refine hK _ ?_; clear hK K) | (apply Exists.intro; with_reducible refine ⟨fun W hW => ?_, hK _ ?_⟩; (first | fail | ((try obtain ⟨hc, hf⟩ := bcell hW); (try go_simp); first | done | exact ⟨rfl, rfl⟩ | rfl)); clear hK K)) | (with_reducible refine wpQ_skip (by with_unfolding_all rfl) ?_))
            refine wpQuiet_nil ?_
            all_goals gi_wp2
            all_goals exact ⟨HKF.out, HKQ.out, HST.out⟩
          | true =>
            have hse : ((pre ++ [x]).length : Int) = stop := by rw [← HLQ.out]; exact beq_iff_eq.1 hst
            have HSE := Lib.hid hse
            clear hse
            gi_wp2_with fail
            refine wpIn_region_qbr (by kernel_rfl) (by kernel_rfl) (by kernel_rfl) ?_
            repeat (first | (with_reducible refine wpQuiet_step (fun K hK => ?_); go_simp; first | (with_reducible refine hK _ ?_; clear hK K) | (apply Exists.intro; with_reducible refine ⟨fun W hW => ?_, hK _ ?_⟩; (first | fail | ((try obtain ⟨hc, hf⟩ := bcell hW); (try go_simp); first | done | exact ⟨rfl, rfl⟩ | rfl)); clear hK K)) | (with_reducible refine wpQ_skip (by with_unfolding_all rfl) ?_))
            refine wpQuiet_nil ?_
            all_goals gi_wp2
            all_goals exact ⟨HKF.out, .inl ⟨rfl, HSE.out, HST.out⟩⟩
      case done =>
        rintro D ys W hD rfl ⟨x1, x2, x3, x4, x5, x6⟩ hK
        exact ⟨rfl, D, L.length - L.reverse.length, rfl, hD, .inl (by simp), by omega, x2, x3, x4, x5, x6, hK⟩
      case stop =>
        rintro D cd pre W hD hp hx hK
        rcases hx with ⟨rfl, hst, x1, x2, x3, x4, x5, x6⟩ | ⟨-, hn⟩
        · gi_wp2
          exact ⟨trivial, D, L.length - pre.length, rfl, hD, .inr (by omega), by omega, x2, x3, x4, x5, x6, hK⟩
        · exact absurd hp hn
end
end Go.Proofs.Ytkajknicgabdkaa

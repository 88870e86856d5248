/-
  How a tree of bocage/rbtree lies in memory ('Tree'), what a call may touch ('Fr'), and the cells that a walk reads and writes.
-/
import Derived.Test.YtkajknicgabdkaaPl
import Derived.Test.YtkajknicgabdkaaRows
import Derived.Deep.Draws
namespace Go.Proofs.Ytkajknicgabdkaa
open Go.RowKit

/-- All but the blocks of S is as it was; there may be new blocks. -/
structure Fr (S : Nat → Prop) (w w' : World) : Prop where
  os : w'.os = w.os
  tape : w'.tape = w.tape
  output : w'.output = w.output
  size : w.heap.size ≤ w'.heap.size
  block : ∀ k, k < w.heap.size → ¬ S k → w'.heap[k]? = w.heap[k]?
section
variable {S S' : Nat → Prop} {w w' w'' : World}
theorem Fr.refl (S : Nat → Prop) (w : World) : Fr S w w := ⟨rfl, rfl, rfl, Nat.le_refl _, fun _ _ _ => rfl⟩
theorem Fr.trans (h : Fr S w w') (k : Fr S w' w'') : Fr S w w'' :=
  ⟨k.os.trans h.os, k.tape.trans h.tape, k.output.trans h.output, Nat.le_trans h.size k.size, fun i hi hs => (k.block i (Nat.lt_of_lt_of_le hi h.size) hs).trans (h.block i hi hs)⟩
/-- The second may touch what is new since the first one's start, too. -/
theorem Fr.trans' (h : Fr S w w') (k : Fr S' w' w'') (hs : ∀ i, i < w.heap.size → S' i → S i) : Fr S w w'' :=
  ⟨k.os.trans h.os, k.tape.trans h.tape, k.output.trans h.output, Nat.le_trans h.size k.size, fun i hi hn => (k.block i (Nat.lt_of_lt_of_le hi h.size) (fun c => hn (hs i hi c))).trans (h.block i hi hn)⟩
theorem Fr.mono (h : Fr S w w') (hs : ∀ k, S k → S' k) : Fr S' w w' := ⟨h.os, h.tape, h.output, h.size, fun k hk hn => h.block k hk (fun c => hn (hs k c))⟩
theorem Fr.of_below (h : Below w.heap.size w w') : Fr S w w' := ⟨h.os, h.tape, h.output, h.size, fun k hk _ => h.block k hk⟩
theorem Fr.below (h : Fr S w w') {B : Nat} (hB : B ≤ w.heap.size) (hS : ∀ k, S k → B ≤ k) : Below B w w' :=
  ⟨h.os, h.tape, h.output, h.size, fun k hk => h.block k (by omega) (fun c => by have := hS k c; omega)⟩
theorem Fr.alloc (S : Nat → Prop) (w : World) (o : Obj) : Fr S w (w.alloc o) := ⟨rfl, rfl, rfl, by simp, fun k hk _ => Below.heap_alloc w o k hk⟩
theorem Fr.drew (S : Nat → Prop) (w : World) : Fr S w w.drew := ⟨rfl, rfl, rfl, Nat.le_refl _, fun _ _ _ => rfl⟩
theorem Fr.drewN (S : Nat → Prop) (w : World) (n : Nat) : Fr S w (w.drewN n) := by
  induction n with
  | zero => exact Fr.refl _ _
  | succ n ih => exact ih.trans (Fr.drew S _)
theorem Fr.setCell (w : World) (a : Addr) (v : Value) (h : S a.block) : Fr S w (w.setCell a v) :=
  ⟨rfl, rfl, rfl, by simp, fun k _ hn => Below.heap_setCell w a v k (fun e => hn (e ▸ h))⟩
theorem Fr.cell (h : Fr S w w') {a : Addr} (ha : a.block < w.heap.size) (hn : ¬ S a.block) : w'.cell? a = w.cell? a := World.cell?_of_block (w := w) (h.block _ ha hn)
end

theorem lt_of_heap {w : World} {b : Nat} {o : Obj} (h : w.heap[b]? = some o) : b < w.heap.size := (Array.getElem?_eq_some_iff.1 h).1

theorem owns_fr {S : Nat → Prop} {w w' : World} {b : Nat} {e : TypeId} {s : Nat} {v : Value} {n : Nat} {xs : List Value} (h : w.ownsRow b e s v n xs) (hf : Fr S w w') (hn : ∀ k, v.ownBlock = some k → ¬ S k) : w'.ownsRow b e s v n xs := by
  refine ⟨h.1, ?_⟩
  rcases h.2 with h2 | ⟨g, cap, cur, rfl, hb, hg, rest⟩
  · exact .inl h2
  · exact .inr ⟨g, cap, cur, rfl, hb, by rw [hf.block g (lt_of_heap hg) (hn g rfl)]; exact hg, rest⟩

/-- Where a tree's blocks lie: its struct, its arena, the arena's two slices. -/
structure Han where
  (t a : Nat) (lv fv : Value)
def Han.g (h : Han) : Nat := h.lv.ownBlock.getD 0
def Han.own (h : Han) (k : Nat) : Prop := k = h.t ∨ k = h.a ∨ h.lv.ownBlock = some k ∨ h.fv.ownBlock = some k
/-- What a call that makes no new node may touch. -/
def Han.inn (h : Han) (k : Nat) : Prop := k = h.t ∨ h.lv.ownBlock = some k

structure Tree (w : World) (b : Nat) (h : Han) (T : TS) : Prop where
  ht : w.heap[h.t]? = some (.cells #[.pointer (some ⟨h.a, 0, none⟩), .int .i64 T.root] 67 (0, 0))
  ha : w.heap[h.a]? = some (.cells #[.int .i64 T.room, h.lv, h.fv] 95 (0, 0))
  hl : w.ownsRow b 100 10 h.lv T.ps.length (T.ps.flatMap Place.enc)
  hf : w.ownsRow b 3 1 h.fv T.free.length (T.free.map (Value.int .i64))
  ta : h.t ≠ h.a
  tl : h.lv.ownBlock ≠ some h.t
  al : h.lv.ownBlock ≠ some h.a
  tf : h.fv.ownBlock ≠ some h.t
  af : h.fv.ownBlock ≠ some h.a
  lf : ∀ k, h.lv.ownBlock = some k → h.fv.ownBlock ≠ some k
  tb : b ≤ h.t
  ab : b ≤ h.a
  rm : 0 ≤ T.room ∧ T.room ≤ 65536
  ln : T.ps.length ≤ 65536
  fn : T.free.length ≤ T.ps.length

section
variable {w w' : World} {b : Nat} {h : Han} {T : TS} {i j : Int}
theorem Tree.lt (H : Tree w b h T) {k : Nat} (hk : h.own k) : b ≤ k ∧ k < w.heap.size := by
  rcases hk with rfl | rfl | hk | hk
  · exact ⟨H.tb, lt_of_heap H.ht⟩
  · exact ⟨H.ab, lt_of_heap H.ha⟩
  · exact H.hl.lt k hk
  · exact H.hf.lt k hk
theorem Tree.fr (H : Tree w b h T) {S : Nat → Prop} (hf : Fr S w w') (hn : ∀ k, h.own k → ¬ S k) : Tree w' b h T :=
  { H with
    ht := by rw [hf.block _ (lt_of_heap H.ht) (hn _ (.inl rfl))]; exact H.ht
    ha := by rw [hf.block _ (lt_of_heap H.ha) (hn _ (.inr (.inl rfl)))]; exact H.ha
    hl := owns_fr H.hl hf (fun k hk => hn k (.inr (.inr (.inl hk))))
    hf := owns_fr H.hf hf (fun k hk => hn k (.inr (.inr (.inr hk)))) }
theorem Tree.below (H : Tree w b h T) (hf : Below w.heap.size w w') : Tree w' b h T := H.fr (S := fun _ => False) (Fr.of_below hf) (fun _ _ => id)
theorem Tree.drew (H : Tree w b h T) : Tree w.drew b h T := H.fr (Fr.drew (fun _ => False) w) (fun _ _ => id)
theorem Tree.drewN (H : Tree w b h T) (n : Nat) : Tree (w.drewN n) b h T := by
  induction n with
  | zero => exact H
  | succ n ih => exact ih.drew
theorem Tree.alloc (H : Tree w b h T) (o : Obj) : Tree (w.alloc o) b h T := H.fr (Fr.alloc (fun _ => False) w o) (fun _ _ => id)
theorem Tree.c_arena (H : Tree w b h T) : w.cell? ⟨h.t, 0, none⟩ = some (.pointer (some ⟨h.a, 0, none⟩)) := by simp [World.cell?, H.ht]
theorem Tree.c_root (H : Tree w b h T) : w.cell? ⟨h.t, 1, none⟩ = some (.int .i64 T.root) := by simp [World.cell?, H.ht]
theorem Tree.c_room (H : Tree w b h T) : w.cell? ⟨h.a, 0, none⟩ = some (.int .i64 T.room) := by simp [World.cell?, H.ha]
theorem Tree.c_lv (H : Tree w b h T) : w.cell? ⟨h.a, 1, none⟩ = some h.lv := by simp [World.cell?, H.ha]
theorem Tree.c_fv (H : Tree w b h T) : w.cell? ⟨h.a, 2, none⟩ = some h.fv := by simp [World.cell?, H.ha]
theorem Tree.f_t (H : Tree w b h T) (k : Nat) : w.frozen? ⟨h.t, k, none⟩ = false := by simp [World.frozen?, H.ht]
theorem Tree.f_a (H : Tree w b h T) (k : Nat) : w.frozen? ⟨h.a, k, none⟩ = false := by simp [World.frozen?, H.ha]
theorem owns_form {e : TypeId} {s : Nat} {v : Value} {n : Nat} {xs : List Value} (h : w.ownsRow b e s v n xs) (hn : 0 < n) : ∃ g cap, v.ownBlock = some g ∧ v = .slice (some ⟨g, 0, none⟩) n cap ∧ n ≤ cap ∧ b ≤ g := by
  rcases h.2 with ⟨_, h0⟩ | ⟨g, cap, cur, rfl, hb, hg, hc, _⟩
  · omega
  · exact ⟨g, cap, rfl, rfl, hc, hb⟩
theorem owns_slice {e : TypeId} {s : Nat} {v : Value} {n : Nat} {xs : List Value} (h : w.ownsRow b e s v n xs) : ∃ A cap, v = .slice A n cap ∧ n ≤ cap := by
  rcases h.2 with ⟨rfl, rfl⟩ | ⟨g, cap, cur, rfl, hb, hg, hc, _⟩
  · exact ⟨none, 0, rfl, Nat.le_refl _⟩
  · exact ⟨_, cap, rfl, hc⟩
theorem Tree.lv_form (H : Tree w b h T) (hi : T.ok i) : ∃ cap, h.lv = .slice (some ⟨h.g, 0, none⟩) T.ps.length cap ∧ h.lv.ownBlock = some h.g := by
  obtain ⟨g, cap, h1, h2, _⟩ := owns_form H.hl (by have := hi.1; have := hi.2.1; omega)
  have : h.g = g := by simp [Han.g, h1]
  exact ⟨cap, by rw [this]; exact h2, by rw [this]; exact h1⟩
theorem Tree.c_pl (H : Tree w b h T) (hi : T.ok i) (k : Nat) (hk : k < 10) : w.cell? ⟨h.g, i.toNat * 10 + k, none⟩ = (T.pl i).enc[k]? := by
  obtain ⟨cap, h1, h2⟩ := H.lv_form hi
  have hl := H.hl
  rw [h1] at hl
  have hlt : i.toNat < T.ps.length := by have := hi.1; have := hi.2.1; omega
  rw [hl.cellAt _ (by omega), flat_get Place.enc_length _ _ _ hk]
  simp [TS.pl, List.getD_eq_getElem?_getD, List.getElem?_eq_getElem hlt]
theorem Tree.c_l (H : Tree w b h T) (hi : T.ok i) : w.cell? ⟨h.g, i.toNat * 10 + 5, none⟩ = some (.int .i64 (T.nd i).l) := H.c_pl hi 5 (by decide)
theorem Tree.c_r (H : Tree w b h T) (hi : T.ok i) : w.cell? ⟨h.g, i.toNat * 10 + 6, none⟩ = some (.int .i64 (T.nd i).r) := H.c_pl hi 6 (by decide)
theorem Tree.c_p (H : Tree w b h T) (hi : T.ok i) : w.cell? ⟨h.g, i.toNat * 10 + 7, none⟩ = some (.int .i64 (T.nd i).p) := H.c_pl hi 7 (by decide)
theorem Tree.c_red (H : Tree w b h T) (hi : T.ok i) : w.cell? ⟨h.g, i.toNat * 10 + 8, none⟩ = some (.bool (T.nd i).red) := H.c_pl hi 8 (by decide)
theorem Tree.f_g (H : Tree w b h T) (hi : T.ok i) (k : Nat) : w.frozen? ⟨h.g, k, none⟩ = false := by
  obtain ⟨cap, h1, h2⟩ := H.lv_form hi
  have hl := H.hl
  rw [h1] at hl
  exact hl.frozenAt k
/-- A store into a place's cell. -/
theorem Tree.st_pl (H : Tree w b h T) (hi : T.ok i) (k : Nat) (hk : k < 10) (u : Value) (f : Node → Node) (he : ∀ p : Place, p.enc.set k u = ({ p with n := f p.n } : Place).enc) :
    Tree (w.setCell ⟨h.g, i.toNat * 10 + k, none⟩ u) b h (T.upd i f) := by
  obtain ⟨cap, h1, h2⟩ := H.lv_form hi
  have hlt : i.toNat < T.ps.length := by have := hi.1; have := hi.2.1; omega
  have hf : Fr (fun k => k = h.g) w (w.setCell ⟨h.g, i.toNat * 10 + k, none⟩ u) := Fr.setCell w _ u rfl
  refine { H with ht := ?_, ha := ?_, hl := ?_, hf := ?_, ln := by rw [TS.len_upd]; exact H.ln, fn := by rw [TS.len_upd]; exact H.fn }
  · rw [hf.block _ (lt_of_heap H.ht) (fun e => H.tl (by rw [h2, e]))]; exact H.ht
  · rw [hf.block _ (lt_of_heap H.ha) (fun e => H.al (by rw [h2, e]))]; exact H.ha
  · have hl := H.hl
    rw [h1] at hl ⊢
    have := hl.stored (i.toNat * 10 + k) u
    rw [TS.len_upd]
    have e := flat_set Place.enc_length T.ps i.toNat k hk (T.pl i) ({ T.pl i with n := f (T.nd i) } : Place) u (by simp [TS.pl, List.getD_eq_getElem?_getD, List.getElem?_eq_getElem hlt]) (he _)
    rw [e] at this
    exact this.1
  · exact owns_fr H.hf hf (fun k hk e => H.lf k (by rw [h2, e]) hk)
theorem Tree.inn_g (H : Tree w b h T) (hi : T.ok i) : h.inn h.g := by
  obtain ⟨cap, h1, h2⟩ := H.lv_form hi
  exact .inr h2
theorem Tree.st_fr (H : Tree w b h T) (hi : T.ok i) (k : Nat) (u : Value) : Fr h.inn w (w.setCell ⟨h.g, k, none⟩ u) := Fr.setCell _ _ _ (H.inn_g hi)
theorem Tree.st_l (H : Tree w b h T) (hi : T.ok i) (j : Int) : Tree (w.setCell ⟨h.g, i.toNat * 10 + 5, none⟩ (.int .i64 j)) b h (T.setL i j) := H.st_pl hi 5 (by decide) _ _ (fun _ => rfl)
theorem Tree.st_r (H : Tree w b h T) (hi : T.ok i) (j : Int) : Tree (w.setCell ⟨h.g, i.toNat * 10 + 6, none⟩ (.int .i64 j)) b h (T.setR i j) := H.st_pl hi 6 (by decide) _ _ (fun _ => rfl)
theorem Tree.st_p (H : Tree w b h T) (hi : T.ok i) (j : Int) : Tree (w.setCell ⟨h.g, i.toNat * 10 + 7, none⟩ (.int .i64 j)) b h (T.setP i j) := H.st_pl hi 7 (by decide) _ _ (fun _ => rfl)
theorem Tree.st_red (H : Tree w b h T) (hi : T.ok i) (x : Bool) : Tree (w.setCell ⟨h.g, i.toNat * 10 + 8, none⟩ (.bool x)) b h (T.setRed i x) := H.st_pl hi 8 (by decide) _ _ (fun _ => rfl)
theorem Tree.st_root (H : Tree w b h T) (j : Int) : Tree (w.setCell ⟨h.t, 1, none⟩ (.int .i64 j)) b h { T with root := j } := by
  have hf : Fr (fun k => k = h.t) w (w.setCell ⟨h.t, 1, none⟩ (.int .i64 j)) := Fr.setCell w _ _ rfl
  refine { H with ht := ?_, ha := ?_, hl := ?_, hf := ?_ }
  · have hlt := lt_of_heap H.ht
    have h0 := H.ht
    simp only [World.setCell, Array.getElem?_modify]
    simp [h0]
  · rw [hf.block _ (lt_of_heap H.ha) (fun e => H.ta e.symm)]; exact H.ha
  · exact owns_fr H.hl hf (fun k hk e => H.tl (by rw [hk, e]))
  · exact owns_fr H.hf hf (fun k hk e => H.tf (by rw [hk, e]))
theorem Tree.st_root_fr (h : Han) (w : World) (j : Int) : Fr h.inn w (w.setCell ⟨h.t, 1, none⟩ (.int .i64 j)) := Fr.setCell _ _ _ (.inl rfl)
end
end Go.Proofs.Ytkajknicgabdkaa

/-
  Go's == on cuts, spans and segments, as one Bool.
-/
import Derived.Laws.StructEq
import Derived.Test.YtkajknicgabdkaaRows
import Derived.WalkKit
namespace Go.Proofs.Ytkajknicgabdkaa
section
variable {P : Program} {d : Nat} {xs ys : Array Value} {f : Field} {fs : List Field} {a b : Value} {r s : Bool} {w : World}
theorem eqFields_one (hn : f.name ≠ "_") (ha : (part f.type xs f.offset).run P w = .ok a w) (hb : (part f.type ys f.offset).run P w = .ok b w) (he : (Op.equalIn d f.type a b).run P w = .ok r w) : (Op.eqFields d xs ys [f]).run P w = .ok r w := by
  rw [Op.eqFields, if_pos hn]
  simp only [Sem.run_bind, ha, hb, he, Result.andThen_ok, Op.eqFields]
  cases r <;> simp
theorem eqFields_more (hn : f.name ≠ "_") (ha : (part f.type xs f.offset).run P w = .ok a w) (hb : (part f.type ys f.offset).run P w = .ok b w) (he : (Op.equalIn d f.type a b).run P w = .ok r w) (hr : (Op.eqFields d xs ys fs).run P w = .ok s w) :
    (Op.eqFields d xs ys (f :: fs)).run P w = .ok (r && s) w := by
  rw [Op.eqFields, if_pos hn]
  simp only [Sem.run_bind, ha, hb, he, Result.andThen_ok]
  cases r
  · simp
  · simpa using hr
theorem equal_struct {t : TypeId} {fs : Array Field} (hu : P.underlying t = some (.struct fs)) (hp : P.stoodInHeld t = false) (h : (Op.eqFields d xs ys fs.toList).run P w = .ok r w) : (Op.equalIn (d + 1) t (.agg xs) (.agg ys)).run P w = .ok r w := by
  have e : P.fieldsOf t = fs := by simp [Program.fieldsOf, hu]
  rw [run_equalIn_struct (P := P) w d t xs ys (e ▸ hu) hp, e, h]
end
theorem eqCut (d : Nat) (w : World) (x0 y0 x1 y1 : Int) :
    (Op.equalIn (d + 2) 32 (.agg #[.int .i64 x0, .int .i64 x1]) (.agg #[.int .i64 y0, .int .i64 y1])).run Try.prog w = .ok (x0 == y0 && x1 == y1) w :=
  equal_struct Try.underlying32 (by kernel_rfl)
    (eqFields_more (by decide) (by go_simp; rfl) (by go_simp; rfl) (by go_simp) (eqFields_one (by decide) (by go_simp; rfl) (by go_simp; rfl) (by go_simp)))
theorem eqSpan (d : Nat) (w : World) (x0 y0 x1 y1 x2 y2 x3 y3 : Int) :
    (Op.equalIn (d + 3) 34 (.agg #[.int .i64 x0, .int .i64 x1, .int .i64 x2, .int .i64 x3]) (.agg #[.int .i64 y0, .int .i64 y1, .int .i64 y2, .int .i64 y3])).run Try.prog w = .ok ((x0 == y0 && x1 == y1) && (x2 == y2 && x3 == y3)) w :=
  equal_struct Try.underlying34 (by kernel_rfl)
    (eqFields_more (by decide) (by go_simp) (by go_simp) (eqCut d w _ _ _ _) (eqFields_one (by decide) (by go_simp) (by go_simp) (eqCut d w _ _ _ _)))
theorem eqSeg (d : Nat) (w : World) (x0 y0 x1 y1 x2 y2 x3 y3 x4 y4 : Int) :
    (Op.equalIn (d + 4) 36 (.agg #[.int .i64 x0, .int .i64 x1, .int .i64 x2, .int .i64 x3, .int .i64 x4]) (.agg #[.int .i64 y0, .int .i64 y1, .int .i64 y2, .int .i64 y3, .int .i64 y4])).run Try.prog w = .ok (((x0 == y0 && x1 == y1) && (x2 == y2 && x3 == y3)) && x4 == y4) w :=
  equal_struct Try.underlying36 (by kernel_rfl)
    (eqFields_more (by decide) (by go_simp) (by go_simp) (eqSpan d w _ _ _ _ _ _ _ _) (eqFields_one (by decide) (by go_simp; rfl) (by go_simp; rfl) (by go_simp)))
end Go.Proofs.Ytkajknicgabdkaa

/- More laws of single operations. -/
import Derived.Test.YtkeamfdceehliaaGreatDoorArr
namespace Go.Proofs.YtkeamfdceehliaaGreatDoor
open Go.RowKit
section
variable {P : Program} {ops : Array Oper} {Q : Exit → Act → World → Prop} {o : Oper} {a : Act} {w w' : World} {rest : List Oper}
theorem exec_addS {t t' : TypeId} {x y : Operand} {l m : List UInt8} (ho : o.op = .binOp .add t x y t') (hx : a.eval x = .string (BA l)) (hy : a.eval y = .string (BA m)) (h : l.length + m.length ≤ 9223372036854775807) (w : World) :
    (execOp a.eval o).run P w = .ok (.value (.string (BA (l ++ m)))) w := by
  have h2 := run_string_add_sum (P := P) w (BA l) (BA m) h
  rw [BA_append] at h2
  unfold execOp
  simp only [ho, hx, hy]
  simp [eqGuard, binOp_string_add, h2, Result.andThen]
theorem sliceBounds_lh (isS : Bool) (len cap lo hi : Nat) (h1 : lo ≤ hi) (h2 : hi ≤ cap) (w : World) : (Instr.sliceBounds isS len cap (some (.int .i64 lo)) (some (.int .i64 hi)) none).run P w = .ok (lo, hi, cap) w := by
  simp [Instr.sliceBounds, Instr.sliceBound, asIntOf, h1, h2]
theorem sliceBounds_l (isS : Bool) (len cap lo : Nat) (h1 : lo ≤ len) (w : World) : (Instr.sliceBounds isS len cap (some (.int .i64 lo)) none none).run P w = .ok (lo, len, cap) w := by
  simp [Instr.sliceBounds, Instr.sliceBound, asIntOf, h1]
theorem sliceBounds_h (isS : Bool) (len cap hi : Nat) (h2 : hi ≤ cap) (w : World) : (Instr.sliceBounds isS len cap none (some (.int .i64 hi)) none).run P w = .ok (0, hi, cap) w := by
  simp [Instr.sliceBounds, Instr.sliceBound, asIntOf, h2]
theorem exec_sliceS {t : TypeId} {x y z : Operand} {l : List UInt8} {lo hi : Nat} (ho : o.op = .slice t x (some y) (some z) none) (hx : a.eval x = .string (BA l)) (hy : a.eval y = .int .i64 lo) (hz : a.eval z = .int .i64 hi) (hu : P.underlying t = some .string)
    (h1 : lo ≤ hi) (h2 : hi ≤ l.length) (w : World) : (execOp a.eval o).run P w = .ok (.value (.string (BA ((l.take hi).drop lo)))) w := by
  unfold execOp
  simp only [ho, hx, Option.map_some, hy, hz]
  simp [Instr.sliceAt, Instr.slice, run_underlying hu, Sem.run_bind, Result.andThen, sliceBounds_lh (P := P) false (BA l).size (BA l).size lo hi h1 h2, BA_extract]
theorem exec_sliceF {t : TypeId} {x y : Operand} {l : List UInt8} {lo : Nat} (ho : o.op = .slice t x (some y) none none) (hx : a.eval x = .string (BA l)) (hy : a.eval y = .int .i64 lo) (hu : P.underlying t = some .string)
    (h1 : lo ≤ l.length) (w : World) : (execOp a.eval o).run P w = .ok (.value (.string (BA (l.drop lo)))) w := by
  unfold execOp
  simp only [ho, hx, Option.map_some, hy]
  simp [Instr.sliceAt, Instr.slice, run_underlying hu, Sem.run_bind, Result.andThen, sliceBounds_l (P := P) false (BA l).size (BA l).size lo h1, BA_extract]
  congr 2
  exact List.take_of_length_le (Nat.le_refl _)
theorem exec_sliceT {t : TypeId} {x z : Operand} {l : List UInt8} {hi : Nat} (ho : o.op = .slice t x none (some z) none) (hx : a.eval x = .string (BA l)) (hz : a.eval z = .int .i64 hi) (hu : P.underlying t = some .string)
    (h2 : hi ≤ l.length) (w : World) : (execOp a.eval o).run P w = .ok (.value (.string (BA (l.take hi)))) w := by
  unfold execOp
  simp only [ho, hx, Option.map_some, hz]
  simp [Instr.sliceAt, Instr.slice, run_underlying hu, Sem.run_bind, Result.andThen, sliceBounds_h (P := P) false (BA l).size (BA l).size hi h2, BA_extract]
theorem BA_at (l : List UInt8) (j : Nat) (x : UInt8) (h : l[j]? = some x) : ∀ hj : j < (BA l).size, (BA l)[j]'hj = x := by
  intro hj
  have := BA_get l j x h
  rw [getElem?_pos (BA l) j hj] at this
  exact Option.some.inj this
theorem wpList_sliceS {t : TypeId} {x y z : Operand} {l : List UInt8} {lo hi : Nat} (hgd : o.guard = none) (ho : o.op = .slice t x (some y) (some z) none) (hx : a.eval x = .string (BA l)) (hy : a.eval y = .int .i64 lo) (hz : a.eval z = .int .i64 hi) (hu : P.underlying t = some .string)
    (h1 : lo ≤ hi) (h2 : hi ≤ l.length) (h : wpList P ops Q rest (a.put o.dst (.string (BA ((l.take hi).drop lo)))) w) : wpList P ops Q (o :: rest) a w := wpList_val hgd (exec_sliceS ho hx hy hz hu h1 h2 w) h
theorem wpList_sliceF {t : TypeId} {x y : Operand} {l : List UInt8} {lo : Nat} (hgd : o.guard = none) (ho : o.op = .slice t x (some y) none none) (hx : a.eval x = .string (BA l)) (hy : a.eval y = .int .i64 lo) (hu : P.underlying t = some .string)
    (h1 : lo ≤ l.length) (h : wpList P ops Q rest (a.put o.dst (.string (BA (l.drop lo)))) w) : wpList P ops Q (o :: rest) a w := wpList_val hgd (exec_sliceF ho hx hy hu h1 w) h
theorem wpList_sliceT {t : TypeId} {x z : Operand} {l : List UInt8} {hi : Nat} (hgd : o.guard = none) (ho : o.op = .slice t x none (some z) none) (hx : a.eval x = .string (BA l)) (hz : a.eval z = .int .i64 hi) (hu : P.underlying t = some .string)
    (h2 : hi ≤ l.length) (h : wpList P ops Q rest (a.put o.dst (.string (BA (l.take hi)))) w) : wpList P ops Q (o :: rest) a w := wpList_val hgd (exec_sliceT ho hx hz hu h2 w) h
theorem wpList_addS {t t' : TypeId} {x y : Operand} {l m : List UInt8} (hgd : o.guard = none) (ho : o.op = .binOp .add t x y t') (hx : a.eval x = .string (BA l)) (hy : a.eval y = .string (BA m)) (hb : l.length + m.length ≤ 9223372036854775807)
    (h : wpList P ops Q rest (a.put o.dst (.string (BA (l ++ m)))) w) : wpList P ops Q (o :: rest) a w := wpList_val hgd (exec_addS ho hx hy hb w) h
theorem wpList_indexS {t : TypeId} {x y : Operand} {l : List UInt8} {j : Nat} {b : UInt8} (hgd : o.guard = none) (ho : o.op = .index t x y) (hx : a.eval x = .string (BA l)) (hy : a.eval y = .int .i64 j) (hj : l[j]? = some b) (hu : P.underlying t = some .string)
    (h : wpList P ops Q rest (a.put o.dst (.int .u8 b.toNat)) w) : wpList P ops Q (o :: rest) a w := wpList_val hgd (exec_index_BA ho hx hy hj hu w) h
theorem wpList_gv {v : Value} (hg : Region.wanted o (yielded ops a.tmps) = true) (hr : (execOp a.eval o).run P w = .ok (.value v) w') (h : wpList P ops Q rest (a.put o.dst v) w') : wpList P ops Q (o :: rest) a w := by
  unfold wpList
  rw [if_pos hg]
  exact .inl (wp_val hr h)
theorem wpList_ge {f : FuncId} {args : Array Value} (hg : Region.wanted o (yielded ops a.tmps) = true) (hr : (execOp a.eval o).run P w = .ok (.enter f args) w) (h : Calls P f args w fun e w'' => ∃ v, e = .returned v ∧ wpList P ops Q rest (a.put o.dst v) w'') : wpList P ops Q (o :: rest) a w := by
  unfold wpList
  rw [if_pos hg]
  exact .inl (wp_enter hr h)
end
end Go.Proofs.YtkeamfdceehliaaGreatDoor

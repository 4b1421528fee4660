/- Laws of single operations on rows of cells: a whole array or struct read out of the middle of a block, stored there, made anew; bytes as a text; copy. -/
import Derived.Test.YtkeamfdceehliaaGreatDoorBase
import Derived.Laws.CopyRow
import Derived.Laws.IdiomStrings
import Derived.Test.YtkeamfdceehliaaGreatDoorRegion
import Derived.Great.BuildSlice
import Derived.Lib.Bytes
namespace Go.Proofs.YtkeamfdceehliaaGreatDoor
open Go.RowKit

section
variable {P : Program} {ops : Array Oper} {Q : Exit → Act → World → Prop} {o : Oper} {a : Act} {w w' : World} {rest : List Oper}

theorem wpList_val {v : Value} (hgd : o.guard = none) (hr : (execOp a.eval o).run P w = .ok (.value v) w') (h : wpList P ops Q rest (a.put o.dst v) w') : wpList P ops Q (o :: rest) a w :=
  wpList_plain hgd fun K hK => by unfold Oper.wp; rw [hr]; exact hK _ _ h
theorem wpList_skp (hgd : o.guard = none) (hr : (execOp a.eval o).run P w = .ok .skip w') (h : wpList P ops Q rest (a.put o.dst undef) w') : wpList P ops Q (o :: rest) a w :=
  wpList_plain hgd fun K hK => by unfold Oper.wp; rw [hr]; exact hK _ _ h
theorem wpStill_val {R : Act → Prop} {v : Value} (hgd : o.guard = none) (hr : (execOp a.eval o).run P w = .ok (.value v) w) (h : wpStill P ops w R rest (a.put o.dst v)) : wpStill P ops w R (o :: rest) a :=
  wpStill_step fun K hK => by rw [if_pos (by simp [Region.wanted, hgd])]; unfold Oper.still; rw [hr]; exact ⟨rfl, hK _ h⟩

/-- A struct or an array. -/
def aggD (d : TypeDesc) : Bool := match d with | .struct _ | .array _ _ => true | _ => false

theorem run_isAgg {ty : TypeId} (hu : (P.underlying ty).any aggD = true) : (isAgg ty).run P w = .ok true w := by
  cases hq : P.underlying ty with
  | none => simp [hq] at hu
  | some d =>
    unfold isAgg
    rw [Sem.run_bind, run_underlying hq w]
    cases d <;> simp_all [aggD]

theorem run_loadVar_seg {ty b off n t : Nat} {cs vs : List Value} (hB : Blk w b cs t) (hu : (P.underlying ty).any aggD = true) (hi : (P.info? ty).map (·.size) = some n)
    (hle : off + n ≤ cs.length) (hv : (cs.drop off).take n = vs) : (loadVar ty ⟨b, off, none⟩).run P w = .ok (.agg vs.toArray) w := by
  have hlen : vs.length = n := by rw [← hv]; simp; omega
  have hl : (loadCells ⟨b, off, none⟩ vs.length).run P w = .ok vs.toArray w :=
    run_loadCells_list (P := P) w ⟨b, off, none⟩ vs (fun j v hj => by
      have hadd : (⟨b, off, none⟩ : Addr).add j = ⟨b, off + j, none⟩ := by unfold Addr.add; split <;> simp_all
      rw [hadd, hB.cell]
      rw [← hv] at hj
      rw [List.getElem?_take] at hj
      split at hj
      · simpa using hj
      · cases hj)
  cases hq : P.info? ty with
  | none => simp [hq] at hi
  | some i =>
    have hs : i.size = vs.length := by rw [hlen]; simpa [hq] using hi
    simp [loadVar, Sem.run_bind, run_isAgg hu, sizeOf, typeInfo, hq, hs, hl]

theorem exec_load_seg {ty b off n t : Nat} {x : Operand} {cs vs : List Value} (ho : o.op = .load ty x) (hx : a.eval x = .pointer (some ⟨b, off, none⟩)) (hB : Blk w b cs t)
    (hu : (P.underlying ty).any aggD = true) (hi : (P.info? ty).map (·.size) = some n)
    (hle : off + n ≤ cs.length) (hv : (cs.drop off).take n = vs) : (execOp a.eval o).run P w = .ok (.value (.agg vs.toArray)) w := by
  unfold execOp
  simp only [ho, hx, Instr.loadAt, Instr.sureAddr, Sem.run_bind, Sem.run_pure, Result.andThen_ok, run_loadVar_seg hB hu hi hle hv]

theorem Blk.row {b t : Nat} {cs cs' : List Value} (h : Blk w b cs t) : Blk (w.setRow b cs'.toArray) b cs' t := setRow_heap w b _ _ t _ h
theorem Blk.rowOther {b b' t : Nat} {cs : List Value} {cs' : Array Value} (h : Blk w b cs t) (hne : b ≠ b') : Blk (w.setRow b' cs') b cs t := by
  unfold Blk; rw [setRow_other _ _ _ _ hne]; exact h
theorem Fr.rowNew {B : Nat} {ts : List Nat} {W : World} (h : Fr B ts W w) {b : Nat} (hb : W.heap.size ≤ b) (cs : Array Value) : Fr B ts W (w.setRow b cs) :=
  ⟨h.os, h.tape, h.output, by simpa using h.size, fun k o hk ho => by
    rw [setRow_other _ _ _ _ (by have := lt_of_get hk; omega)]; exact h.block k o hk ho⟩
theorem Fr.rowB {B : Nat} {ts : List Nat} {W : World} (h : Fr B ts W w) {b t : Nat} {cs : List Value} (hb : B ≤ b) (hc : Blk W b cs t) (ht : t ∈ ts) (cs' : Array Value) : Fr B ts W (w.setRow b cs') :=
  ⟨h.os, h.tape, h.output, by simpa using h.size, fun k o hk ho => by
    by_cases e : k = b
    · subst e
      unfold Blk at hc
      rw [hc] at hk
      cases hk
      exact absurd ht (ho.elim (fun x => absurd hb (by omega)) id)
    · rw [setRow_other _ _ _ _ e]; exact h.block k o hk ho⟩

theorem run_storeVar_seg {ty b off t : Nat} {cs vs : List Value} (hB : Blk w b cs t) (hi : (P.info? ty).map (·.size) = some vs.length)
    (hle : off + vs.length ≤ cs.length) (h1 : ∀ v ∈ vs, v.oneCell' = true) : (storeVar ty ⟨b, off, none⟩ (.agg vs.toArray)).run P w = .ok () (w.setRow b (splice cs off vs).toArray) := by
  have h := run_storeCells_at (P := P) b off t vs 0 cs.toArray w hB (by simpa using hle) h1
  cases hq : P.info? ty with
  | none => simp [hq] at hi
  | some i =>
    have hs : i.size = vs.length := by simpa [hq] using hi
    simp [storeVar, Sem.run_bind, sizeOf, typeInfo, hq, hs, Value.cells, h, splice]

theorem exec_store_seg {ty b off t : Nat} {x y : Operand} {cs vs : List Value} (ho : o.op = .store ty x y) (hx : a.eval x = .pointer (some ⟨b, off, none⟩)) (hy : a.eval y = .agg vs.toArray) (hB : Blk w b cs t)
    (hi : (P.info? ty).map (·.size) = some vs.length) (hle : off + vs.length ≤ cs.length) (h1 : ∀ v ∈ vs, v.oneCell' = true) :
    (execOp a.eval o).run P w = .ok .skip (w.setRow b (splice cs off vs).toArray) := by
  unfold execOp
  simp only [ho, hx, hy, Instr.storeAt, Instr.sureAddr, Sem.run_bind, Sem.run_pure, Result.andThen_ok, run_storeVar_seg hB hi hle h1]

/-- What a new block bears is stored over it at once. -/
theorem setRow_new (w : World) (c c' : Array Value) (t : Nat) : (w.alloc (.cells c t)).setRow w.heap.size c' = w.alloc (.cells c' t) := by
  unfold World.setRow World.alloc
  congr 1
  apply Array.ext
  · simp
  · intro i h1 h2
    simp only [Array.getElem_modify, Array.getElem_push]
    by_cases e : i < w.heap.size
    · simp [e, show ¬ w.heap.size = i by omega]
    · have : w.heap.size = i := by simp at h1; omega
      simp [this]

theorem splice_all {cs vs : List Value} (h : vs.length = cs.length) : splice cs 0 vs = vs := by simp [splice, h]

theorem exec_store_new {ty t : Nat} {x y : Operand} {vs : List Value} {c : Array Value} (ho : o.op = .store ty x y) (hx : a.eval x = .pointer (some ⟨w.heap.size, 0, none⟩)) (hy : a.eval y = .agg vs.toArray)
    (hi : (P.info? ty).map (·.size) = some vs.length) (hc : c.size = vs.length) (h1 : ∀ v ∈ vs, v.oneCell' = true) :
    (execOp a.eval o).run P (w.alloc (.cells c t)) = .ok .skip (w.alloc (.cells vs.toArray t)) := by
  have hB : Blk (w.alloc (.cells c t)) w.heap.size c.toList t := by unfold Blk; rw [Array.toArray_toList]; exact heap_alloc_new _ _
  rw [exec_store_seg ho hx hy hB hi (by simp [hc]) h1, splice_all (by simp [hc]), setRow_new]

theorem exec_alloc {ty n : Nat} (ho : o.op = .alloc ty) (hi : (P.info? ty).map (fun i => (i.zero.map (·.cells.size), i.size)) = some (some n, n)) :
    ∃ zs : Array Value, zs.size = n ∧ (execOp a.eval o).run P w = .ok (.value (.pointer (some ⟨w.heap.size, 0, none⟩))) (w.alloc (.cells zs ty)) := by
  cases hq : P.info? ty with
  | none => simp [hq] at hi
  | some i =>
    cases hz : i.zero with
    | none => simp [hq, hz] at hi
    | some z =>
      refine ⟨z.cells, by simpa [hq, hz] using (by simpa [hq, hz] using hi : z.cells.size = n ∧ i.size = n).1, ?_⟩
      unfold execOp
      simp [ho, Instr.alloc, zeroValue, typeInfo, Sem.run_bind, hq, hz, newVar, newRow, newObj, Result.andThen]
      rfl

theorem wpList_alloc {ty n : Nat} (hgd : o.guard = none) (ho : o.op = .alloc ty) (hi : (P.info? ty).map (fun i => (i.zero.map (·.cells.size), i.size)) = some (some n, n))
    (h : ∀ zs : Array Value, zs.size = n → wpList P ops Q rest (a.put o.dst (.pointer (some ⟨w.heap.size, 0, none⟩))) (w.alloc (.cells zs ty))) : wpList P ops Q (o :: rest) a w := by
  obtain ⟨zs, h1, h2⟩ := exec_alloc (P := P) (o := o) (a := a) (w := w) ho hi
  exact wpList_val hgd h2 (h zs h1)

theorem byteV_one (b : UInt8) : (byteV b).oneCell' = true := rfl
theorem bytesV_one {l : List UInt8} : ∀ v ∈ bytesV l, v.oneCell' = true := by
  intro v hv
  obtain ⟨b, _, rfl⟩ := List.mem_map.1 hv
  rfl
@[simp] theorem bytesV_len (l : List UInt8) : (bytesV l).length = l.length := by simp [bytesV]

theorem exec_bytes_str {src dst e b off cap t n : Nat} {x : Operand} {cs : List Value} {l : List UInt8} (ho : o.op = .convert src dst x) (hx : a.eval x = .slice (some ⟨b, off, none⟩) n cap) (hB : Blk w b cs t)
    (hs : P.underlying src = some (.slice e)) (he : P.underlying e = some (.int .u8)) (hd : P.underlying dst = some .string) (hn : l.length = n) (hl : (cs.drop off).take n = bytesV l) :
    (execOp a.eval o).run P w = .ok (.value (strV l)) w := by
  subst hn
  have h := run_convert_bytes_back (P := P) w src dst e ⟨b, off, none⟩ cap l hs he hd (fun j hj => by
    have hadd : (⟨b, off, none⟩ : Addr).add j = ⟨b, off + j, none⟩ := by unfold Addr.add; split <;> simp_all
    have := congrArg (fun q => q[j]?) hl
    simp only [List.getElem?_take, if_pos hj, List.getElem?_drop, bytesV, List.getElem?_map, List.getElem?_eq_getElem hj, Option.map_some] at this
    rw [hadd, hB.cell, this]
    rfl)
  unfold execOp
  simp only [ho, hx, Sem.run_bind, h, Result.andThen_ok, Sem.run_pure]
  rfl

theorem wpList_loadSeg {ty b off n t : Nat} {x : Operand} {cs vs : List Value} (hgd : o.guard = none) (ho : o.op = .load ty x) (hx : a.eval x = .pointer (some ⟨b, off, none⟩)) (hB : Blk w b cs t)
    (hu : (P.underlying ty).any aggD = true) (hi : (P.info? ty).map (·.size) = some n)
    (hle : off + n ≤ cs.length) (hv : (cs.drop off).take n = vs) (h : wpList P ops Q rest (a.put o.dst (.agg vs.toArray)) w) : wpList P ops Q (o :: rest) a w :=
  wpList_val hgd (exec_load_seg ho hx hB hu hi hle hv) h

theorem wpList_storeSeg {ty b off t : Nat} {x y : Operand} {cs vs : List Value} (hgd : o.guard = none) (ho : o.op = .store ty x y) (hx : a.eval x = .pointer (some ⟨b, off, none⟩)) (hy : a.eval y = .agg vs.toArray) (hB : Blk w b cs t)
    (hi : (P.info? ty).map (·.size) = some vs.length) (hle : off + vs.length ≤ cs.length) (h1 : ∀ v ∈ vs, v.oneCell' = true)
    (h : wpList P ops Q rest (a.put o.dst undef) (w.setRow b (splice cs off vs).toArray)) : wpList P ops Q (o :: rest) a w :=
  wpList_skp hgd (exec_store_seg ho hx hy hB hi hle h1) h

theorem wpList_storeNew (w : World) {ty t : Nat} {x y : Operand} {vs : List Value} {c : Array Value} (hgd : o.guard = none) (ho : o.op = .store ty x y) (hx : a.eval x = .pointer (some ⟨w.heap.size, 0, none⟩)) (hy : a.eval y = .agg vs.toArray)
    (hW : w' = w.alloc (.cells c t)) (hi : (P.info? ty).map (·.size) = some vs.length) (hc : c.size = vs.length) (h1 : ∀ v ∈ vs, v.oneCell' = true)
    (h : wpList P ops Q rest (a.put o.dst undef) (w.alloc (.cells vs.toArray t))) : wpList P ops Q (o :: rest) a w' :=
  wpList_skp hgd (by rw [hW]; exact exec_store_new ho hx hy hi hc h1) h

theorem wpList_bytesStr {src dst e b off cap t n : Nat} {x : Operand} {cs : List Value} {l : List UInt8} (hgd : o.guard = none) (ho : o.op = .convert src dst x) (hx : a.eval x = .slice (some ⟨b, off, none⟩) n cap) (hB : Blk w b cs t)
    (hs : P.underlying src = some (.slice e)) (he : P.underlying e = some (.int .u8)) (hd : P.underlying dst = some .string) (hn : l.length = n) (hl : (cs.drop off).take n = bytesV l)
    (h : wpList P ops Q rest (a.put o.dst (strV l)) w) : wpList P ops Q (o :: rest) a w :=
  wpList_val hgd (exec_bytes_str ho hx hB hs he hd hn hl) h

theorem wpHold_loadSeg {R : Act → Prop} {i : Nat} {H : List Nat} {ty b off n t : Nat} {x : Operand} {cs vs : List Value} (hoi : ops[i]? = some o) (hgd : o.guard = none) (ho : o.op = .load ty x) (hx : a.eval x = .pointer (some ⟨b, off, none⟩)) (hB : Blk w b cs t)
    (hu : (P.underlying ty).any aggD = true) (hi : (P.info? ty).map (·.size) = some n)
    (hle : off + n ≤ cs.length) (hv : (cs.drop off).take n = vs) (h : wpHold P ops w R H (a.put o.dst (.agg vs.toArray))) : wpHold P ops w R (i :: H) a :=
  wpHold_val hoi hgd (exec_load_seg ho hx hB hu hi hle hv) h

theorem wpList_build1 {ty f : Nat} {x : Operand} {u v : Value} (hgd : o.guard = none) (ho : o.op = .build ty #[(f, x)]) (hx : a.eval x = u) (hr : (Instr.build ty #[(f, u)]).run P w = .ok v w)
    (h : wpList P ops Q rest (a.put o.dst v) w) : wpList P ops Q (o :: rest) a w :=
  wpList_val hgd (by unfold execOp; simp only [ho]; simp [hx, hr, Result.andThen]) h

theorem run_storeSeg {b off t : Nat} {cs vs : List Value} (hB : Blk w b cs t) (hle : off + vs.length ≤ cs.length) (h1 : ∀ v ∈ vs, v.oneCell' = true) :
    (storeCells ⟨b, off, none⟩ vs).run P w = .ok () (w.setRow b (splice cs off vs).toArray) := by
  have h := run_storeCells_at (P := P) b off t vs 0 cs.toArray w hB (by simpa using hle) h1
  simpa [splice] using h

theorem exec_copy_str {dT sT e b off n cap t : Nat} {d s : Operand} {cs : List Value} {l : List UInt8} (ho : o.op = .call { callee := .builtin .copy, args := #[d, s], argTypes := #[dT, sT] })
    (hd : a.eval d = .slice (some ⟨b, off, none⟩) n cap) (hs : a.eval s = strV l) (hB : Blk w b cs t) (hu : P.underlying dT = some (.slice e)) (hsz : (P.info? e).map (·.size) = some 1) (hn : l.length = n) (hle : off + n ≤ cs.length) :
    (execOp a.eval o).run P w = .ok (.value (.int .i64 n)) (w.setRow b (splice cs off (bytesV l)).toArray) := by
  subst hn
  cases hq : P.info? e with
  | none => simp [hq] at hsz
  | some i =>
    have hi : i.size = 1 := by simpa [hq] using hsz
    have he : List.take l.length (List.map (fun b : UInt8 => Value.int .u8 b.toNat) (BA l).data.toList) = bytesV l := by
      rw [List.take_of_length_le (by simp [BA])]
      simp [BA, bytesV]
      intro b _
      rfl
    have hmin : Nat.min (BA l).size l.length = l.length := Nat.min_self _
    unfold execOp
    simp only [ho]
    simp [resolve, hd, hs, strV, invoke, builtin, Builtin.copy_, run_underlying hu, Builtin.lenOf, sizeOf, typeInfo, hq, Builtin.firstCells, Result.andThen, hmin]
    rw [he]
    simp [run_storeSeg (P := P) hB (vs := bytesV l) (by simpa using hle) bytesV_one]
    rfl

theorem wpList_copyStr {dT sT e b off n cap t : Nat} {d s : Operand} {cs : List Value} {l : List UInt8} (hgd : o.guard = none) (ho : o.op = .call { callee := .builtin .copy, args := #[d, s], argTypes := #[dT, sT] })
    (hd : a.eval d = .slice (some ⟨b, off, none⟩) n cap) (hs : a.eval s = strV l) (hB : Blk w b cs t) (hu : P.underlying dT = some (.slice e)) (hsz : (P.info? e).map (·.size) = some 1) (hn : l.length = n) (hle : off + n ≤ cs.length)
    (h : wpList P ops Q rest (a.put o.dst (.int .i64 n)) (w.setRow b (splice cs off (bytesV l)).toArray)) : wpList P ops Q (o :: rest) a w :=
  wpList_val hgd (exec_copy_str ho hd hs hB hu hsz hn hle) h

theorem exec_copy_seg {dT sT e b off n cap t b2 off2 cap2 t2 : Nat} {d s : Operand} {cs cs2 vs : List Value} (ho : o.op = .call { callee := .builtin .copy, args := #[d, s], argTypes := #[dT, sT] })
    (hd : a.eval d = .slice (some ⟨b, off, none⟩) n cap) (hs : a.eval s = .slice (some ⟨b2, off2, none⟩) n cap2) (hB : Blk w b cs t) (hB2 : Blk w b2 cs2 t2) (hu : P.underlying dT = some (.slice e)) (hsz : (P.info? e).map (·.size) = some 1)
    (hle : off + n ≤ cs.length) (hle2 : off2 + n ≤ cs2.length) (hv : (cs2.drop off2).take n = vs) (h1 : ∀ v ∈ vs, v.oneCell' = true) :
    (execOp a.eval o).run P w = .ok (.value (.int .i64 n)) (w.setRow b (splice cs off vs).toArray) := by
  have hlen : vs.length = n := by rw [← hv]; simp; omega
  cases hq : P.info? e with
  | none => simp [hq] at hsz
  | some i =>
    have hi : i.size = 1 := by simpa [hq] using hsz
    have hl : (loadCells ⟨b2, off2, none⟩ n).run P w = .ok vs.toArray w := by
      rw [← hlen]
      exact run_loadCells_list (P := P) w ⟨b2, off2, none⟩ vs (fun j v hj => by
        have hadd : (⟨b2, off2, none⟩ : Addr).add j = ⟨b2, off2 + j, none⟩ := by unfold Addr.add; split <;> simp_all
        rw [hadd, hB2.cell]
        rw [← hv] at hj
        rw [List.getElem?_take] at hj
        split at hj
        · simpa using hj
        · cases hj)
    have hmin : Nat.min n n = n := Nat.min_self _
    unfold execOp
    simp only [ho]
    simp [resolve, hd, hs, invoke, builtin, Builtin.copy_, run_underlying hu, Builtin.lenOf, sizeOf, typeInfo, hq, hi, Builtin.firstCells, Result.andThen, hmin, hl]
    simp [run_storeSeg hB (by rw [hlen]; exact hle) h1]
    rfl

theorem foldl_fill : ∀ (l : List Value) (k : Nat) (arr : Array Value), k + l.length = arr.size → ((l.zipIdx k).foldl (fun (cs : Array Value) (p : Value × Nat) => cs.setIfInBounds (0 + p.2) p.1) arr).toList = arr.toList.take k ++ l
  | [], k, arr, h => by
    simp at h
    subst h
    simp
    exact (List.take_of_length_le (by simp)).symm
  | v :: l, k, arr, h => by
    rw [List.zipIdx_cons, List.foldl_cons, foldl_fill l (k + 1) _ (by simp at h ⊢; omega)]
    simp at h
    have hk : k < arr.toList.length := by simp; omega
    simp only [Nat.zero_add, Array.toList_setIfInBounds]
    rw [List.take_set]
    rw [List.take_add_one, List.getElem?_eq_getElem hk]
    simp only [Option.toList_some]
    rw [List.set_append_right _ _ (by simp; omega)]
    have : k - (List.take k arr.toList).length = 0 := by simp; omega
    rw [this]
    simp

theorem fill_one {size : Nat} {z : Array Value} {vs : List Value} (h1 : vs.length = size) (h2 : z.size = size) :
    Instr.fill (fun i => some (i * size, size)) z [(0, .agg vs.toArray)] = some vs.toArray := by
  subst h1
  have h := foldl_fill vs 0 z (by simpa using h2.symm)
  simp only [List.take_zero, List.nil_append] at h
  simp only [Instr.fill, Nat.zero_mul, Value.cells]
  rw [if_neg (by simp [h2])]
  congr 1
  apply Array.toList_inj.1
  rw [← Array.foldl_toList]
  simpa using h

structure Info (P : Program) (ty n bytes : Nat) : Prop where
  ex : ∃ i z, P.info? ty = some i ∧ i.zero = some z ∧ z.cells.size = n ∧ i.size = n ∧ i.bytes = bytes
theorem info_mk {ty n bytes : Nat} (h : (P.info? ty).map (fun i => (i.zero.map (·.cells.size), i.size, i.bytes)) = some (some n, n, bytes)) : Info P ty n bytes := by
  cases hq : P.info? ty with
  | none => simp [hq] at h
  | some i =>
    cases hz : i.zero with
    | none => simp [hq, hz] at h
    | some z =>
      simp [hq, hz] at h
      exact ⟨i, z, hq, hz, h.1, h.2.1, h.2.2⟩

theorem exec_slice1 {t e n bytes : Nat} {x : Operand} {vs : List Value} (ho : o.op = .buildSlice t 1 #[(0, x)]) (hx : a.eval x = .agg vs.toArray) (hu : P.underlying t = some (.slice e)) (hi : Info P e n bytes)
    (hn : vs.length = n) (hp : 0 < n) (hsm : n ≤ 2 ^ 24) : (execOp a.eval o).run P w = .ok (.value (.slice (some ⟨w.heap.size, 0, none⟩) 1 1)) (w.alloc (.cells vs.toArray e)) := by
  obtain ⟨i, z, h1, h2, h3, h4, h5⟩ := hi.ex
  unfold execOp
  simp only [ho, Sem.run_bind]
  rw [run_buildSlice w t e 1 _ vs.toArray i z hu h1 h2 (by rw [h4]; omega) (by rw [h4]; omega) (by
    simp only [List.map_toArray, List.map_cons, List.map_nil, hx]
    exact fill_one (by omega) (by simp))]
  rfl
theorem wpList_slice1 {t e n bytes : Nat} {x : Operand} {vs : List Value} (hgd : o.guard = none) (ho : o.op = .buildSlice t 1 #[(0, x)]) (hx : a.eval x = .agg vs.toArray) (hu : P.underlying t = some (.slice e)) (hi : Info P e n bytes)
    (hn : vs.length = n) (hp : 0 < n) (hsm : n ≤ 2 ^ 24) (h : wpList P ops Q rest (a.put o.dst (.slice (some ⟨w.heap.size, 0, none⟩) 1 1)) (w.alloc (.cells vs.toArray e))) : wpList P ops Q (o :: rest) a w := by
  obtain ⟨i, z, h1, h2, h3, h4, h5⟩ := hi.ex
  refine wpList_buildSlice hgd t e 1 _ ho vs.toArray i z hu h1 h2 (by rw [h4]; omega) (by rw [h4]; omega) ?_ h
  simp only [List.map_toArray, List.map_cons, List.map_nil, hx]
  exact fill_one (by omega) (by simp)

/-- append of one piece, made on the spot, to a slice of the call's own. -/
theorem wpList_app1 {s x : Operand} {t e size bytes B n : Nat} {v : Value} {xs news : List Value} {ad : Addr} {m c : Nat} (hgd : o.guard = none)
    (ho : o.op = .call { callee := .builtin .append, args := #[s, x], argTypes := #[t, t] }) (hu : P.underlying t = some (.slice e)) (hi : Info P e size bytes) (hsz : 0 < size)
    (hs : a.eval s = v) (hown : w.ownsRow B e size v n xs) (hx : a.eval x = .slice (some ad) m c) (hl : news.length = m * size) (hnews : ∀ j u, news[j]? = some u → w.cell? (ad.add j) = some u) (h1 : ∀ u ∈ news, u.oneCell' = true)
    (h63 : n + m ≤ maxLen) (hbytes : (n + m) * bytes ≤ 140737488355328) (hbase : B ≤ w.heap.size)
    (h : ∀ v' w', w'.ownsRow B e size v' (n + m) (xs ++ news) → w.grownBy w' v.ownBlock → wpList P ops Q rest (a.put o.dst v') w') : wpList P ops Q (o :: rest) a w := by
  obtain ⟨i, z, g1, g2, g3, g4, g5⟩ := hi.ex
  exact wpList_append_own w hgd s x t ho B e i z size bytes hu g1 g2 g4 g5 (by omega) hsz v n xs hs hown ad m c news hx hl hnews h1 h63 hbytes hbase (fun v' w' h1 h2 _ => h v' w' h1 h2)

theorem Fr.grown {B : Nat} {ts : List Nat} {W w1 : World} (h : Fr B ts W w) {row : Option Nat} (hg : w.grownBy w1 row) (hr : ∀ k, row = some k → (W.heap.size ≤ k) ∨ (B ≤ k ∧ ∃ c t, t ∈ ts ∧ W.heap[k]? = some (.cells c t (0, 0)))) : Fr B ts W w1 :=
  ⟨hg.os.trans h.os, hg.tape.trans h.tape, hg.output.trans h.output, Nat.le_trans h.size hg.size, fun k o hk ho => by
    have h1 := h.block k o hk ho
    have hlt := lt_of_get hk
    refine (hg.block k (lt_of_get h1) (fun e => ?_)).trans h1
    rcases hr k e.symm with h2 | ⟨h2, c, t, ht, h3⟩
    · omega
    · rw [h3] at hk
      cases hk
      exact (ho.elim (fun x => by omega) (fun x => x ht))⟩

theorem wpList_build0 {ty : Nat} {v : Value} (hgd : o.guard = none) (ho : o.op = .build ty #[]) (hr : (Instr.build ty #[]).run P w = .ok v w)
    (h : wpList P ops Q rest (a.put o.dst v) w) : wpList P ops Q (o :: rest) a w :=
  wpList_val hgd (by unfold execOp; simp only [ho]; simp [hr, Result.andThen]) h
theorem wpList_box {ty : Nat} {x : Operand} {vs : List Value} (hgd : o.guard = none) (ho : o.op = .box ty x) (hx : a.eval x = .agg vs.toArray)
    (h : wpList P ops Q rest (a.put o.dst (.pointer (some ⟨w.heap.size, 0, none⟩))) (w.alloc (.cells vs.toArray ty))) : wpList P ops Q (o :: rest) a w :=
  wpList_val hgd (by unfold execOp; simp only [ho, hx]; simp [Instr.box, newVar, newRow, newObj, Value.cells, Result.andThen]; rfl) h
theorem BA_get (l : List UInt8) (j : Nat) (x : UInt8) (h : l[j]? = some x) : (BA l)[j]? = some x := by
  obtain ⟨hlt, he⟩ := List.getElem?_eq_some_iff.1 h
  have : j < (BA l).size := hlt
  rw [getElem?_pos (BA l) j this]
  congr 1
theorem run_index_BA {t : TypeId} (l : List UInt8) (j : Nat) (x : UInt8) (h : l[j]? = some x) (hu : P.underlying t = some .string) (w : World) : (Instr.index t (.string (BA l)) (.int .i64 j)).run P w = .ok (.int .u8 x.toNat) w := by
  have h2 := BA_get l j x h
  simp [Instr.index, run_underlying hu, asIntOf, h2, Sem.run_bind, Result.andThen]
theorem exec_index_BA {t : TypeId} {x y : Operand} {l : List UInt8} {j : Nat} {b : UInt8} (ho : o.op = .index t x y) (hx : a.eval x = .string (BA l)) (hy : a.eval y = .int .i64 j) (h : l[j]? = some b) (hu : P.underlying t = some .string) (w : World) :
    (execOp a.eval o).run P w = .ok (.value (.int .u8 b.toNat)) w := by
  unfold execOp
  simp only [ho, hx, hy, Sem.run_bind, run_index_BA l j b h hu]
  rfl
end

/-! How texts are cut, joined and compared. -/
theorem BA_size (l : List UInt8) : (BA l).size = l.length := rfl
theorem BA_extract (l : List UInt8) (a b : Nat) : (BA l).extract a b = BA ((l.take b).drop a) := by
  apply ByteArray.ext
  rw [ByteArray.data_extract]
  simp [BA]
  rw [List.drop_take]
theorem BA_append (a b : List UInt8) : BA a ++ BA b = BA (a ++ b) := by
  apply ByteArray.ext
  rw [ByteArray.data_append]
  simp [BA]
theorem BA_toList (l : List UInt8) : (BA l).toList = l := by
  rw [Lib.toList_data]
  rfl

end Go.Proofs.YtkeamfdceehliaaGreatDoor

/- A new disk, and a disk's crash, walked. -/
import Derived.Test.YtkeamfdceehliaaGreatDoorDisk3
namespace Go.Proofs.YtkeamfdceehliaaGreatDoor
open Go.RowKit

def zsecV : Array Value := Array.replicate 64 (.int .u8 0)
theorem infoSecZ : (Tryz.prog.info? TSec).map (fun i => (i.zero.map (·.cells), i.size, i.bytes)) = some (some zsecV, 64, 64) := by kernel_rfl
theorem undSecs : Tryz.prog.underlying 49 = some (.slice TSec) := by kernel_rfl

theorem bytesV_zsec : bytesV Dk.zsec = List.replicate 64 (Value.int .u8 0) := by
  unfold bytesV Dk.zsec
  rw [List.map_replicate]
  rfl
theorem secsV_zero (n : Nat) : secsV (List.replicate n Dk.zsec) = List.replicate (n * 64) (Value.int .u8 0) := by
  unfold secsV
  induction n with
  | zero => rfl
  | succ n ih =>
    rw [List.replicate_succ, List.flatMap_cons, ih, bytesV_zsec, List.replicate_append_replicate, Nat.succ_mul, Nat.add_comm]
theorem made_zero (n : Nat) : (madeCells zsecV (n * 64)).toList = secsV (List.replicate n Dk.zsec) := by
  rw [secsV_zero]
  apply List.ext_getElem?
  intro j
  by_cases hj : j < n * 64
  · have hm : j % 64 < 64 := Nat.mod_lt _ (by omega)
    have hs : zsecV.size = 64 := Array.size_replicate
    have hg : zsecV[j % 64]! = Value.int .u8 0 := by
      unfold zsecV
      simp [hm]
    simp [madeCells, hj, hs, hg]
  · simp [madeCells, hj]

theorem make_secs (w : World) (n : Nat) (hn : n ≤ 1024) : (Instr.makeSlice 49 (.int .i64 (n : Int)) (.int .i64 (n : Int))).run Tryz.prog w =
    .ok (.slice (some ⟨w.heap.size, 0, none⟩) n n) (w.alloc (.cells (secsV (List.replicate n Dk.zsec)).toArray TSec)) := by
  cases hq : Tryz.prog.info? TSec with
  | none => have := infoSecZ; simp [hq] at this
  | some i =>
    have h := infoSecZ
    rw [hq] at h
    simp only [Option.map_some, Option.some.injEq, Prod.mk.injEq] at h
    obtain ⟨hz, hs, hb⟩ := h
    cases hzz : i.zero with
    | none => simp [hzz] at hz
    | some z =>
      rw [hzz] at hz
      simp only [Option.map_some, Option.some.injEq] at hz
      have := run_make (P := Tryz.prog) w _ TSec i z undSecs hq hzz .i64 .i64 n n (by omega) (Int.le_refl _) (by rw [hb]; omega) (by omega)
      simp only [Int.toNat_natCast, hz, hs] at this
      have e : madeCells zsecV (n * 64) = (secsV (List.replicate n Dk.zsec)).toArray := by rw [← made_zero, Array.toArray_toList]
      rw [e] at this
      exact this

theorem wpList_make {P : Program} {ops : Array Oper} {Q : Exit → Act → World → Prop} {o : Oper} {a : Act} {w w' : World} {rest : List Oper} {t : TypeId} {x y : Operand} {u v r : Value} (hgd : o.guard = none) (ho : o.op = .makeSlice t x y) (hx : a.eval x = u) (hy : a.eval y = v)
    (hr : (Instr.makeSlice t u v).run P w = .ok r w') (h : wpList P ops Q rest (a.put o.dst r) w') : wpList P ops Q (o :: rest) a w :=
  wpList_val hgd (by unfold execOp; simp only [ho, hx, hy, Sem.run_bind, hr]; rfl) h

theorem new_no (n : Int) (hn : n < 1 ∨ 1024 < n) (w : World) : Calls Tryz.prog 8 #[.int .i64 n] w fun e w' => e = .returned (.pointer none) ∧ w = w' := by
  rcases hn with hn | hn
  · go_enter Tryz.func8, Tryz.ntmps8
    go_wp2
    go_ret
    exact ⟨rfl, rfl⟩
  · have hn1 : 1 ≤ n := by omega
    go_enter Tryz.func8, Tryz.ntmps8
    go_wp2
    go_ret
    exact ⟨rfl, rfl⟩

set_option maxRecDepth 100000 in
theorem new_ok (B n : Nat) (h1 : 1 ≤ n) (h2 : n ≤ 1024) (w : World) (hB : B ≤ w.heap.size) :
    Calls Tryz.prog 8 #[.int .i64 n] w fun e w' => ∃ d sb, e = .returned (dp d) ∧ DiskIn B w' d sb (.slice none 0 0) (Dk.new n) ∧ Fr B [] w w' := by
  have hm := Lib.hid (make_secs w n h2)
  have hD : Hid (DiskIn B ((w.alloc (.cells (secsV (List.replicate n Dk.zsec)).toArray TSec)).alloc (.cells #[.slice (some ⟨w.heap.size, 0, none⟩) n n, .slice none 0 0, .int .i64 0, .int .i64 0] TDisk)) (w.heap.size + 1) w.heap.size (.slice none 0 0) (Dk.new n)) := by
    refine ⟨?_, (Blk.new w (secsV (List.replicate n Dk.zsec)) TSec).alloc _, World.ownsRow_nil _ _ _ _, by omega, hB, by simp [Dk.new]; omega, by simp [Dk.new]; omega, ?_, (fun o ho => by cases ho), by simp [Dk.new], by simp [Dk.new]⟩
    · have := Blk.new (w.alloc (.cells (secsV (List.replicate n Dk.zsec)).toArray TSec)) [.slice (some ⟨w.heap.size, 0, none⟩) n n, .slice none 0 0, .int .i64 0, .int .i64 0] TDisk
      simpa [Dk.new] using this
    · intro s hs
      have := List.eq_of_mem_replicate hs
      rw [this]
      rfl
  have hz : 1 ≤ (n : Int) := by omega
  have hz2 : (n : Int) ≤ 1024 := by omega
  go_enter Tryz.func8, Tryz.ntmps8
  go_wp2_with (refine wpList_make (t := 49) (x := .tmp 9) (y := .tmp 9) (u := .int .i64 n) (v := .int .i64 n) rfl rfl rfl rfl hm.out ?_)
  go_ret
  exact ⟨_, _, rfl, hD.out, ((Fr.refl _ _ _).alloc _).alloc _⟩

end Go.Proofs.YtkeamfdceehliaaGreatDoor

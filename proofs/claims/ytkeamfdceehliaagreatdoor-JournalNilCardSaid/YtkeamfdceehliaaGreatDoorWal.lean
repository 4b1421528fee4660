/- The log (package wal), walked: New, Start, Len, Left. -/
import Derived.Test.YtkeamfdceehliaaGreatDoorSlots7
namespace Go.Proofs.YtkeamfdceehliaaGreatDoor
open Go.RowKit

abbrev TLog : Nat := 89
abbrev TOpen : Nat := 91
abbrev TShut : Nat := 94
/-- How a log stands: shut, or open of an epoch with so many records. -/
def stV : Option (Int × Nat) → Value
  | none => .iface TShut (.agg #[])
  | some (e, n) => .iface TOpen (.agg #[.int .u64 e, .int .i64 n])
def logV (d : Nat) (at_ n : Nat) (st : Option (Int × Nat)) : List Value := [dp d, .int .i64 at_, .int .i64 n, stV st]

theorem wal_nil (at_ n : Int) (hat : 0 ≤ at_ ∧ at_ < 2 ^ 40) (hn : -(2 ^ 40) < n ∧ n < 2 ^ 40) (_hno : n < 1 ∨ 0 < at_ + n) (w : World) :
    Calls Tryz.prog 34 #[.pointer none, .int .i64 at_, .int .i64 n] w fun e w' => e = .returned (.pointer none) ∧ w = w' := by
  have hl := Lib.hid (len_nil w)
  obtain ⟨h0, h1⟩ := hat
  obtain ⟨h4, h5⟩ := hn
  by_cases h2 : n < 1
  · go_enter Tryz.func34, Tryz.ntmps34
    go_wp2_with (go_at_call 35; refine hl.out.mono ?_; rintro e w' ⟨rfl, rfl⟩)
    all_goals first
      | (exfalso; omega)
      | (go_ret; exact ⟨rfl, rfl⟩)
  · have h3 : -n < at_ := by omega
    go_enter Tryz.func34, Tryz.ntmps34
    go_wp2_with (go_at_call 35; refine hl.out.mono ?_; rintro e w' ⟨rfl, rfl⟩)
    all_goals first
      | (exfalso; omega)
      | (go_ret; exact ⟨rfl, rfl⟩)
theorem wal_no {B d sb : Nat} {osl : Value} {D : Dk} {w : World} (hD : DiskIn B w d sb osl D) (at_ n : Int) (hat : 0 ≤ at_ ∧ at_ < 2 ^ 40) (hn : -(2 ^ 40) < n ∧ n < 1) :
    Calls Tryz.prog 34 #[dp d, .int .i64 at_, .int .i64 n] w fun e w' => e = .returned (.pointer none) ∧ w = w' := by
  have hl := Lib.hid (len_in hD)
  obtain ⟨h0, h1⟩ := hat
  obtain ⟨h2, h3⟩ := hn
  go_enter Tryz.func34, Tryz.ntmps34
  go_wp2_with (go_at_call 35; refine hl.out.mono ?_; rintro e w' ⟨rfl, rfl⟩)
  all_goals first
    | (exfalso; omega)
    | (go_ret; exact ⟨rfl, rfl⟩)
theorem wal_ok {B d sb : Nat} {osl : Value} {D : Dk} {w : World} (hD : DiskIn B w d sb osl D) (at_ n : Nat) (hn : 1 ≤ n) (hat : at_ + n ≤ D.secs.length) :
    Calls Tryz.prog 34 #[dp d, .int .i64 at_, .int .i64 n] w fun e w' => e = .returned (.pointer (some ⟨w.heap.size, 0, none⟩)) ∧ w' = w.alloc (.cells (logV d at_ n none).toArray TLog) := by
  have hl := Lib.hid (len_in hD)
  have hm := hD.many
  have h1 : 1 ≤ (n : Int) := by omega
  have h2 : (at_ : Int) ≤ (D.secs.length : Int) - n := by omega
  go_enter Tryz.func34, Tryz.ntmps34
  go_wp2_with (go_at_call 35; refine hl.out.mono ?_; rintro e w' ⟨rfl, rfl⟩)
  all_goals first
    | (exfalso; omega)
    | (go_ret; exact ⟨rfl, rfl⟩)

theorem walStart_ok {w : World} {b d at_ n : Nat} {st : Option (Int × Nat)} (hL : Blk w b (logV d at_ n st) TLog) (e : Int) (he : e ≠ 0) :
    Calls Tryz.prog 38 #[dp b, .int .u64 e] w fun r w' => r = .returned (.int .i64 0) ∧ w' = w.setCell ⟨b, 3, none⟩ (stV (some (e, 0))) := by
  have c3 := hL.cell 3
  have f3 := hL.free 3
  simp only [logV, List.getElem?_cons_zero, List.getElem?_cons_succ] at c3
  go_enter Tryz.func38, Tryz.ntmps38
  go_wp2
  go_ret
  exact ⟨rfl, rfl⟩

@[go_sem] theorem as_yes (v : Value) (w : World) : (Instr.typeAssert (.iface 91 v) 87 91 true).run Tryz.prog w = .ok (.tuple #[v, .bool true]) w := by kernel_rfl
@[go_sem] theorem as_no (v : Value) (w : World) : (Instr.typeAssert (.iface 94 v) 87 91 true).run Tryz.prog w = .ok (.tuple #[.agg #[.int .u64 0, .int .i64 0], .bool false]) w := by kernel_rfl

def stN : Option (Int × Nat) → Nat
  | none => 0
  | some (_, m) => m
theorem walLen_any {w : World} {b d at_ n : Nat} {st : Option (Int × Nat)} (hL : Blk w b (logV d at_ n st) TLog) :
    Calls Tryz.prog 44 #[dp b] w fun r w' => r = .returned (.int .i64 (stN st)) ∧ Below w.heap.size w w' := by
  cases st with
  | none =>
    have c3 := hL.cell 3
    simp only [logV, stV, List.getElem?_cons_zero, List.getElem?_cons_succ] at c3
    go_enter Tryz.func44, Tryz.ntmps44
    go_wp2
    go_ret
    exact ⟨rfl, Below.refl _ _⟩
  | some p =>
    obtain ⟨e, m⟩ := p
    have c3 := hL.cell 3
    simp only [logV, stV, List.getElem?_cons_zero, List.getElem?_cons_succ] at c3
    go_enter Tryz.func44, Tryz.ntmps44
    go_wp2
    go_ret
    exact ⟨rfl, (Below.refl _ _).alloc (Nat.le_refl _) _⟩

def walLeft (n : Nat) : Option (Int × Nat) → Int
  | none => 0
  | some (_, m) => (n : Int) - m
theorem walLeft_any {w : World} {b d at_ n : Nat} {st : Option (Int × Nat)} (hL : Blk w b (logV d at_ n st) TLog) (hn : n ≤ 4096) (hm : stN st ≤ n) :
    Calls Tryz.prog 32 #[dp b] w fun r w' => r = .returned (.int .i64 (walLeft n st)) ∧ Below w.heap.size w w' := by
  cases st with
  | none =>
    have c3 := hL.cell 3
    simp only [logV, stV, List.getElem?_cons_zero, List.getElem?_cons_succ] at c3
    go_enter Tryz.func32, Tryz.ntmps32
    go_wp2
    go_ret
    exact ⟨rfl, Below.refl _ _⟩
  | some p =>
    obtain ⟨e, m⟩ := p
    have hm2 : m ≤ n := hm
    have hlen := Lib.hid (walLen_any hL.drew)
    have c3 := hL.cell 3
    have c2 := hL.cell 2
    simp only [logV, stV, List.getElem?_cons_zero, List.getElem?_cons_succ] at c3 c2
    go_enter Tryz.func32, Tryz.ntmps32
    go_wp2
    refine wp_region_planN (fun W => W.cell? ⟨b, 2, none⟩ = some (.int .i64 n)) [0, 1, 2, 4] [3] [5] [6, 7] (by kernel_rfl) (by kernel_rfl) c2 (fun c a d v w h => by cases d <;> exact h) ?_
    iterate 4
      refine pureS (v := ?_) rfl ?_ ?_
      rotate_left
      · intro wq
        go_simp
        rfl
      simp only [put_lit, List.set_cons_succ, List.set_cons_zero]
    refine holdS (v := .int .i64 n) rfl ?_ ?_
    · intro wq hq
      go_simp
    simp only [put_lit, List.set_cons_succ, List.set_cons_zero]
    refine oneC (j := 5) (rem' := []) ⟨by kernel_rfl, by kernel_rfl⟩ rfl (by go_simp) (hlen.out.mono ?_)
    rintro r w1 ⟨rfl, hb⟩
    refine ⟨_, rfl, (hb.cell (p := ⟨b, 2, none⟩) hL.lt).trans c2, ?_⟩
    simp only [put_lit, List.set_cons_succ, List.set_cons_zero]
    refine endT (g1 rfl (g1 rfl g0)) ?_
    go_wp2
    go_ret
    refine ⟨retI ?_, Below.trans (b := w.drew) ⟨rfl, rfl, rfl, Nat.le_refl _, fun _ _ => rfl⟩ hb⟩
    unfold stN walLeft
    go_num
end Go.Proofs.YtkeamfdceehliaaGreatDoor

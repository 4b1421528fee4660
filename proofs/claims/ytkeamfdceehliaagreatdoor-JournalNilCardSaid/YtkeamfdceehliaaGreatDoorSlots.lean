/- Slots (package slots), walked: New, Room. -/
import Derived.Test.YtkeamfdceehliaaGreatDoorFrame5
import Derived.Test.YtkeamfdceehliaaGreatDoorDisk5
namespace Go.Proofs.YtkeamfdceehliaaGreatDoor
open Go.RowKit

abbrev TSlots : Nat := 81
def slotsV (d : Nat) (at_ : Int) (k : Nat) (rd : Bool) (nw last : Int) : List Value := [dp d, .int .i64 at_, .int .i64 k, .bool rd, .int .u64 nw, .int .i64 last]

theorem slots_nil (at_ : Int) (k : Int) (hat : 0 ≤ at_ ∧ at_ < 2 ^ 40) (hk : 1 ≤ k ∧ k ≤ 64) (w : World) :
    Calls Tryz.prog 33 #[.pointer none, .int .i64 at_, .int .i64 k] w fun e w' => e = .returned (.pointer none) ∧ w = w' := by
  have hl := Lib.hid (len_nil w)
  obtain ⟨h0, h1⟩ := hat
  obtain ⟨h2, h3⟩ := hk
  have h4 : -(2 * k) < at_ := by omega
  go_enter Tryz.func33, Tryz.ntmps33
  go_wp2_with (go_at_call 35; refine hl.out.mono ?_; rintro e w' ⟨rfl, rfl⟩)
  all_goals first
    | (exfalso; omega)
    | (go_ret; exact ⟨rfl, rfl⟩)

theorem slots_no {B d sb : Nat} {osl : Value} {D : Dk} {w : World} (hD : DiskIn B w d sb osl D) (k : Int) (hk : k < 1 ∨ 64 < k ∨ D.secs.length < 2 * k) :
    Calls Tryz.prog 33 #[dp d, .int .i64 0, .int .i64 k] w fun e w' => e = .returned (.pointer none) ∧ w = w' := by
  have hl := Lib.hid (len_in hD)
  have hm := hD.many
  by_cases h1 : k < 1
  · go_enter Tryz.func33, Tryz.ntmps33
    go_wp2_with (go_at_call 35; refine hl.out.mono ?_; rintro e w' ⟨rfl, rfl⟩)
    all_goals first
      | (exfalso; omega)
      | (go_ret; exact ⟨rfl, rfl⟩)
  · by_cases h2 : 64 < k
    · go_enter Tryz.func33, Tryz.ntmps33
      go_wp2_with (go_at_call 35; refine hl.out.mono ?_; rintro e w' ⟨rfl, rfl⟩)
      all_goals first
        | (exfalso; omega)
        | (go_ret; exact ⟨rfl, rfl⟩)
    · have h3 : (D.secs.length : Int) - 2 * k < 0 := by omega
      go_enter Tryz.func33, Tryz.ntmps33
      go_wp2_with (go_at_call 35; refine hl.out.mono ?_; rintro e w' ⟨rfl, rfl⟩)
      all_goals first
        | (exfalso; omega)
        | (go_ret; exact ⟨rfl, rfl⟩)

theorem slots_ok {B d sb : Nat} {osl : Value} {D : Dk} {w : World} (hD : DiskIn B w d sb osl D) (k : Nat) (h1 : 1 ≤ k) (h2 : k ≤ 64) (h3 : 2 * k ≤ D.secs.length) :
    Calls Tryz.prog 33 #[dp d, .int .i64 0, .int .i64 k] w fun e w' => e = .returned (.pointer (some ⟨w.heap.size, 0, none⟩)) ∧ w' = w.alloc (.cells (slotsV d 0 k false 0 (-1)).toArray TSlots) := by
  have hl := Lib.hid (len_in hD)
  have hm := hD.many
  have h4 : 0 ≤ (D.secs.length : Int) - 2 * k := by omega
  have h5 : (k : Int) ≤ 64 := by omega
  have h6 : 1 ≤ (k : Int) := by omega
  go_enter Tryz.func33, Tryz.ntmps33
  go_wp2_with (go_at_call 35; refine hl.out.mono ?_; rintro e w' ⟨rfl, rfl⟩)
  all_goals first
    | (exfalso; omega)
    | (go_ret; exact ⟨rfl, rfl⟩)

theorem room_nil (w : World) : Calls Tryz.prog 30 #[.pointer none] w fun e w' => e = .returned (.int .i64 0) ∧ w = w' := by
  go_enter Tryz.func30, Tryz.ntmps30
  go_wp2
  go_ret
  exact ⟨rfl, rfl⟩
theorem room_ok {w : World} {s d k : Nat} {at_ nw last : Int} {rd : Bool} (hS : Blk w s (slotsV d at_ k rd nw last) TSlots) (hk : k ≤ 64) :
    Calls Tryz.prog 30 #[dp s] w fun e w' => e = .returned (.int .i64 (k * 43)) ∧ w = w' := by
  have c2 := hS.cell 2
  simp only [slotsV, List.getElem?_cons_zero, List.getElem?_cons_succ] at c2
  go_enter Tryz.func30, Tryz.ntmps30
  go_wp2
  go_ret
  refine ⟨retI ?_, rfl⟩
  go_num
end Go.Proofs.YtkeamfdceehliaaGreatDoor

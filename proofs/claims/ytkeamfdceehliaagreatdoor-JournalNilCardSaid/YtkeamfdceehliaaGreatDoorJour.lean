/- The journal: made, begins, Good, Epoch, Left. -/
import Derived.Test.YtkeamfdceehliaaGreatDoorWal5
namespace Go.Proofs.YtkeamfdceehliaaGreatDoor
open Go.RowKit

abbrev TJour : Nat := 62
def jourV (b s : Nat) (good : Bool) (ep : Int) : List Value := [dp b, dp s, .bool good, .int .u64 ep]

theorem made_nil (w : World) : Calls Tryz.prog 21 #[.pointer none, .int .i64 1] w fun e w' => e = .returned (.pointer none) ∧ w = w' := by
  have h1 := Lib.hid (slots_nil 0 1 ⟨by omega, by omega⟩ ⟨by omega, by omega⟩ w)
  have h2 := Lib.hid (wal_nil 2 (-2) ⟨by omega, by omega⟩ ⟨by omega, by omega⟩ (.inl (by omega)) w)
  have hl := Lib.hid (len_nil w)
  go_enter Tryz.func21, Tryz.ntmps21
  go_wp2_with (first
    | (go_at_call 33; refine h1.out.mono ?_; rintro e w' ⟨rfl, rfl⟩)
    | (go_at_call 35; refine hl.out.mono ?_; rintro e w' ⟨rfl, rfl⟩)
    | (go_at_call 34; refine h2.out.mono ?_; rintro e w' ⟨rfl, rfl⟩))
  go_ret
  exact ⟨rfl, rfl⟩

theorem made_ok {B d sb : Nat} {osl : Value} {D : Dk} {w : World} (hD : DiskIn B w d sb osl D) (k : Nat) (h1 : 1 ≤ k) (h2 : k ≤ 64) (h3 : 2 * k < D.secs.length) :
    Calls Tryz.prog 21 #[dp d, .int .i64 k] w fun e w' => e = .returned (.pointer (some ⟨w.heap.size + 2, 0, none⟩)) ∧
      w' = ((w.alloc (.cells (slotsV d 0 k false 0 (-1)).toArray TSlots)).alloc (.cells (logV d (2 * k) (D.secs.length - 2 * k) none).toArray TLog)).alloc (.cells (jourV (w.heap.size + 1) w.heap.size false 0).toArray TJour) := by
  have hmany := hD.many
  have hS := Lib.hid (slots_ok hD k h1 h2 (by omega))
  have hD2 := hD.keep (w' := w.alloc (.cells (slotsV d 0 k false 0 (-1)).toArray TSlots)) (fun k c t hk => (Below.heap_alloc _ _ _ (lt_of_get hk)).trans hk)
  have hW := Lib.hid (wal_ok hD2 (2 * k) (D.secs.length - 2 * k) (by omega) (by omega))
  have hl := Lib.hid (len_in hD2)
  have e1 : ((2 * k : Nat) : Int) = 2 * (k : Int) := by omega
  have e2 : ((D.secs.length - 2 * k : Nat) : Int) = (D.secs.length : Int) - 2 * (k : Int) := by omega
  rw [e1, e2] at hW
  go_enter Tryz.func21, Tryz.ntmps21
  go_wp2_with (first
    | (go_at_call 33; refine hS.out.mono ?_; rintro e w' ⟨rfl, rfl⟩)
    | (go_at_call 35; refine hl.out.mono ?_; rintro e w' ⟨rfl, rfl⟩)
    | (go_at_call 34; refine hW.out.mono ?_; rintro e w' ⟨rfl, rfl⟩))
  go_ret
  exact ⟨by simp, by simp [jourV]⟩

theorem good_nil (w : World) : Calls Tryz.prog 17 #[.pointer none] w fun e w' => e = .returned (.bool false) ∧ w = w' := by
  go_enter Tryz.func17, Tryz.ntmps17
  go_wp2
  go_ret
  exact ⟨rfl, rfl⟩
theorem good_in {w : World} {j b s : Nat} {g : Bool} {ep : Int} (hJ : Blk w j (jourV b s g ep) TJour) : Calls Tryz.prog 17 #[dp j] w fun e w' => e = .returned (.bool g) ∧ w = w' := by
  have c2 := hJ.cell 2
  simp only [jourV, List.getElem?_cons_zero, List.getElem?_cons_succ] at c2
  go_enter Tryz.func17, Tryz.ntmps17
  go_wp2
  go_ret
  exact ⟨rfl, rfl⟩
theorem epoch_nil (w : World) : Calls Tryz.prog 14 #[.pointer none] w fun e w' => e = .returned (.int .u64 0) ∧ w = w' := by
  go_enter Tryz.func14, Tryz.ntmps14
  go_wp2
  go_ret
  exact ⟨rfl, rfl⟩
theorem epoch_in {w : World} {j b s : Nat} {g : Bool} {ep : Int} (hJ : Blk w j (jourV b s g ep) TJour) : Calls Tryz.prog 14 #[dp j] w fun e w' => e = .returned (.int .u64 ep) ∧ w = w' := by
  have c3 := hJ.cell 3
  simp only [jourV, List.getElem?_cons_zero, List.getElem?_cons_succ] at c3
  go_enter Tryz.func14, Tryz.ntmps14
  go_wp2
  go_ret
  exact ⟨rfl, rfl⟩
theorem left_nil (w : World) : Calls Tryz.prog 18 #[.pointer none] w fun e w' => e = .returned (.int .i64 0) ∧ w = w' := by
  have h := Lib.hid (good_nil w)
  go_enter Tryz.func18, Tryz.ntmps18
  go_wp2_with (go_at_call 17; refine h.out.mono ?_; rintro e w' ⟨rfl, rfl⟩)
  go_ret
  exact ⟨rfl, rfl⟩
theorem left_in {w : World} {j b s d at_ n : Nat} {st : Option (Int × Nat)} {ep : Int} (hJ : Blk w j (jourV b s true ep) TJour) (hL : Blk w b (logV d at_ n st) TLog) (hn : n ≤ 4096) (hm : stN st ≤ n) :
    Calls Tryz.prog 18 #[dp j] w fun e w' => e = .returned (.int .i64 (walLeft n st)) ∧ Below w.heap.size w w' := by
  have h := Lib.hid (good_in hJ)
  have hl := Lib.hid (walLeft_any hL hn hm)
  have c0 := hJ.cell 0
  simp only [jourV, List.getElem?_cons_zero] at c0
  go_enter Tryz.func18, Tryz.ntmps18
  go_wp2_with (first
    | (go_at_call 17; refine h.out.mono ?_; rintro e w' ⟨rfl, rfl⟩)
    | (go_at_call 32; refine hl.out.mono ?_; rintro e w' ⟨rfl, hb⟩))
  go_ret
  exact ⟨rfl, hb⟩

theorem begins_ok {w : World} {j b s d at_ n : Nat} {st : Option (Int × Nat)} {g : Bool} {ep e : Int} (hJ : Blk w j (jourV b s g ep) TJour) (hL : Blk w b (logV d at_ n st) TLog) (he : e ≠ 0) :
    Calls Tryz.prog 24 #[dp j, .int .u64 e] w fun r w' => (∃ v, r = .returned v) ∧ w' = ((w.setCell ⟨j, 3, none⟩ (.int .u64 e)).setCell ⟨b, 3, none⟩ (stV (some (e, 0)))).setCell ⟨j, 2, none⟩ (.bool true) := by
  have hne : j ≠ b := hJ.ne hL (by decide)
  have c0 := hJ.cell 0
  have c2 := hJ.cell 2
  have c3 := hJ.cell 3
  have f2 := hJ.free 2
  have f3 := hJ.free 3
  simp only [jourV, List.getElem?_cons_zero, List.getElem?_cons_succ] at c0 c2 c3
  have hSt := Lib.hid (walStart_ok (hL.other (p := ⟨j, 3, none⟩) (fun h => hne h.symm) (.int .u64 e)) e he)
  go_enter Tryz.func24, Tryz.ntmps24
  go_wp2_with (go_at_call 38; refine hSt.out.mono ?_; rintro r w' ⟨rfl, rfl⟩)
  go_end0
  exact ⟨⟨_, rfl⟩, rfl⟩
end Go.Proofs.YtkeamfdceehliaaGreatDoor

/- Slots: Write. -/
import Derived.Test.YtkeamfdceehliaaGreatDoorSlots6
namespace Go.Proofs.YtkeamfdceehliaaGreatDoor
open Go.RowKit
attribute [local go_sem] BA_size BA_extract BA_append BA_toList

theorem slWr_long {w : World} {s d k : Nat} {rd : Bool} {nw last : Int} {data : List UInt8} (hS : Blk w s (slotsV d 0 k rd nw last) TSlots) (hk : k ≤ 64) (hl : k * 43 < data.length) (_hm : data.length ≤ 140737488355328) :
    Calls Tryz.prog 23 #[dp s, .string (BA data)] w fun e w' => e = .returned (.tuple #[.int .u64 0, .int .i64 1]) ∧ w = w' := by
  have hR := Lib.hid (room_ok hS hk)
  have hl2 : (k : Int) * 43 < data.length := by omega
  go_enter Tryz.func23, Tryz.ntmps23
  go_wp2_with (go_at_call 30; refine hR.out.mono ?_; rintro e w' ⟨rfl, rfl⟩)
  go_ret2
  exact ⟨rfl, rfl⟩
theorem slWr_state {w : World} {s d k : Nat} {nw last : Int} {data : List UInt8} (hS : Blk w s (slotsV d 0 k false nw last) TSlots) (hk : k ≤ 64) (hl : data.length ≤ k * 43) :
    Calls Tryz.prog 23 #[dp s, .string (BA data)] w fun e w' => e = .returned (.tuple #[.int .u64 0, .int .i64 13]) ∧ w = w' := by
  have hR := Lib.hid (room_ok hS hk)
  have hl2 : (data.length : Int) ≤ k * 43 := by omega
  have c3 := hS.cell 3
  simp only [slotsV, List.getElem?_cons_zero, List.getElem?_cons_succ] at c3
  go_enter Tryz.func23, Tryz.ntmps23
  go_wp2_with (go_at_call 30; refine hR.out.mono ?_; rintro e w' ⟨rfl, rfl⟩)
  go_ret2
  exact ⟨rfl, rfl⟩
theorem slWr_over {w : World} {s d k : Nat} {last : Int} {data : List UInt8} (hS : Blk w s (slotsV d 0 k true 18446744073709551615 last) TSlots) (hk : k ≤ 64) (hl : data.length ≤ k * 43) :
    Calls Tryz.prog 23 #[dp s, .string (BA data)] w fun e w' => e = .returned (.tuple #[.int .u64 0, .int .i64 16]) ∧ w = w' := by
  have hR := Lib.hid (room_ok hS hk)
  have hl2 : (data.length : Int) ≤ k * 43 := by omega
  have c3 := hS.cell 3
  have c4 := hS.cell 4
  simp only [slotsV, List.getElem?_cons_zero, List.getElem?_cons_succ] at c3 c4
  go_enter Tryz.func23, Tryz.ntmps23
  go_wp2_with (go_at_call 30; refine hR.out.mono ?_; rintro e w' ⟨rfl, rfl⟩)
  go_ret2
  exact ⟨rfl, rfl⟩

def wrJ (last : Int) : Nat := if last = 0 then 1 else 0

set_option maxHeartbeats 1000000 in
theorem slWr_do {B d sb s k : Nat} {osl : Value} {D : Dk} {w : World} {nw last : Int} {data : List UInt8} (hD : DiskIn B w d sb osl D) (hS : Blk w s (slotsV d 0 k true nw last) TSlots) (hbs : B ≤ s) (hk : k ≤ 64) (hlen : 2 * k ≤ D.secs.length)
    (hnw : 0 ≤ nw ∧ nw < 18446744073709551615) (hl : data.length ≤ k * 43) (hop : D.opens.length ≤ 1000000) (Po : Ending → World → Prop)
    (hPo : ∀ e w', (let R := puAll (wrJ last * k) k (nw + 1) data D
      e = .returned (.tuple #[.int .u64 (if R.1 = 0 then nw + 1 else 0), .int .i64 R.1]) ∧ (∃ osl', DiskIn B w' d sb osl' R.2) ∧ Blk w' s (slotsV d 0 k (R.1 == 0) (nw + 1) (if R.1 = 0 then wrJ last else last)) TSlots ∧ Fr B [TDisk, TSec, TWr, TSlots] w w') → Po e w') :
    Calls Tryz.prog 23 #[dp s, .string (BA data)] w Po := by
  replace hPo := Bx.mk hPo
  have hR := Lib.hid (room_ok hS hk)
  have hl2 : (data.length : Int) ≤ k * 43 := by omega
  have c3 := hS.cell 3
  have c4 := hS.cell 4
  have c5 := hS.cell 5
  have f3 := hS.free 3
  have f4 := hS.free 4
  simp only [slotsV, List.getElem?_cons_zero, List.getElem?_cons_succ] at c3 c4 c5
  have hw1 : IntKind.u64.wrap (nw + 1) = nw + 1 := by rw [IntKind.wrap_u64]; omega
  have hne : nw + 1 ≠ 0 := by omega
  have hS2 := (hS.set 4 (.int .u64 (nw + 1))).set 3 (.bool false)
  have hF2 : Fr B [TSlots] w ((w.setCell ⟨s, 4, none⟩ (.int .u64 (nw + 1))).setCell ⟨s, 3, none⟩ (.bool false)) := ((Fr.refl _ _ _).setB hbs hS (by simp) _).setB hbs hS (by simp) _
  have hD2 := hD.fr hF2 (by decide) (by decide) (by decide)
  by_cases h0 : last = 0
  · have hj : wrJ last = 1 := by unfold wrJ; rw [if_pos h0]
    rw [hj] at hPo
    have hPu := Lib.hid (fun Po h => puts_key (j := 1) (data := data) hD2 hS2 hbs hk (by omega) (by omega) (by omega) (by omega) hop Po h)
    obtain ⟨R, hRe⟩ : ∃ R, puAll (1 * k) k (nw + 1) data D = R := ⟨_, rfl⟩
    rw [hRe] at hPo hPu
    clear hRe
    by_cases hz : R.1 = 0
    · go_enter Tryz.func23, Tryz.ntmps23
      go_wp2_with (first
        | (go_at_call 30; refine hR.out.mono ?_; rintro e w' ⟨rfl, rfl⟩)
        | (go_at_call 37; refine hPu.out _ ?_; rintro e w3 ⟨rfl, hd3, hs3, hf3⟩
           have q3 := hs3.cell 3
           have q4 := hs3.cell 4
           have q5 := hs3.cell 5
           have g3 := hs3.free 3
           have g5 := hs3.free 5
           simp only [slotsV, List.getElem?_cons_zero, List.getElem?_cons_succ] at q3 q4 q5))
      obtain ⟨osl3, hd3⟩ := hd3
      have hF4 : Fr B [TSlots] w3 ((w3.setCell ⟨s, 3, none⟩ (.bool true)).setCell ⟨s, 5, none⟩ (.int .i64 1)) := ((Fr.refl _ _ _).setB hbs hs3 (by simp) _).setB hbs hs3 (by simp) _
      refine hPo.out _ _ ⟨?_, ⟨osl3, hd3.fr hF4 (by decide) (by decide) (by decide)⟩, ?_, ((hF2.mono (Nat.le_refl _) (by simp)).trans (hf3.mono (Nat.le_refl _) (by simp))).trans (hF4.mono (Nat.le_refl _) (by simp))⟩
      · simp [hz]
      · have := (hs3.set 3 (.bool true)).set 5 (.int .i64 1)
        simpa [slotsV, hz] using this
    · go_enter Tryz.func23, Tryz.ntmps23
      go_wp2_with (first
        | (go_at_call 30; refine hR.out.mono ?_; rintro e w' ⟨rfl, rfl⟩)
        | (go_at_call 37; refine hPu.out _ ?_; rintro e w3 ⟨rfl, hd3, hs3, hf3⟩))
      have hzb : (R.1 == 0) = false := beq_eq_false_iff_ne.2 hz
      refine hPo.out _ _ ⟨?_, hd3, ?_, (hF2.mono (Nat.le_refl _) (by simp)).trans (hf3.mono (Nat.le_refl _) (by simp))⟩
      · simp [hz]
      · simpa [slotsV, hz, hzb] using hs3
  · have hj : wrJ last = 0 := by unfold wrJ; rw [if_neg h0]
    rw [hj] at hPo
    have hPu := Lib.hid (fun Po h => puts_key (j := 0) (data := data) hD2 hS2 hbs hk (by omega) (by omega) (by omega) (by omega) hop Po h)
    obtain ⟨R, hRe⟩ : ∃ R, puAll (0 * k) k (nw + 1) data D = R := ⟨_, rfl⟩
    rw [hRe] at hPo hPu
    clear hRe
    by_cases hz : R.1 = 0
    · go_enter Tryz.func23, Tryz.ntmps23
      go_wp2_with (first
        | (go_at_call 30; refine hR.out.mono ?_; rintro e w' ⟨rfl, rfl⟩)
        | (go_at_call 37; refine hPu.out _ ?_; rintro e w3 ⟨rfl, hd3, hs3, hf3⟩
           have q3 := hs3.cell 3
           have q4 := hs3.cell 4
           have q5 := hs3.cell 5
           have g3 := hs3.free 3
           have g5 := hs3.free 5
           simp only [slotsV, List.getElem?_cons_zero, List.getElem?_cons_succ] at q3 q4 q5))
      obtain ⟨osl3, hd3⟩ := hd3
      have hF4 : Fr B [TSlots] w3 ((w3.setCell ⟨s, 3, none⟩ (.bool true)).setCell ⟨s, 5, none⟩ (.int .i64 0)) := ((Fr.refl _ _ _).setB hbs hs3 (by simp) _).setB hbs hs3 (by simp) _
      refine hPo.out _ _ ⟨?_, ⟨osl3, hd3.fr hF4 (by decide) (by decide) (by decide)⟩, ?_, ((hF2.mono (Nat.le_refl _) (by simp)).trans (hf3.mono (Nat.le_refl _) (by simp))).trans (hF4.mono (Nat.le_refl _) (by simp))⟩
      · simp [hz]
      · have := (hs3.set 3 (.bool true)).set 5 (.int .i64 0)
        simpa [slotsV, hz] using this
    · go_enter Tryz.func23, Tryz.ntmps23
      go_wp2_with (first
        | (go_at_call 30; refine hR.out.mono ?_; rintro e w' ⟨rfl, rfl⟩)
        | (go_at_call 37; refine hPu.out _ ?_; rintro e w3 ⟨rfl, hd3, hs3, hf3⟩))
      have hzb : (R.1 == 0) = false := beq_eq_false_iff_ne.2 hz
      refine hPo.out _ _ ⟨?_, hd3, ?_, (hF2.mono (Nat.le_refl _) (by simp)).trans (hf3.mono (Nat.le_refl _) (by simp))⟩
      · simp [hz]
      · simpa [slotsV, hz, hzb] using hs3
end Go.Proofs.YtkeamfdceehliaaGreatDoor

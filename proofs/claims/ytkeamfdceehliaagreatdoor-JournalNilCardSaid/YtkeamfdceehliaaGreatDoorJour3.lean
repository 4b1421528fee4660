/- The journal: the deferred closures of Append and Snapshot. -/
import Derived.Test.YtkeamfdceehliaaGreatDoorJour2
namespace Go.Proofs.YtkeamfdceehliaaGreatDoor
open Go.RowKit

theorem app1_d {w : World} {j b s c0 c1 : Nat} {g : Bool} {ep x : Int} (u : FrameMode) (hJ : Blk w j (jourV b s g ep) TJour) (h0 : Blk w c0 [.int .i64 x] 26) (h1 : Blk w c1 [dp j] 25) :
    CallsD Tryz.prog 25 #[dp c0, dp c1] u w fun e u' w' => u' = u ∧ ((∃ v, e = .returned v) ∧ w' = w.setCell ⟨j, 2, none⟩ (.bool (x != 18))) := by
  have a0 := h0.cell 0
  have a1 := h1.cell 0
  have a2 := hJ.cell 2
  have f2 := hJ.free 2
  simp only [jourV, List.getElem?_cons_zero, List.getElem?_cons_succ] at a0 a1 a2
  go_enter_d Tryz.func25, Tryz.ntmps25
  go_wp2
  go_end0
  exact ⟨⟨_, rfl⟩, rfl⟩

theorem snap1_d {w : World} {j b s c0 c1 : Nat} {g : Bool} {ep x : Int} (u : FrameMode) (hJ : Blk w j (jourV b s g ep) TJour) (h0 : Blk w c0 [.int .i64 x] 26) (h1 : Blk w c1 [dp j] 25) :
    CallsD Tryz.prog 31 #[dp c0, dp c1] u w fun e u' w' => u' = u ∧ ((∃ v, e = .returned v) ∧ w' = w.setCell ⟨j, 2, none⟩ (.bool (x != 18))) := by
  have a0 := h0.cell 0
  have a1 := h1.cell 0
  have a2 := hJ.cell 2
  have f2 := hJ.free 2
  simp only [jourV, List.getElem?_cons_zero, List.getElem?_cons_succ] at a0 a1 a2
  go_enter_d Tryz.func31, Tryz.ntmps31
  go_wp2
  go_end0
  exact ⟨⟨_, rfl⟩, rfl⟩
end Go.Proofs.YtkeamfdceehliaaGreatDoor

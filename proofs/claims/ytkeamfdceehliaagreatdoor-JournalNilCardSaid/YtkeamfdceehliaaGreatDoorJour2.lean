/- The journal: Format. -/
import Derived.Test.YtkeamfdceehliaaGreatDoorJour
namespace Go.Proofs.YtkeamfdceehliaaGreatDoor
open Go.RowKit
attribute [local go_sem] BA_size BA_extract BA_append BA_toList

/-- A journal in memory. -/
structure JourIn (B : Nat) (w : World) (d j b s k n : Nat) (rd : Bool) (nw last : Int) (st : Option (Int × Nat)) (g : Bool) (ep : Int) : Prop where
  pj : Blk w j (jourV b s g ep) TJour
  pl : Blk w b (logV d (2 * k) n st) TLog
  ps : Blk w s (slotsV d 0 k rd nw last) TSlots
  bj : B ≤ j
  bb : B ≤ b
  bs : B ≤ s

set_option maxHeartbeats 2000000 in
theorem format_ok {B d sb k : Nat} {osl : Value} {D : Dk} {w : World} {data : List UInt8} (hD : DiskIn B w d sb osl D) (hB : B ≤ w.heap.size) (h1 : 1 ≤ k) (h2 : k ≤ 64) (h3 : 2 * k < D.secs.length) (hl : data.length ≤ k * 43)
    (hbad : (rdAll k D).bad = false) (hnw : (rdAll k D).nw < 18446744073709551615) (hop : (rdAll k D).D.opens.length ≤ 1000000) {D2 : Dk} (hpu : puAll (wrJ (rdAll k D).last * k) k ((rdAll k D).nw + 1) data (rdAll k D).D = (0, D2)) :
    Calls Tryz.prog 9 #[dp d, .int .i64 k, .string (BA data)] w fun r w' => ∃ j b s, r = .returned (.tuple #[dp j, .int .i64 0]) ∧ (∃ osl', DiskIn B w' d sb osl' D2) ∧
      JourIn B w' d j b s k (D.secs.length - 2 * k) true ((rdAll k D).nw + 1) (wrJ (rdAll k D).last) (some ((rdAll k D).nw + 1, 0)) true ((rdAll k D).nw + 1) ∧ Fr B [TDisk, TSec, TWr, TSlots, TLog, TJour] w w' := by
  have hM := Lib.hid (made_ok hD k h1 h2 h3)
  have hnr := rdRun_nw k D 2
  obtain ⟨n, hn⟩ : ∃ n, D.secs.length - 2 * k = n := ⟨_, rfl⟩
  rw [hn] at hM ⊢
  obtain ⟨W0, hW0⟩ : ∃ W0, ((w.alloc (.cells (slotsV d 0 k false 0 (-1)).toArray TSlots)).alloc (.cells (logV d (2 * k) n none).toArray TLog)).alloc (.cells (jourV (w.heap.size + 1) w.heap.size false 0).toArray TJour) = W0 := ⟨_, rfl⟩
  rw [hW0] at hM
  have hf0 : Fr B [] w W0 := by rw [← hW0]; exact (((Fr.refl _ _ _).alloc _).alloc _).alloc _
  have hS0 : Blk W0 w.heap.size (slotsV d 0 k false 0 (-1)) TSlots := by rw [← hW0]; exact Blk.alloc (Blk.alloc (Blk.new _ _ _) _) _
  have hL0 : Blk W0 (w.heap.size + 1) (logV d (2 * k) n none) TLog := by rw [← hW0]; exact Blk.alloc (Blk.newAt _ _ _ (by simp)) _
  have hJ0 : Blk W0 (w.heap.size + 2) (jourV (w.heap.size + 1) w.heap.size false 0) TJour := by rw [← hW0]; exact Blk.newAt _ _ _ (by simp)
  have hd0 := hD.fr hf0 (by decide) (by decide) (by decide)
  clear hW0
  have hRd := slRd_any hd0 hS0 hB h2 (by omega)
  obtain ⟨R, hR⟩ : ∃ R, rdAll k D = R := ⟨_, rfl⟩
  have hsec : R.D.secs = D.secs := by rw [← hR]; exact rdRun_secs k D 2
  have hnr2 : 0 ≤ R.nw := by rw [← hR]; exact hnr.1
  rw [hR] at hRd hbad hnw hop hpu ⊢
  simp only [hbad, Bool.false_eq_true, if_false, Bool.not_false] at hRd
  unfold snapV at hRd
  have HRd := Lib.hid hRd
  clear hRd hnr hR
  have c1 := hJ0.cell 1
  simp only [jourV, List.getElem?_cons_zero, List.getElem?_cons_succ] at c1
  go_enter Tryz.func9, Tryz.ntmps9
  go_wp2_with (first
    | (go_at_call 21; refine hM.out.mono ?_; rintro r w' ⟨rfl, rfl⟩)
    | (go_at_call 22; refine HRd.out.mono ?_; rintro r w1 ⟨rfl, hd1, hs1, hf1⟩
       have hJ1 := (hJ0.fr hf1 (by decide)).alloc (.cells #[.int .u64 R.out.1, .string (BA R.out.2)] 55)
       have c2 := hJ1.cell 1
       simp only [jourV, List.getElem?_cons_zero, List.getElem?_cons_succ] at c2))
  have hfA : Fr B [] w1 (w1.alloc (.cells #[.int .u64 R.out.1, .string (BA R.out.2)] 55)) := (Fr.refl _ _ _).alloc _
  have hdX := hd1.fr hfA (by decide) (by decide) (by decide)
  have hsX := hs1.fr hfA (by decide)
  have hL1 := (hL0.fr hf1 (by decide)).fr hfA (by decide)
  have hWr := slWr_do hdX hsX hB h2 (by rw [hsec]; omega) ⟨hnr2, hnw⟩ hl hop _ (fun e w' h => h)
  rw [hpu] at hWr
  simp only [if_true] at hWr
  refine hWr.mono ?_
  rintro r w3 ⟨rfl, ⟨osl3, hd3⟩, hs3, hf3⟩
  have hJ3 := hJ1.fr hf3 (by decide)
  have hL3 := hL1.fr hf3 (by decide)
  have hBe := Lib.hid (begins_ok hJ3 hL3 (e := R.nw + 1) (by omega))
  go_wp2_with (go_at_call 24; refine hBe.out.mono ?_; rintro r w4 ⟨⟨v, rfl⟩, rfl⟩)
  go_ret2
  have hne : w.heap.size + 2 ≠ w.heap.size + 1 := by omega
  have hf4 : Fr B [TJour, TLog] w3 (((w3.setCell ⟨w.heap.size + 2, 3, none⟩ (.int .u64 (R.nw + 1))).setCell ⟨w.heap.size + 1, 3, none⟩ (stV (some (R.nw + 1, 0)))).setCell ⟨w.heap.size + 2, 2, none⟩ (.bool true)) :=
    (((Fr.refl _ _ _).setB (by omega) hJ3 (by simp) _).setB (by omega) hL3 (by simp) _).setB (by omega) hJ3 (by simp) _
  refine ⟨w.heap.size + 2, w.heap.size + 1, w.heap.size, rfl, ⟨osl3, hd3.fr hf4 (by decide) (by decide) (by decide)⟩, ⟨?_, ?_, ?_, by omega, by omega, hB⟩, ?_⟩
  · have := ((hJ3.set 3 (.int .u64 (R.nw + 1))).other (p := ⟨w.heap.size + 1, 3, none⟩) hne (stV (some (R.nw + 1, 0)))).set 2 (.bool true)
    simpa [jourV] using this
  · have := ((hL3.other (p := ⟨w.heap.size + 2, 3, none⟩) (fun h => hne h.symm) (.int .u64 (R.nw + 1))).set 3 (stV (some (R.nw + 1, 0)))).other (p := ⟨w.heap.size + 2, 2, none⟩) (fun h => hne h.symm) (.bool true)
    simpa [logV] using this
  · simpa using hs3.fr hf4 (by decide)
  · exact ((((hf0.mono (Nat.le_refl _) (by simp)).trans (hf1.mono (Nat.le_refl _) (by simp))).trans (hfA.mono (Nat.le_refl _) (by simp))).trans (hf3.mono (Nat.le_refl _) (by simp))).trans (hf4.mono (Nat.le_refl _) (by simp))
end Go.Proofs.YtkeamfdceehliaaGreatDoor

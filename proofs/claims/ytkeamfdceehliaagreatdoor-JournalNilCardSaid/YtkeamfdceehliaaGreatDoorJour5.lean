/- The journal: Snapshot. -/
import Derived.Test.YtkeamfdceehliaaGreatDoorJour4
namespace Go.Proofs.YtkeamfdceehliaaGreatDoor
open Go.RowKit
attribute [local go_sem] BA_size BA_extract BA_append BA_toList

set_option maxHeartbeats 2000000 in
theorem snap_key {B d sb j b s0 k n : Nat} {osl : Value} {D : Dk} {w : World} {nw last ep : Int} {st : Option (Int × Nat)} {s : List UInt8} (hD : DiskIn B w d sb osl D) (hJ : JourIn B w d j b s0 k n true nw last st true ep) (hk : k ≤ 64) (hlen : 2 * k ≤ D.secs.length)
    (hnw : 0 ≤ nw ∧ nw < 18446744073709551615) (hs : s.length ≤ k * 43) (hop : D.opens.length ≤ 1000000) (Po : Ending → World → Prop)
    (hPo : ∀ r w', (let R := puAll (wrJ last * k) k (nw + 1) s D
      r = .returned (.int .i64 R.1) ∧ (∃ osl', DiskIn B w' d sb osl' R.2) ∧ JourIn B w' d j b s0 k n (R.1 == 0) (nw + 1) (if R.1 = 0 then wrJ last else last) (if R.1 = 0 then some (nw + 1, 0) else st) (R.1 != 18) (if R.1 = 0 then nw + 1 else ep) ∧ Fr B [TDisk, TSec, TWr, TSlots, TLog, TJour] w w') → Po r w') :
    Calls Tryz.prog 16 #[dp j, .string (BA s)] w Po := by
  replace hPo := Bx.mk hPo
  have hl2 : (s.length : Int) ≤ (k : Int) * 43 := by omega
  have hjlt := hJ.pj.lt
  have hmf : ∀ (fn : Fn) (first cap : Array Value) (w : World), (Instr.makeFunc fn first cap).run Tryz.prog w = .ok (.func fn first cap) w := fun _ _ _ _ => rfl
  obtain ⟨W1, hW1⟩ : ∃ W1, (w.alloc (.cells #[dp j] 25)).alloc (.cells #[.int .i64 0] 26) = W1 := ⟨_, rfl⟩
  have hf1 : Fr B [] w W1 := by rw [← hW1]; exact ((Fr.refl _ _ _).alloc _).alloc _
  have hj1 := hJ.pj.fr hf1 (by decide)
  have c1 := hj1.cell 1
  have c2 := hj1.cell 2
  simp only [jourV, List.getElem?_cons_zero, List.getElem?_cons_succ] at c1 c2
  have hx0 : Blk W1 w.heap.size [dp j] 25 := by rw [← hW1]; exact Blk.alloc (Blk.new _ _ _) _
  have hx1 : Blk W1 (w.heap.size + 1) [.int .i64 0] 26 := by rw [← hW1]; exact Blk.newAt _ _ _ (by simp)
  have x0 := hx0.cell 0
  simp only [List.getElem?_cons_zero] at x0
  have hd1 := hD.fr hf1 (by decide) (by decide) (by decide)
  have hs1 := hJ.ps.fr hf1 (by decide)
  have hRo := Lib.hid (room_ok hs1 hk)
  have hWr := Lib.hid (slWr_do hd1 hs1 hJ.bs hk hlen hnw hs hop _ (fun r w' h => h))
  obtain ⟨R, hR⟩ : ∃ R, puAll (wrJ last * k) k (nw + 1) s D = R := ⟨_, rfl⟩
  rw [hR] at hWr hPo
  clear hR
  go_enter_defers Tryz.func16, Tryz.ntmps16
  go_wp2_with (first
    | (go_at_call 30; refine hRo.out.mono ?_; rintro r w' ⟨rfl, rfl⟩)
    | (refine ⟨?_, ?_⟩; fail))
  refine hWr.out.mono ?_
  rintro r w2 ⟨rfl, ⟨osl2, hd2⟩, hs2, hf2⟩
  have hx2 := hx1.fr hf2 (by decide)
  have hx2b := hx0.fr hf2 (by decide)
  have hj2 := hj1.fr hf2 (by decide)
  have hl2' := (hJ.pl.fr hf1 (by decide)).fr hf2 (by decide)
  have y0 := hx2.cell 0
  have y1 := hx2.free 0
  have y2 := hx2b.cell 0
  simp only [List.getElem?_cons_zero] at y0 y2
  by_cases hz : R.1 = 0
  · rw [if_pos hz]
    have hj3 := hj2.other (p := ⟨w.heap.size + 1, 0, none⟩) (by simp; omega) (.int .i64 0)
    have hbl := hJ.pl.lt
    have hl3 := hl2'.other (p := ⟨w.heap.size + 1, 0, none⟩) (by simp; omega) (.int .i64 0)
    have hBe := Lib.hid (begins_ok hj3 hl3 (e := nw + 1) (by omega))
    go_wp2_with (go_at_call 24; refine hBe.out.mono ?_; rintro r w4 ⟨⟨v, rfl⟩, rfl⟩)
    have hsl := hJ.ps.lt
    have hne : j ≠ b := hJ.pj.ne hJ.pl (by decide)
    have hJz := ((((hj3.set 3 (.int .u64 (nw + 1))).other (p := ⟨b, 3, none⟩) hne (stV (some (nw + 1, 0)))).set 2 (.bool true)).other (p := ⟨w.heap.size + 1, 0, none⟩) (by simp; omega) (.int .i64 0))
    have hLz := ((((hl3.other (p := ⟨j, 3, none⟩) (fun h => hne h.symm) (.int .u64 (nw + 1))).set 3 (stV (some (nw + 1, 0)))).other (p := ⟨j, 2, none⟩) (fun h => hne h.symm) (.bool true)).other (p := ⟨w.heap.size + 1, 0, none⟩) (by simp; omega) (.int .i64 0))
    have hxe := ((((hx2.set 0 (.int .i64 0)).other (p := ⟨j, 3, none⟩) (by simp; omega) (.int .u64 (nw + 1))).other (p := ⟨b, 3, none⟩) (by simp; omega) (stV (some (nw + 1, 0)))).other (p := ⟨j, 2, none⟩) (by simp; omega) (.bool true)).set 0 (.int .i64 0)
    have hxb := ((((hx2b.other (p := ⟨w.heap.size + 1, 0, none⟩) (by simp) (.int .i64 0)).other (p := ⟨j, 3, none⟩) (by simp; omega) (.int .u64 (nw + 1))).other (p := ⟨b, 3, none⟩) (by simp; omega) (stV (some (nw + 1, 0)))).other (p := ⟨j, 2, none⟩) (by simp; omega) (.bool true)).other (p := ⟨w.heap.size + 1, 0, none⟩) (by simp) (.int .i64 0)
    have hJz2 := hJz
    simp only [jourV, List.set_cons_zero, List.set_cons_succ] at hJz2
    refine leaves_cons (f := 31) (args := #[.pointer (some ⟨w.heap.size + 1, 0, none⟩), .pointer (some ⟨w.heap.size, 0, none⟩)]) (by simp) (by simp [go_sem]) ?_
    refine (snap1_d (b := b) (s := s0) (g := true) (ep := nw + 1) .returning hJz2 hxe hxb).mono ?_
    rintro r u' w5 ⟨rfl, ⟨v2, rfl⟩, rfl⟩
    rw [show ((0 : Int) != 18) = true from rfl]
    have hxf := hxe.other (p := ⟨j, 2, none⟩) (by simp; omega) (.bool true)
    have r0 := hxf.cell 0
    have r1 := hxe.cell 0
    simp only [List.set_cons_zero, List.getElem?_cons_zero] at r0 r1
    have hbB : B ≤ w.heap.size := by have := hJ.bj; omega
    have hfA : Fr B [26, TJour, TLog] w2 ((((((w2.setCell ⟨w.heap.size + 1, 0, none⟩ (.int .i64 0)).setCell ⟨j, 3, none⟩ (.int .u64 (nw + 1))).setCell ⟨b, 3, none⟩ (stV (some (nw + 1, 0)))).setCell ⟨j, 2, none⟩ (.bool true)).setCell ⟨w.heap.size + 1, 0, none⟩ (.int .i64 0)).setCell ⟨j, 2, none⟩ (.bool true)) :=
      ((((((Fr.refl _ _ _).setB (by omega) hx2 (by simp) _).setB hJ.bj hj2 (by simp) _).setB hJ.bb hl2' (by simp) _).setB hJ.bj hj2 (by simp) _).setB (by omega) hx2 (by simp) _).setB hJ.bj hj2 (by simp) _
    have hfw : Fr B [TDisk, TSec, TWr, TSlots, TLog, TJour] w w2 := (hf1.mono (Nat.le_refl _) (by simp)).trans (hf2.mono (Nat.le_refl _) (by simp))
    have hfin : Po (.returned (.int .i64 0)) ((((((w2.setCell ⟨w.heap.size + 1, 0, none⟩ (.int .i64 0)).setCell ⟨j, 3, none⟩ (.int .u64 (nw + 1))).setCell ⟨b, 3, none⟩ (stV (some (nw + 1, 0)))).setCell ⟨j, 2, none⟩ (.bool true)).setCell ⟨w.heap.size + 1, 0, none⟩ (.int .i64 0)).setCell ⟨j, 2, none⟩ (.bool true)) := by
      refine hPo.out _ _ ⟨by rw [hz], ⟨osl2, hd2.fr hfA (by decide) (by decide) (by decide)⟩, ⟨?_, ?_, ?_, hJ.bj, hJ.bb, hJ.bs⟩, ?_⟩
      · simpa [jourV, hz] using hJz2.set 2 (.bool true)
      · simpa [logV, hz] using hLz.other (p := ⟨j, 2, none⟩) (fun h => hne h.symm) (.bool true)
      · simpa [hz] using hs2.fr hfA (by decide)
      · exact (((((hfw.setNew (by simp) _).setB hJ.bj hJ.pj (by simp) _).setB hJ.bb hJ.pl (by simp) _).setB hJ.bj hJ.pj (by simp) _).setNew (by simp) _).setB hJ.bj hJ.pj (by simp) _
    simp [Leaves, settle, results, Tryz.results16, go_sem, r0]
    exact hfin
  · rw [if_neg hz]
    go_wp2
    have hne1 : j ≠ w.heap.size + 1 := by omega
    have hxe := (hx2.set 0 (.int .i64 R.1)).set 0 (.int .i64 R.1)
    have hxb := (hx2b.other (p := ⟨w.heap.size + 1, 0, none⟩) (by simp) (.int .i64 R.1)).other (p := ⟨w.heap.size + 1, 0, none⟩) (by simp) (.int .i64 R.1)
    have hJz2 := (hj2.other (p := ⟨w.heap.size + 1, 0, none⟩) hne1 (.int .i64 R.1)).other (p := ⟨w.heap.size + 1, 0, none⟩) hne1 (.int .i64 R.1)
    refine leaves_cons (f := 31) (args := #[.pointer (some ⟨w.heap.size + 1, 0, none⟩), .pointer (some ⟨w.heap.size, 0, none⟩)]) (by simp) (by simp [go_sem]) ?_
    refine (snap1_d .returning hJz2 hxe hxb).mono ?_
    rintro r u' w5 ⟨rfl, ⟨v2, rfl⟩, rfl⟩
    have hxf := hxe.other (p := ⟨j, 2, none⟩) (by simp; omega) (.bool (R.1 != 18))
    have r0 := hxf.cell 0
    have r1 := hxe.cell 0
    simp only [List.set_cons_zero, List.getElem?_cons_zero] at r0 r1
    have hbB : B ≤ w.heap.size := by have := hJ.bj; omega
    have hfA : Fr B [26, TJour] w2 (((w2.setCell ⟨w.heap.size + 1, 0, none⟩ (.int .i64 R.1)).setCell ⟨w.heap.size + 1, 0, none⟩ (.int .i64 R.1)).setCell ⟨j, 2, none⟩ (.bool (R.1 != 18))) :=
      (((Fr.refl _ _ _).setB (by omega) hx2 (by simp) _).setB (by omega) hx2 (by simp) _).setB hJ.bj hj2 (by simp) _
    have hfw : Fr B [TDisk, TSec, TWr, TSlots, TLog, TJour] w w2 := (hf1.mono (Nat.le_refl _) (by simp)).trans (hf2.mono (Nat.le_refl _) (by simp))
    have hzb : (R.1 == 0) = false := beq_eq_false_iff_ne.2 hz
    have hfin : Po (.returned (.int .i64 R.1)) (((w2.setCell ⟨w.heap.size + 1, 0, none⟩ (.int .i64 R.1)).setCell ⟨w.heap.size + 1, 0, none⟩ (.int .i64 R.1)).setCell ⟨j, 2, none⟩ (.bool (R.1 != 18))) := by
      refine hPo.out _ _ ⟨rfl, ⟨osl2, hd2.fr hfA (by decide) (by decide) (by decide)⟩, ⟨?_, ?_, ?_, hJ.bj, hJ.bb, hJ.bs⟩, ?_⟩
      · simpa [jourV, hz] using hJz2.set 2 (.bool (R.1 != 18))
      · simpa [hz] using hl2'.fr hfA (by decide)
      · simpa [hz] using hs2.fr hfA (by decide)
      · exact ((hfw.setNew (by simp) _).setNew (by simp) _).setB hJ.bj hJ.pj (by simp) _
    simp [Leaves, settle, results, Tryz.results16, go_sem, r0]
    exact hfin
end Go.Proofs.YtkeamfdceehliaaGreatDoor

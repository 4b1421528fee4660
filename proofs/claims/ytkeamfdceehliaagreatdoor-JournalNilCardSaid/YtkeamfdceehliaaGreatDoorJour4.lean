/- The journal: Append. -/
import Derived.Test.YtkeamfdceehliaaGreatDoorJour3
namespace Go.Proofs.YtkeamfdceehliaaGreatDoor
open Go.RowKit
attribute [local go_sem] BA_size BA_extract BA_append BA_toList

set_option maxHeartbeats 2000000 in
theorem append_key {B d sb j b s0 k n m : Nat} {osl : Value} {D : Dk} {w : World} {rd : Bool} {nw last e ep : Int} {s : List UInt8} (hD : DiskIn B w d sb osl D) (hJ : JourIn B w d j b s0 k n rd nw last (some (e, m)) true ep) (hmn : m < n) (hlen : 2 * k + n ≤ D.secs.length)
    (he : 0 ≤ e ∧ e < 18446744073709551616) (hs : s.length ≤ 43) (hop : D.opens.length ≤ 1000000) (Po : Ending → World → Prop)
    (hPo : ∀ r w', (let R := lgAll (2 * k + m) (mkSec s e m) D
      r = .returned (.int .i64 R.1) ∧ (∃ osl', DiskIn B w' d sb osl' R.2) ∧ JourIn B w' d j b s0 k n rd nw last (if R.1 = 0 then some (e, m + 1) else none) (R.1 != 18) ep ∧ Fr B [TDisk, TSec, TWr, TLog, TJour] w w') → Po r w') :
    Calls Tryz.prog 10 #[dp j, .string (BA s)] w Po := by
  replace hPo := Bx.mk hPo
  have hl2 : (s.length : Int) ≤ 43 := by omega
  have hjlt := hJ.pj.lt
  have hmf : ∀ (fn : Fn) (first cap : Array Value) (w : World), (Instr.makeFunc fn first cap).run Tryz.prog w = .ok (.func fn first cap) w := fun _ _ _ _ => rfl
  obtain ⟨W1, hW1⟩ : ∃ W1, (w.alloc (.cells #[dp j] 25)).alloc (.cells #[.int .i64 0] 26) = W1 := ⟨_, rfl⟩
  have hf1 : Fr B [] w W1 := by rw [← hW1]; exact ((Fr.refl _ _ _).alloc _).alloc _
  have hj1 := hJ.pj.fr hf1 (by decide)
  have c0 := hj1.cell 0
  have c2 := hj1.cell 2
  simp only [jourV, List.getElem?_cons_zero, List.getElem?_cons_succ] at c0 c2
  have hx0 : Blk W1 w.heap.size [dp j] 25 := by rw [← hW1]; exact Blk.alloc (Blk.new _ _ _) _
  have hx1 : Blk W1 (w.heap.size + 1) [.int .i64 0] 26 := by rw [← hW1]; exact Blk.newAt _ _ _ (by simp)
  have x0 := hx0.cell 0
  simp only [List.getElem?_cons_zero] at x0
  have hd1 := hD.fr hf1 (by decide) (by decide) (by decide)
  have hl1 := hJ.pl.fr hf1 (by decide)
  have hWa := Lib.hid (walAp_do hd1 hl1 hJ.bb hmn hlen he hs hop _ (fun r w' h => h))
  obtain ⟨R, hR⟩ : ∃ R, lgAll (2 * k + m) (mkSec s e m) D = R := ⟨_, rfl⟩
  rw [hR] at hWa hPo
  clear hR
  go_enter_defers Tryz.func10, Tryz.ntmps10
  go_wp2_with (go_at_call 26; refine hWa.out.mono ?_; rintro r w2 ⟨rfl, hd2, hl2, hf2⟩
               have hx2 := hx1.fr hf2 (by decide)
               have y0 := hx2.cell 0
               have y1 := hx2.free 0
               simp only [List.getElem?_cons_zero] at y0)
  have hJ2 := (((hJ.pj.fr hf1 (by decide)).fr hf2 (by decide))).other (p := ⟨w.heap.size + 1, 0, none⟩) (by simp; omega) (.int .i64 R.1)
  have hx3 := hx2.set 0 (.int .i64 R.1)
  have hx4 := (hx0.fr hf2 (by decide)).other (p := ⟨w.heap.size + 1, 0, none⟩) (by simp) (.int .i64 R.1)
  refine leaves_cons (f := 25) (args := #[.pointer (some ⟨w.heap.size + 1, 0, none⟩), .pointer (some ⟨w.heap.size, 0, none⟩)]) (by simp) (by simp [go_sem]) ?_
  refine (app1_d .returning hJ2 hx3 hx4).mono ?_
  rintro r u' w3 ⟨rfl, ⟨v, rfl⟩, rfl⟩
  have hx5 := hx3.other (p := ⟨j, 2, none⟩) (by simp; omega) (.bool (R.1 != 18))
  have r0 := hx5.cell 0
  simp only [List.set_cons_zero, List.getElem?_cons_zero] at r0
  have hj2 := (hJ.pj.fr hf1 (by decide)).fr hf2 (by decide)
  obtain ⟨osl2, hd2⟩ := hd2
  have hbj := hJ.bj
  have hbB : B ≤ w.heap.size := by omega
  have hfA : Fr B [26, TJour] w2 ((w2.setCell ⟨w.heap.size + 1, 0, none⟩ (.int .i64 R.1)).setCell ⟨j, 2, none⟩ (.bool (R.1 != 18))) := ((Fr.refl _ _ _).setB (by omega) hx2 (by simp) _).setB hJ.bj hj2 (by simp) _
  have hfin : Po (.returned (.int .i64 R.1)) ((w2.setCell ⟨w.heap.size + 1, 0, none⟩ (.int .i64 R.1)).setCell ⟨j, 2, none⟩ (.bool (R.1 != 18))) := by
    refine hPo.out _ _ ⟨rfl, ⟨osl2, hd2.fr hfA (by decide) (by decide) (by decide)⟩, ⟨?_, ?_, ?_, hJ.bj, hJ.bb, hJ.bs⟩, ?_⟩
    · simpa [jourV] using hJ2.set 2 (.bool (R.1 != 18))
    · exact hl2.fr hfA (by decide)
    · exact ((hJ.ps.fr hf1 (by decide)).fr hf2 (by decide)).fr hfA (by decide)
    · have h1 : Fr B [TDisk, TSec, TWr, TLog, TJour] w w2 := (hf1.mono (Nat.le_refl _) (by simp)).trans (hf2.mono (Nat.le_refl _) (by simp))
      exact (h1.setNew (by simp) _).setB hJ.bj hJ.pj (by simp) _
  simp [Leaves, settle, results, Tryz.results10, go_sem, r0]
  exact hfin

set_option maxHeartbeats 2000000 in
theorem append_full {B d sb j b s0 k n m : Nat} {osl : Value} {D : Dk} {w : World} {rd : Bool} {nw last e ep : Int} {s : List UInt8} (hD : DiskIn B w d sb osl D) (hJ : JourIn B w d j b s0 k n rd nw last (some (e, m)) true ep) (hmn : n ≤ m) (hs : s.length ≤ 43) :
    Calls Tryz.prog 10 #[dp j, .string (BA s)] w fun r w' => r = .returned (.int .i64 22) ∧ DiskIn B w' d sb osl D ∧ JourIn B w' d j b s0 k n rd nw last (some (e, m)) true ep ∧ Fr B [TJour] w w' := by
  have hl2 : (s.length : Int) ≤ 43 := by omega
  have hjlt := hJ.pj.lt
  have hmf : ∀ (fn : Fn) (first cap : Array Value) (w : World), (Instr.makeFunc fn first cap).run Tryz.prog w = .ok (.func fn first cap) w := fun _ _ _ _ => rfl
  obtain ⟨W1, hW1⟩ : ∃ W1, (w.alloc (.cells #[dp j] 25)).alloc (.cells #[.int .i64 0] 26) = W1 := ⟨_, rfl⟩
  have hf1 : Fr B [] w W1 := by rw [← hW1]; exact ((Fr.refl _ _ _).alloc _).alloc _
  have hj1 := hJ.pj.fr hf1 (by decide)
  have c0 := hj1.cell 0
  have c2 := hj1.cell 2
  simp only [jourV, List.getElem?_cons_zero, List.getElem?_cons_succ] at c0 c2
  have hx0 : Blk W1 w.heap.size [dp j] 25 := by rw [← hW1]; exact Blk.alloc (Blk.new _ _ _) _
  have hx1 : Blk W1 (w.heap.size + 1) [.int .i64 0] 26 := by rw [← hW1]; exact Blk.newAt _ _ _ (by simp)
  have x0 := hx0.cell 0
  simp only [List.getElem?_cons_zero] at x0
  have hl1 := hJ.pl.fr hf1 (by decide)
  have hWa := Lib.hid (walAp_full (s := s) hl1 hs hmn)
  go_enter_defers Tryz.func10, Tryz.ntmps10
  go_wp2_with (go_at_call 26; refine hWa.out.mono ?_; rintro r w2 ⟨rfl, hb2⟩
               have hx2 := hx1.below hb2 hx1.lt
               have y0 := hx2.cell 0
               have y1 := hx2.free 0
               simp only [List.getElem?_cons_zero] at y0)
  have hf2 : Fr B [] W1 w2 := Fr.of_below hb2
  have hJ2 := (((hJ.pj.fr hf1 (by decide)).fr hf2 (by decide))).other (p := ⟨w.heap.size + 1, 0, none⟩) (by simp; omega) (.int .i64 22)
  have hx3 := hx2.set 0 (.int .i64 22)
  have hx4 := (hx0.fr hf2 (by decide)).other (p := ⟨w.heap.size + 1, 0, none⟩) (by simp) (.int .i64 22)
  refine leaves_cons (f := 25) (args := #[.pointer (some ⟨w.heap.size + 1, 0, none⟩), .pointer (some ⟨w.heap.size, 0, none⟩)]) (by simp) (by simp [go_sem]) ?_
  refine (app1_d .returning hJ2 hx3 hx4).mono ?_
  rintro r u' w3 ⟨rfl, ⟨v, rfl⟩, rfl⟩
  rw [show ((22 : Int) != 18) = true from rfl]
  have r1 := hx3.cell 0
  have hx5 := hx3.other (p := ⟨j, 2, none⟩) (by simp; omega) (.bool true)
  have r0 := hx5.cell 0
  simp only [List.set_cons_zero, List.getElem?_cons_zero] at r0 r1
  have hj2 := (hJ.pj.fr hf1 (by decide)).fr hf2 (by decide)
  have hbj := hJ.bj
  have hfA : Fr B [26, TJour] w2 ((w2.setCell ⟨w.heap.size + 1, 0, none⟩ (.int .i64 22)).setCell ⟨j, 2, none⟩ (.bool true)) := ((Fr.refl _ _ _).setB (by omega) hx2 (by simp) _).setB hJ.bj hj2 (by simp) _
  have hfin : DiskIn B ((w2.setCell ⟨w.heap.size + 1, 0, none⟩ (.int .i64 22)).setCell ⟨j, 2, none⟩ (.bool true)) d sb osl D ∧ JourIn B ((w2.setCell ⟨w.heap.size + 1, 0, none⟩ (.int .i64 22)).setCell ⟨j, 2, none⟩ (.bool true)) d j b s0 k n rd nw last (some (e, m)) true ep ∧
      Fr B [TJour] w ((w2.setCell ⟨w.heap.size + 1, 0, none⟩ (.int .i64 22)).setCell ⟨j, 2, none⟩ (.bool true)) := by
    refine ⟨((hD.fr hf1 (by decide) (by decide) (by decide)).fr hf2 (by decide) (by decide) (by decide)).fr hfA (by decide) (by decide) (by decide), ⟨?_, ?_, ?_, hJ.bj, hJ.bb, hJ.bs⟩, ?_⟩
    · simpa [jourV] using hJ2.set 2 (.bool true)
    · exact (hl1.fr hf2 (by decide)).fr hfA (by decide)
    · exact ((hJ.ps.fr hf1 (by decide)).fr hf2 (by decide)).fr hfA (by decide)
    · exact (((hf1.trans hf2).mono (Nat.le_refl _) (by simp)).setNew (by simp) _).setB hJ.bj hJ.pj (by simp) _
  simp [Leaves, settle, results, Tryz.results10, go_sem, r0]
  exact hfin
end Go.Proofs.YtkeamfdceehliaaGreatDoor

/- The log: writes, Append. -/
import Derived.Test.YtkeamfdceehliaaGreatDoorWal
namespace Go.Proofs.YtkeamfdceehliaaGreatDoor
open Go.RowKit
attribute [local go_sem] BA_size BA_extract BA_append BA_toList

/-- One sector more, and a flush. -/
def lgAll (a : Nat) (x : List UInt8) (D : Dk) : Int × Dk :=
  if D.bad then (18, D.tick) else Dk.flush { D.tick with opens := D.opens ++ [(a, x)] }

theorem wrap1 (a i : Nat) (h : a + i ≤ 1000000) : IntKind.i64.wrap ((a : Int) + (i : Int)) = (a : Int) + (i : Int) := by
  rw [IntKind.wrap_i64]
  omega

set_option maxHeartbeats 2000000 in
theorem walWrites_key {B d sb b at_ n m : Nat} {osl : Value} {D : Dk} {w : World} {st : Option (Int × Nat)} {e : Int} {s : List UInt8} (hD : DiskIn B w d sb osl D) (hL : Blk w b (logV d at_ n st) TLog) (_hbb : B ≤ b) (hlen : at_ + m < D.secs.length)
    (he : 0 ≤ e ∧ e < 18446744073709551616) (hs : s.length ≤ 43) (hop : D.opens.length ≤ 1000000) (Po : Ending → World → Prop)
    (hPo : ∀ r w', (let R := lgAll (at_ + m) (mkSec s e m) D
      r = .returned (.int .i64 R.1) ∧ (∃ osl', DiskIn B w' d sb osl' R.2) ∧ Fr B [TDisk, TSec, TWr] w w') → Po r w') :
    Calls Tryz.prog 39 #[dp b, .string (BA s), .agg #[.int .u64 e, .int .i64 m]] w Po := by
  replace hPo := Bx.mk hPo
  have hmany := hD.many
  have hMK := Lib.hid (fun W => make_ok s e (m : Int) he (by omega) hs W)
  have hblt := hL.lt
  go_enter Tryz.func39, Tryz.ntmps39
  go_wp2_with (go_at_call 50; refine (hMK.out _).mono ?_; rintro r W2 ⟨rfl, hb2⟩)
  have hbw : Below w.heap.size w W2 := Below.trans ((Below.refl w.heap.size w).alloc (Nat.le_refl _) _) (hb2.mono (by simp))
  have hL2 := hL.below hbw hblt
  have hN2 := (Blk.new w [.int .u64 e, .int .i64 m] TOpen).below hb2 (by simp)
  have hd2 := hD.keep (w' := W2) (fun k c t hk => (hbw.block k (lt_of_get hk)).trans hk)
  have q0 := hL2.cell 0
  have q1 := hL2.cell 1
  have q2 := hN2.cell 1
  simp only [logV, List.getElem?_cons_zero, List.getElem?_cons_succ] at q0 q1 q2
  have hth : D.there ((at_ : Int) + (m : Int)) = true := by
    simp only [Dk.there, Bool.and_eq_true, decide_eq_true_eq]
    omega
  have hln := mkSec_len s e m hs
  refine wp_region_planN (fun W => W.cell? ⟨b, 0, none⟩ = some (dp d) ∧ W.cell? ⟨b, 1, none⟩ = some (.int .i64 at_) ∧ W.cell? ⟨w.heap.size, 1, none⟩ = some (.int .i64 m)) [0, 1, 2, 4, 5, 6, 8, 11] [3, 7, 9, 10] [] [12, 13] (by kernel_rfl) (by kernel_rfl) ⟨q0, q1, q2⟩ (fun c a d v w h => by cases d <;> exact h) ?_
  iterate 8
    refine pureS (v := ?_) rfl ?_ ?_
    rotate_left
    · intro wq
      go_simp
      rfl
    simp only [put_lit, List.set_cons_succ, List.set_cons_zero]
  iterate 4
    refine holdS (v := ?_) rfl ?_ ?_
    rotate_left
    · rintro wq ⟨g1, g2, g3⟩
      go_simp
      first | rfl | done
    simp only [put_lit, List.set_cons_succ, List.set_cons_zero]
  refine endT (C := fun _ => True) (T1 := []) (g1 rfl (g1 rfl g0)) ?_
  have hFz : Fr B [TDisk, TSec, TWr] w W2.drew := Fr.of_below (Below.trans (b := W2) hbw ⟨rfl, rfl, rfl, Nat.le_refl _, fun _ _ => rfl⟩)
  rw [wrap1 at_ m (by omega)]
  have hn2 : ((at_ : Int) + (m : Int)).toNat = at_ + m := by omega
  cases hbd : D.bad with
  | true =>
    have hWr := Lib.hid (write_bad hd2.drew ((at_ : Int) + (m : Int)) (mkSec s e m) hth hln hbd)
    have hall : lgAll (at_ + m) (mkSec s e m) D = (18, D.tick) := by unfold lgAll; rw [if_pos hbd]
    rw [hall] at hPo
    clear hall hbd hth hln
    unfold strV at hWr
    go_wp2_with (go_at_call 51; refine hWr.out.mono ?_; rintro r W3 ⟨rfl, hd3, hF3⟩)
    exact hPo.out _ _ ⟨rfl, ⟨_, hd3⟩, hFz.trans (hF3.mono (Nat.le_refl _) (by simp))⟩
  | false =>
    have hWr := Lib.hid (write_ok hd2.drew ((at_ : Int) + (m : Int)) (mkSec s e m) hth hln hbd (by omega))
    have hall : lgAll (at_ + m) (mkSec s e m) D = Dk.flush { D.tick with opens := D.opens ++ [(at_ + m, mkSec s e m)] } := by unfold lgAll; rw [if_neg (by simp [hbd])]
    rw [hall] at hPo
    rw [hn2] at hWr
    clear hall hbd hth hln
    unfold strV at hWr
    obtain ⟨D1, hD1⟩ : ∃ D1 : Dk, { D.tick with opens := D.opens ++ [(at_ + m, mkSec s e m)] } = D1 := ⟨_, rfl⟩
    rw [hD1] at hWr hPo
    have key : ∀ W3 osl3, DiskIn B W3 d sb osl3 D1 → Calls Tryz.prog 28 #[dp d] W3 fun r W4 => r = .returned (.int .i64 D1.flush.1) ∧ (∃ o, DiskIn B W4 d sb o D1.flush.2) ∧ Fr B [TDisk, TSec] W3 W4 := by
      intro W3 osl3 hd3
      cases hb1 : D1.bad with
      | true =>
        have hfl : D1.flush = (18, D1.tick) := by unfold Dk.flush; rw [if_pos hb1]
        rw [hfl]
        exact (flush_bad hd3 hb1).mono (fun r w' ⟨h1, h2, h3⟩ => ⟨h1, ⟨_, h2⟩, h3.mono (Nat.le_refl _) (by simp)⟩)
      | false =>
        have hfl : D1.flush = (0, { D1.tick with secs := Dk.lay D1.secs D1.opens, opens := [] }) := by unfold Dk.flush; rw [if_neg (by simp [hb1])]
        rw [hfl]
        exact (flush_ok hd3 hb1).mono (fun r w' ⟨h1, h2, h3⟩ => ⟨h1, ⟨_, h2⟩, h3⟩)
    replace key := Bx.mk key
    go_wp2_with (first
      | (go_at_call 51; refine hWr.out.mono ?_; rintro r W3 ⟨rfl, ⟨osl3, hd3⟩, hF3⟩
         have q3 := (hL2.drew.fr hF3 (by decide)).cell 0
         simp only [logV, List.getElem?_cons_zero] at q3)
      | (go_at_call 28; refine (key.out _ _ hd3).mono ?_; rintro r W4 ⟨rfl, hd4, hF4⟩))
    exact hPo.out _ _ ⟨rfl, hd4, (hFz.trans (hF3.mono (Nat.le_refl _) (by simp))).trans (hF4.mono (Nat.le_refl _) (by simp))⟩

theorem walAp_long {w : World} {b : Nat} {s : List UInt8} (hl : 43 < s.length) (hm : s.length ≤ 140737488355328) :
    Calls Tryz.prog 26 #[dp b, .string (BA s)] w fun r w' => r = .returned (.int .i64 1) ∧ w = w' := by
  have hl2 : (43 : Int) < s.length := by omega
  go_enter Tryz.func26, Tryz.ntmps26
  go_wp2
  go_ret
  exact ⟨rfl, rfl⟩
theorem walAp_shut {w : World} {b d at_ n : Nat} {s : List UInt8} (hL : Blk w b (logV d at_ n none) TLog) (hl : s.length ≤ 43) :
    Calls Tryz.prog 26 #[dp b, .string (BA s)] w fun r w' => r = .returned (.int .i64 13) ∧ w = w' := by
  have hl2 : (s.length : Int) ≤ 43 := by omega
  have c3 := hL.cell 3
  simp only [logV, stV, List.getElem?_cons_zero, List.getElem?_cons_succ] at c3
  go_enter Tryz.func26, Tryz.ntmps26
  go_wp2
  go_ret
  exact ⟨rfl, rfl⟩
theorem walAp_full {w : World} {b d at_ n m : Nat} {e : Int} {s : List UInt8} (hL : Blk w b (logV d at_ n (some (e, m))) TLog) (hl : s.length ≤ 43) (hm : n ≤ m) :
    Calls Tryz.prog 26 #[dp b, .string (BA s)] w fun r w' => r = .returned (.int .i64 22) ∧ Below w.heap.size w w' := by
  have hl2 : (s.length : Int) ≤ 43 := by omega
  have hm2 : (n : Int) ≤ m := by omega
  have c3 := hL.cell 3
  have c2 := (hL.alloc (.cells #[.int .u64 e, .int .i64 m] TOpen)).cell 2
  have hN := Blk.new w [.int .u64 e, .int .i64 m] TOpen
  have a1 := hN.cell 1
  simp only [logV, stV, List.getElem?_cons_zero, List.getElem?_cons_succ] at c3 c2 a1
  go_enter Tryz.func26, Tryz.ntmps26
  go_wp2
  go_region
  go_wp2
  go_ret
  exact ⟨rfl, Below.trans ((Below.refl _ _).alloc (Nat.le_refl _) _) ⟨rfl, rfl, rfl, Nat.le_refl _, fun _ _ => rfl⟩⟩

set_option maxHeartbeats 2000000 in
theorem walAp_do {B d sb b at_ n m : Nat} {osl : Value} {D : Dk} {w : World} {e : Int} {s : List UInt8} (hD : DiskIn B w d sb osl D) (hL : Blk w b (logV d at_ n (some (e, m))) TLog) (hbb : B ≤ b) (hmn : m < n) (hlen : at_ + n ≤ D.secs.length)
    (he : 0 ≤ e ∧ e < 18446744073709551616) (hs : s.length ≤ 43) (hop : D.opens.length ≤ 1000000) (Po : Ending → World → Prop)
    (hPo : ∀ r w', (let R := lgAll (at_ + m) (mkSec s e m) D
      r = .returned (.int .i64 R.1) ∧ (∃ osl', DiskIn B w' d sb osl' R.2) ∧ Blk w' b (logV d at_ n (if R.1 = 0 then some (e, m + 1) else none)) TLog ∧ Fr B [TDisk, TSec, TWr, TLog] w w') → Po r w') :
    Calls Tryz.prog 26 #[dp b, .string (BA s)] w Po := by
  replace hPo := Bx.mk hPo
  have hmany := hD.many
  have hl2 : (s.length : Int) ≤ 43 := by omega
  have hm2 : (m : Int) < n := by omega
  have hblt := hL.lt
  have hA := hL.alloc (.cells #[.int .u64 e, .int .i64 m] TOpen)
  have c3 := hL.cell 3
  have c2 := hA.cell 2
  have hN := Blk.new w [.int .u64 e, .int .i64 m] TOpen
  have a1 := hN.cell 1
  have a0 := hN.cell 0
  have hbw : Below w.heap.size w (w.alloc (.cells #[.int .u64 e, .int .i64 m] TOpen)).drew := Below.trans ((Below.refl w.heap.size w).alloc (Nat.le_refl _) _) ⟨rfl, rfl, rfl, Nat.le_refl _, fun _ _ => rfl⟩
  have hd2 := hD.keep (w' := (w.alloc (.cells #[.int .u64 e, .int .i64 m] TOpen)).drew) (fun k c t hk => (hbw.block k (lt_of_get hk)).trans hk)
  have hF2 : Fr B [TDisk, TSec, TWr, TLog] w (w.alloc (.cells #[.int .u64 e, .int .i64 m] TOpen)).drew := Fr.of_below hbw
  simp only [logV, stV, List.getElem?_cons_zero, List.getElem?_cons_succ] at c3 c2 a1 a0
  have hWs := Lib.hid (fun Po h => walWrites_key (st := some (e, m)) (m := m) (e := e) (s := s) hd2 hA.drew hbb (by omega) he hs hop Po h)
  obtain ⟨R, hRe⟩ : ∃ R, lgAll (at_ + m) (mkSec s e m) D = R := ⟨_, rfl⟩
  rw [hRe] at hPo hWs
  clear hRe
  by_cases hz : R.1 = 0
  · go_enter Tryz.func26, Tryz.ntmps26
    go_wp2
    go_region
    go_wp2_with (go_at_call 39; refine hWs.out _ ?_; rintro r w3 ⟨rfl, hd3, hF3⟩
                 have hL3 := hA.drew.fr hF3 (by decide)
                 have hN3 := hN.drew.fr hF3 (by decide)
                 have b3 := hL3.cell 3
                 have g3 := hL3.free 3
                 have d0 := hN3.cell 0
                 have d1 := hN3.cell 1
                 simp only [logV, List.getElem?_cons_zero, List.getElem?_cons_succ] at b3 d0 d1)
    obtain ⟨osl3, hd3⟩ := hd3
    have hF4 : Fr B [TLog] w3 ((w3.setCell ⟨b, 3, none⟩ (stV none)).setCell ⟨b, 3, none⟩ (stV (some (e, m + 1)))) := ((Fr.refl _ _ _).setB hbb hL3 (by simp) _).setB hbb hL3 (by simp) _
    refine hPo.out _ _ ⟨?_, ⟨osl3, hd3.fr hF4 (by decide) (by decide) (by decide)⟩, ?_, (hF2.trans (hF3.mono (Nat.le_refl _) (by simp))).trans (hF4.mono (Nat.le_refl _) (by simp))⟩
    · simp [hz]
    · have := (hL3.set 3 (stV none)).set 3 (stV (some (e, m + 1)))
      simpa [logV, hz, stV] using this
  · go_enter Tryz.func26, Tryz.ntmps26
    go_wp2
    go_region
    go_wp2_with (go_at_call 39; refine hWs.out _ ?_; rintro r w3 ⟨rfl, hd3, hF3⟩
                 have hL3 := hA.drew.fr hF3 (by decide)
                 have hN3 := hN.drew.fr hF3 (by decide)
                 have b3 := hL3.cell 3
                 have g3 := hL3.free 3
                 have d0 := hN3.cell 0
                 have d1 := hN3.cell 1
                 simp only [logV, List.getElem?_cons_zero, List.getElem?_cons_succ] at b3 d0 d1)
    obtain ⟨osl3, hd3⟩ := hd3
    have hF4 : Fr B [TLog] w3 (w3.setCell ⟨b, 3, none⟩ (stV none)) := (Fr.refl _ _ _).setB hbb hL3 (by simp) _
    refine hPo.out _ _ ⟨?_, ⟨osl3, hd3.fr hF4 (by decide) (by decide) (by decide)⟩, ?_, (hF2.trans (hF3.mono (Nat.le_refl _) (by simp))).trans (hF4.mono (Nat.le_refl _) (by simp))⟩
    · simp
    · have := hL3.set 3 (stV none)
      simpa [logV, hz, stV] using this
end Go.Proofs.YtkeamfdceehliaaGreatDoor

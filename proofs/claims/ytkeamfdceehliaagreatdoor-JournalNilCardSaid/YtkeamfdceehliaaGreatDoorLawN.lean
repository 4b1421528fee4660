/- JournalNil, walked. -/
import Derived.Test.YtkeamfdceehliaaGreatDoorNil
namespace Go.Proofs.YtkeamfdceehliaaGreatDoor
open Go.RowKit
attribute [local go_sem] BA_size BA_extract BA_append BA_toList

theorem append_nil (s : Value) (w : World) : Calls Tryz.prog 10 #[.pointer none, s] w fun r w' => r = .returned (.int .i64 1) ∧ Below w.heap.size w w' := by
  have hx0 := (Blk.new (w.alloc (.cells #[.pointer none] 25)) [.int .i64 0] 26)
  have x0 := (Blk.alloc (Blk.new w [.pointer none] 25) (.cells #[.int .i64 0] 26)).cell 0
  have y0 := hx0.cell 0
  have y1 := hx0.free 0
  have z0 := (Blk.new (w.alloc (.cells #[.pointer none] 25)) [.int .i64 1] 26).cell 0
  simp only [List.getElem?_cons_zero] at x0 y0 z0
  rw [show (w.alloc (.cells #[.pointer none] 25)).heap.size = w.heap.size + 1 by simp] at z0
  go_enter_defers Tryz.func10, Tryz.ntmps10
  go_wp2
  simp [bodyPostD, Leaves, results, Tryz.results10, go_sem, z0]
  exact ((Below.refl _ _).alloc (Nat.le_refl _) _).alloc (by simp) _
theorem snap_nil (s : List UInt8) (w : World) : Calls Tryz.prog 16 #[.pointer none, .string (BA s)] w fun r w' => r = .returned (.int .i64 1) ∧ Below w.heap.size w w' := by
  have hx0 := (Blk.new (w.alloc (.cells #[.pointer none] 25)) [.int .i64 0] 26)
  have x0 := (Blk.alloc (Blk.new w [.pointer none] 25) (.cells #[.int .i64 0] 26)).cell 0
  have y0 := hx0.cell 0
  have y1 := hx0.free 0
  have z0 := (Blk.new (w.alloc (.cells #[.pointer none] 25)) [.int .i64 1] 26).cell 0
  simp only [List.getElem?_cons_zero] at x0 y0 z0
  rw [show (w.alloc (.cells #[.pointer none] 25)).heap.size = w.heap.size + 1 by simp] at z0
  go_enter_defers Tryz.func16, Tryz.ntmps16
  go_wp2
  simp [bodyPostD, Leaves, results, Tryz.results16, go_sem, z0]
  exact ((Below.refl _ _).alloc (Nat.le_refl _) _).alloc (by simp) _

set_option maxHeartbeats 2000000 in
theorem nil_ok (n k : Int) (hk : -9223372036854775808 ≤ k ∧ k ≤ 9223372036854775807) (w : World) : Calls Tryz.prog 5 #[.int .i64 n, .int .i64 k] w fun r w' => r = .returned (.bool true) ∧ Below w.heap.size w w' := by
  obtain ⟨t1, t2⟩ := tmod_in n 20 (by omega)
  obtain ⟨m, hm⟩ : ∃ m : Nat, 1 + n.tmod 20 % 20 = (m : Int) := ⟨(1 + n.tmod 20 % 20).toNat, by omega⟩
  have hm1 : 1 ≤ m := by omega
  have hm2 : m ≤ 20 := by omega
  have HM := Lib.hid hm
  clear hm
  have hN := Lib.hid (new_ok w.heap.size m (by omega) (by omega) w (Nat.le_refl _))
  have hFN := Lib.hid (fun w1 => format_nil (.string ⟨#[]⟩) w1)
  have hAw := Lib.hid (fun w1 => awake_ok w1)
  have hAn := Lib.hid (fun w1 => append_nil (.string ⟨#[]⟩) w1)
  have hSn := Lib.hid (fun w1 => snap_nil [] w1)
  have hLn := Lib.hid (fun w1 => left_nil w1)
  have hGn := Lib.hid (fun w1 => good_nil w1)
  have hEn := Lib.hid (fun w1 => epoch_nil w1)
  by_cases hno : k < 1 ∨ 64 < k ∨ (m : Int) ≤ 2 * k
  · have hNO := Lib.hid hno
    have hmay : (k < 1) ∨ (64 < k) ∨ (1 ≤ k ∧ k ≤ 64 ∧ (m : Int) ≤ 2 * k) := by omega
    clear hno
    rcases hmay with h1 | h1 | ⟨h1, h2, h3⟩
    all_goals
      go_enter Tryz.func5, Tryz.ntmps5
      go_wp2_with fail
      rw [HM.out]
      refine hN.out.mono ?_
      rintro r w1 ⟨d, sb, rfl, hd1, hf1⟩
      have hO := Lib.hid (open_no hd1 k (by have := HM.out; simpa [Dk.new] using hNO.out))
      go_wp2_with fail
      refine hO.out.mono ?_
      rintro r w2 ⟨rfl, hb2⟩
      have hd2 := (hd1.keep (w' := w2) (fun k c t hk => (hb2.block k (lt_of_get hk)).trans hk)).keep (w' := w2.alloc (.cells #[.string ⟨#[]⟩, .slice none 0 0] TFound)) (fun k c t hk => (Below.heap_alloc _ _ _ (lt_of_get hk)).trans hk)
      have hFo := Lib.hid (format_no hd2 k (.string ⟨#[]⟩) (by have := HM.out; simpa [Dk.new] using hNO.out))
      have hbz : Below w.heap.size w w2 := (Below.of_fr hf1 (Nat.le_refl _)).trans (hb2.mono hf1.size)
      go_wp2_with fail
      refine hFo.out.mono ?_
      rintro r w3 ⟨rfl, hb3⟩
      have hbz3 : Below w.heap.size w w3 := (hbz.alloc hbz.size _).trans (hb3.mono (by have := hbz.size; simp; omega))
      go_wp2_with fail
      refine (hFN.out _).mono ?_
      rintro r w4 ⟨rfl, rfl⟩
      go_wp2_with (first
        | (go_at_call 7; refine (hAw.out _).mono ?_; rintro r w5 ⟨rfl, hb5⟩)
        | (go_at_call 10; refine (hAn.out _).mono ?_; rintro r w6 ⟨rfl, hb6⟩)
        | (go_at_call 16; refine (hSn.out _).mono ?_; rintro r w7 ⟨rfl, hb7⟩)
        | (go_at_call 18; refine (hLn.out _).mono ?_; rintro r w8 ⟨rfl, rfl⟩)
        | (go_at_call 17; refine (hGn.out _).mono ?_; rintro r w9 ⟨rfl, rfl⟩)
        | (go_at_call 14; refine (hEn.out _).mono ?_; rintro r w10 ⟨rfl, rfl⟩))
      go_ret
      have s3 := hbz3.size
      have s5 := hb5.size
      have s6 := hb6.size
      exact ⟨rfl, ((hbz3.trans (hb5.mono s3)).trans (hb6.mono (by omega))).trans (hb7.mono (by omega))⟩
  · obtain ⟨kk, rfl⟩ : ∃ kk : Nat, k = kk := ⟨k.toNat, by omega⟩
    have h1 : 1 ≤ (kk : Int) := by omega
    have h2 : (kk : Int) ≤ 64 := by omega
    have h3 : 2 * (kk : Int) < m := by omega
    obtain ⟨q, hq⟩ : ∃ q, 2 * kk + q = m := ⟨m - 2 * kk, by omega⟩
    have HQ := Lib.hid hq
    clear hno hq
    · go_enter Tryz.func5, Tryz.ntmps5
      go_wp2_with fail
      rw [HM.out]
      refine hN.out.mono ?_
      rintro r w1 ⟨d, sb, rfl, hd1, hf1⟩
      have hse : (Dk.new m).secs = List.replicate (2 * kk + q) Dk.zsec := by rw [HQ.out]; rfl
      have hO := Lib.hid (open_zero hd1 hse rfl rfl hf1.size (by omega) (by omega) (by have := HQ.out; omega))
      clear hse
      go_wp2_with fail
      refine hO.out.mono ?_
      rintro r w2 ⟨rfl, ⟨osl2, hd2⟩, hf2⟩
      have hr := readsN_same (2 * kk) (Dk.new m)
      have hd2 := hd2.keep (w' := w2.alloc (.cells #[.string ⟨#[]⟩, .slice none 0 0] TFound)) (fun k c t hk => (Below.heap_alloc _ _ _ (lt_of_get hk)).trans hk)
      have hf : Fr w.heap.size TJs w (w2.alloc (.cells #[.string ⟨#[]⟩, .slice none 0 0] TFound)) := ((hf1.mono (Nat.le_refl _) (by simp)).trans hf2).alloc _
      have hFo := Lib.hid (jr_format (k := kk) (n := q) (data := []) hd2 (by rw [hr.1, HQ.out]; rfl) (by rw [hr.2.1]; rfl) (hr.2.2 rfl) hf.size (by omega) (by omega) (by have := HQ.out; omega) (by have := HQ.out; omega) (by simp))
      clear hr
      go_wp2_with fail
      refine hFo.out.mono ?_
      rintro r w3 ⟨j, D3, rfl, hj3, hz3, hf3⟩
      have hbz3 : Below w.heap.size w w3 := Below.of_fr (hf.trans hf3) (Nat.le_refl _)
      clear hz3
      go_wp2_with fail
      refine (hFN.out _).mono ?_
      rintro r w4 ⟨rfl, rfl⟩
      go_wp2_with (first
        | (go_at_call 7; refine (hAw.out _).mono ?_; rintro r w5 ⟨rfl, hb5⟩)
        | (go_at_call 10; refine (hAn.out _).mono ?_; rintro r w6 ⟨rfl, hb6⟩)
        | (go_at_call 16; refine (hSn.out _).mono ?_; rintro r w7 ⟨rfl, hb7⟩)
        | (go_at_call 18; refine (hLn.out _).mono ?_; rintro r w8 ⟨rfl, rfl⟩)
        | (go_at_call 17; refine (hGn.out _).mono ?_; rintro r w9 ⟨rfl, rfl⟩)
        | (go_at_call 14; refine (hEn.out _).mono ?_; rintro r w10 ⟨rfl, rfl⟩))
      go_ret
      have s3 := hbz3.size
      have s5 := hb5.size
      have s6 := hb6.size
      exact ⟨rfl, ((hbz3.trans (hb5.mono s3)).trans (hb6.mono (by omega))).trans (hb7.mono (by omega))⟩
end Go.Proofs.YtkeamfdceehliaaGreatDoor

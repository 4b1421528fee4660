/- JournalLinear, walked. -/
import Derived.Test.YtkeamfdceehliaaGreatDoorNil
namespace Go.Proofs.YtkeamfdceehliaaGreatDoor
open Go.RowKit
attribute [local go_sem] BA_size BA_extract BA_append BA_toList

/-- How far the records have come: c tries, as many records as there is room for. -/
structure LinR (w : World) (d j k n c : Nat) (wr : World) : Prop where
  out : ∃ D ops, Jrn w.heap.size wr d j k n D 1 1 0 [120] ops ∧ ops.length = min c n ∧ D.fail = 0 ∧ Fr w.heap.size TJs w wr

set_option maxHeartbeats 2000000 in
set_option maxRecDepth 100000 in
theorem linear_ok (n k m : Int) (w : World) : Calls Tryz.prog 3 #[.int .i64 n, .int .i64 k, .int .i64 m] w fun r w' => r = .returned (.bool true) ∧ Below w.heap.size w w' := by
  obtain ⟨t1, t2⟩ := tmod_in n 20 (by omega)
  obtain ⟨t3, t4⟩ := tmod_in m 31 (by omega)
  have hAw := Lib.hid (fun w1 => awake_ok w1)
  obtain ⟨q, hq⟩ : ∃ q : Nat, n.tmod 20 % 20 = (q : Int) := ⟨(n.tmod 20 % 20).toNat, by omega⟩
  have hq1 : q < 20 := by omega
  obtain ⟨p, hp⟩ : ∃ p : Nat, bits .and .i64 k 3 = (p : Int) := ⟨(bits .and .i64 k 3).toNat, by rw [i64_and3]; omega⟩
  have hp1 : p ≤ 3 := by have := i64_and3 k; omega
  obtain ⟨c, hc⟩ : ∃ c : Nat, (m.tmod 31 + 31) % 31 = (c : Int) := ⟨((m.tmod 31 + 31) % 31).toNat, by omega⟩
  have hc1 : c ≤ 30 := by omega
  have HC := Lib.hid hc
  clear hc
  go_enter Tryz.func3, Tryz.ntmps3
  go_wp2_with fail
  refine (hAw.out _).mono ?_
  rintro r w0 ⟨rfl, hb0⟩
  go_wp2_with fail
  rw [show (2 * (1 + (p : Int)) + 1 + (q : Int)) = ((2 * (1 + p) + (1 + q) : Nat) : Int) by omega]
  obtain ⟨M, hM⟩ : ∃ M, 2 * (1 + p) + (1 + q) = M := ⟨_, rfl⟩
  obtain ⟨N, hN⟩ : ∃ N, 1 + q = N := ⟨_, rfl⟩
  rw [show (1 + (p : Int)) = ((1 + p : Nat) : Int) by omega]
  obtain ⟨K, hK⟩ : ∃ K, 1 + p = K := ⟨_, rfl⟩
  rw [hK, hN] at hM
  rw [hK, hN, hM]
  have hMl : M ≤ 30 := by omega
  have hM1 : 1 ≤ M := by omega
  have hKl : K ≤ 4 := by omega
  have hK1 : 1 ≤ K := by omega
  have hN1 : 1 ≤ N := by omega
  have hNl : N ≤ 20 := by omega
  have HM := Lib.hid hM
  clear hM hN hK hq hp
  have hN := Lib.hid (new_ok w.heap.size M (by omega) (by omega) w0 hb0.size)
  refine hN.out.mono ?_
  rintro r w1 ⟨d, sb, rfl, hd1, hf1⟩
  have hF := Lib.hid (jr_format (k := K) (n := N) (data := [120]) hd1 (by rw [HM.out]; rfl) rfl rfl (Nat.le_trans hb0.size hf1.size) (by omega) (by omega) (by omega) (by omega) (by simp; omega))
  go_wp2_with fail
  refine hF.out.mono ?_
  rintro r w2 ⟨j, D2, rfl, hj2, hz2, hf2⟩
  have hR2 : LinR w d j K N 0 w2 := ⟨D2, [], hj2, by simp, hz2, ((Fr.of_below hb0).trans (hf1.mono (Nat.le_refl _) (by simp))).trans hf2⟩
  clear hj2 hz2
  go_wp2_with fail
  rw [HC.out]
  go_loopw [14] (fun i wr => ∃ x : Nat, x ≤ c ∧ i = .int .i64 x ∧ LinR w d j K N x wr) (fun i _ => c - (intOf i).toNat)
  case atStart => exact ⟨0, by omega, rfl, hR2⟩
  case round =>
    obtain ⟨x, hx, rfl, hRx⟩ := hrel
    obtain ⟨D, ops, hjx, hol, hz, hfx⟩ := hRx.out
    by_cases hlt : x < c
    · have HZ := Lib.hid hz
      have HOL := Lib.hid hol
      clear hz hol
      by_cases hfull : x < N
      · have hA := Lib.hid (jr_append (s := [114]) hjx HZ.out (by have := HOL.out; omega) (by simp))
        go_wp2_with (go_at_call 10; refine hA.out.mono ?_; rintro r w3 ⟨D3, rfl, hj3, hz3, hf3⟩)
        exact ⟨⟨x + 1, by omega, by go_num, ⟨D3, _, hj3, by have := HOL.out; simp; omega, hz3, hfx.trans hf3⟩⟩, by simp [intOf]; omega⟩
      · have hA := Lib.hid (jr_append_full (s := [114]) hjx (by have := HOL.out; omega) (by simp))
        go_wp2_with (go_at_call 10; refine hA.out.mono ?_; rintro r w3 ⟨rfl, hj3, hf3⟩)
        exact ⟨⟨x + 1, by omega, by go_num, ⟨D, _, hj3, by have := HOL.out; omega, HZ.out, hfx.trans hf3⟩⟩, by simp [intOf]; omega⟩
    · have hxc : x = c := by omega
      subst hxc
      have hInv := hjx.inv
      obtain ⟨⟨sb3, osl3, hd3⟩, ho3, _, _⟩ := hjx
      have hCr := Lib.hid (crash_ok (fv := .slice none 0 0) (fs := []) hd3 ⟨⟨none, 0, rfl, fun i f h => by simp at h⟩, by simp⟩ (fun b o n c h => by cases h))
      have hcs : (D.crash []).2.secs = D.secs := by
        show (Dk.crashTo [] D.opens D.secs D.opens.length).1 = D.secs
        rw [ho3]
        rfl
      have hO := fun (W : World) (hd : DiskIn w.heap.size W d sb3 (.slice none 0 0) (D.crash []).2) (hB : w.heap.size ≤ W.heap.size) => jr_open (k := K) (n := N) hd rfl hB hN1 (E := 1) (e := 1) (jj := 0) (data := [120]) (ops := ops) (by show Inv K N (D.crash []).2.secs 1 1 0 [120] ops; rw [hcs]; exact hInv)
      have HO := Lib.hid hO
      have HOL := Lib.hid hol
      clear hO hcs hz hol ho3
      go_wp2_with (go_at_call 11; refine hCr.out.mono ?_; rintro r w3 ⟨rfl, hd4, hf4⟩)
      refine (HO.out _ hd4 (hfx.trans (hf4.mono (Nat.le_refl _) (by simp))).size).mono ?_
      rintro r w5 ⟨j5, v, D5, y, rfl, ho5, hj5, hz5, he5, hy5, hf5⟩
      have hrd : D5.reads = (2 * K + y : Nat) := by
        rw [he5, readsN_count _ _ (by show 0 ≤ (0 : Int); omega) (by show (0 : Int) ≤ 1000000; omega) (by omega)]
        show (0 : Int) + _ = _
        omega
      obtain ⟨-, a, cap, rfl, -⟩ := owns_cell ho5
      obtain ⟨⟨sb5, osl5, hd5⟩, _, _, _⟩ := hj5
      have hd6 := hd5.keep (w' := w5.alloc (.cells #[.string (BA [120]), .slice a ops.length cap] TFound)) (fun k c t hk => (Below.heap_alloc _ _ _ (lt_of_get hk)).trans hk)
      have hRe := reads_in hd6
      rw [hrd] at hRe
      have HRe := Lib.hid hRe
      have hX := Blk.new w5 [.string (BA [120]), .slice a ops.length cap] TFound
      have x1 := hX.cell 1
      simp only [List.getElem?_cons_zero, List.getElem?_cons_succ] at x1
      have hff : Fr w.heap.size TJs w w5 := (hfx.trans (hf4.mono (Nat.le_refl _) (by simp))).trans hf5
      have hMN1 : (M : Int) ≤ 2 * (K : Int) + (N : Int) := by have := HM.out; omega
      have hMN2 : 2 * (K : Int) + (N : Int) ≤ M := by have := HM.out; omega
      obtain ⟨L, hL⟩ : ∃ L, ops.length = L := ⟨_, rfl⟩
      rw [hL] at x1 HRe
      have hLx : L = min x N := by rw [← hL]; exact HOL.out
      clear hrd hRe hz5 he5
      rw [hL]
      clear hL
      have h1 : 2 * (K : Int) + (y : Int) ≤ M := by omega
      have hb : ((L : Int) == min (x : Int) ((M : Int) - 2 * (K : Int))) = true := by rw [beq_iff_eq]; omega
      have hb2 : decide (2 * (K : Int) ≤ 2 * (K : Int) + (y : Int)) = true := by simp; omega
      clear hLx hlt hx hMN1 hMN2
      go_wp2_with (go_at_call 13; refine HRe.out.mono ?_; rintro r w6 ⟨rfl, rfl⟩)
      go_ret
      exact ⟨rfl, Below.of_fr (hff.alloc _) (Nat.le_refl _)⟩
end Go.Proofs.YtkeamfdceehliaaGreatDoor

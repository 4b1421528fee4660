/- The laws' own small functions: awake, short, Same. -/
import Derived.Test.YtkeamfdceehliaaGreatDoorJrn
namespace Go.Proofs.YtkeamfdceehliaaGreatDoor
open Go.RowKit
attribute [local go_sem] BA_size BA_extract BA_append BA_toList

theorem i64_and3 (n : Int) : bits .and .i64 n 3 = n % 4 := by
  have hc : (BitVec.ofInt 64 3).toNat = 2 ^ 2 - 1 := by decide
  have key : (BitVec.ofInt 64 n &&& BitVec.ofInt 64 3).toNat = (n % ((2 ^ 64 : Nat) : Int)).toNat % 2 ^ 2 := by
    rw [BitVec.toNat_and, BitVec.toNat_ofInt, hc, Nat.and_two_pow_sub_one_eq_mod]
  show IntKind.i64.wrap ((BitVec.ofInt 64 n &&& BitVec.ofInt 64 3).toNat : Nat) = n % 4
  rw [key, IntKind.wrap_i64]
  omega
theorem i64_and7 (n : Int) : bits .and .i64 n 7 = n % 8 := by
  have hc : (BitVec.ofInt 64 7).toNat = 2 ^ 3 - 1 := by decide
  have key : (BitVec.ofInt 64 n &&& BitVec.ofInt 64 7).toNat = (n % ((2 ^ 64 : Nat) : Int)).toNat % 2 ^ 3 := by
    rw [BitVec.toNat_and, BitVec.toNat_ofInt, hc, Nat.and_two_pow_sub_one_eq_mod]
  show IntKind.i64.wrap ((BitVec.ofInt 64 n &&& BitVec.ofInt 64 7).toNat : Nat) = n % 8
  rw [key, IntKind.wrap_i64]
  omega
theorem i64_and15 (n : Int) : bits .and .i64 n 15 = n % 16 := by
  have hc : (BitVec.ofInt 64 15).toNat = 2 ^ 4 - 1 := by decide
  have key : (BitVec.ofInt 64 n &&& BitVec.ofInt 64 15).toNat = (n % ((2 ^ 64 : Nat) : Int)).toNat % 2 ^ 4 := by
    rw [BitVec.toNat_and, BitVec.toNat_ofInt, hc, Nat.and_two_pow_sub_one_eq_mod]
  show IntKind.i64.wrap ((BitVec.ofInt 64 n &&& BitVec.ofInt 64 15).toNat : Nat) = n % 16
  rw [key, IntKind.wrap_i64]
  omega
theorem owns_cell {w : World} {B n : Nat} {v : Value} {l : List (List UInt8)} (h : w.ownsRow B 9 1 v n (strsV l)) : n = l.length ∧ ∃ a cap, v = .slice a n cap ∧ ∀ i s, l[i]? = some s → ∃ g, a = some ⟨g, 0, none⟩ ∧ w.cell? ⟨g, i, none⟩ = some (strV s) := by
  obtain ⟨h1, h2⟩ := h
  have hn : n = l.length := by simp [strsV] at h1; omega
  refine ⟨hn, ?_⟩
  rcases h2 with ⟨hv, h0⟩ | ⟨g, cap, cur, hv, hg, hh, hc, hm, hs, ht⟩
  · refine ⟨none, 0, by rw [hv, h0], fun i s hi => ?_⟩
    have := (List.getElem?_eq_some_iff.1 hi).1
    omega
  · refine ⟨some ⟨g, 0, none⟩, cap, hv, fun i s hi => ⟨g, rfl, ?_⟩⟩
    have hlt := (List.getElem?_eq_some_iff.1 hi).1
    have hB : Blk w g cur.toList 9 := by unfold Blk; simpa using hh
    rw [hB.cell i]
    have e : (cur.toList.take (n * 1))[i]? = cur.toList[i]? := by rw [List.getElem?_take, if_pos (by omega)]
    rw [← e, ht]
    simp [strsV, hi]

theorem awake_ok (w : World) : Calls Tryz.prog 7 #[] w fun r w' => r = .returned (.bool true) ∧ Below w.heap.size w w' := by
  have hN := Lib.hid (new_ok w.heap.size 8 (by omega) (by omega) w (Nat.le_refl _))
  go_enter Tryz.func7, Tryz.ntmps7
  go_wp2_with fail
  refine hN.out.mono ?_
  rintro r w1 ⟨d, sb, rfl, hd1, hf1⟩
  have hB1 := hf1.size
  have hF := Lib.hid (jr_format (k := 2) (n := 4) (data := [97]) hd1 rfl rfl rfl hB1 (by omega) (by omega) (by omega) (by omega) (by simp))
  go_wp2_with fail
  refine hF.out.mono ?_
  rintro r w2 ⟨j, D2, rfl, hj2, hz2, hf2⟩
  have hA := Lib.hid (jr_append (s := [98]) hj2 hz2 (by simp) (by simp))
  go_wp2_with fail
  refine hA.out.mono ?_
  rintro r w3 ⟨D3, rfl, hj3, hz3, hf3⟩
  obtain ⟨⟨sb3, osl3, hd3⟩, ho3, hi3, _⟩ := hj3
  have hB3 : w.heap.size ≤ w3.heap.size := by have := hf2.size; have := hf3.size; omega
  have hi4 : Inv 2 4 (Dk.lay D3.secs D3.opens) 1 1 0 [97] [[98]] := by rw [ho3]; exact hi3
  have hO := Lib.hid (jr_open hd3 hz3 hB3 (by omega) hi4)
  clear ho3 hz2 hz3
  go_wp2_with fail
  refine hO.out.mono ?_
  rintro r w4 ⟨j', v, D4, m, rfl, ho4, hj4, hz4, he4, hm4, hf4⟩
  obtain ⟨_, a, cap, rfl, hc⟩ := owns_cell ho4
  obtain ⟨g, rfl, hg⟩ := hc 0 [98] rfl
  have hgl := hg
  have hX := Blk.new w4 [.string (BA [97]), .slice (some ⟨g, 0, none⟩) 1 cap] TFound
  have x0 := hX.cell 0
  have x1 := hX.cell 1
  have hg5 : (w4.alloc (.cells #[.string (BA [97]), .slice (some ⟨g, 0, none⟩) 1 cap] TFound)).cell? ⟨g, 0, none⟩ = some (.string (BA [98])) := by
    have hlt : g < w4.heap.size := by
      rcases ho4.2 with ⟨h1, _⟩ | ⟨g', _, _, h1, _, h2, _⟩
      · cases h1
      · cases h1; exact lt_of_get h2
    rw [World.cell?_of_block (w := w4) (Below.heap_alloc _ _ _ hlt)]
    exact hg
  simp only [List.getElem?_cons_zero, List.getElem?_cons_succ] at x0 x1
  clear hz4 he4 hgl hg hc
  have hf : Fr w.heap.size TJs w w4 := (((hf1.mono (Nat.le_refl _) (by simp)).trans hf2).trans hf3).trans hf4
  go_wp2
  go_ret
  refine ⟨rfl, ?_⟩
  exact Below.of_fr ((hf.alloc _)) (Nat.le_refl _)
end Go.Proofs.YtkeamfdceehliaaGreatDoor

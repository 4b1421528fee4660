/- Slots: the sectors of a slot, one by one (an iterator). -/
import Derived.Test.YtkeamfdceehliaaGreatDoorSlots
import Derived.Test.YtkeamfdceehliaaGreatDoorRegionIn
import Derived.RangeFuncNested
import Derived.RangeFuncBound
import Derived.RangeFuncCalls
import Derived.RangeFuncLeaves
import Derived.OwnWalkIn
import Derived.TacticsInMore
import Derived.LoopIn
namespace Go.Proofs.YtkeamfdceehliaaGreatDoor
open Go.RowKit
attribute [local go_sem] Oper.semAt_some

abbrev TPSlots : Nat := 60

theorem sectors_ok (s : Nat) (j : Int) (w : World) :
    Calls Tryz.prog 45 #[dp s, .int .i64 j] w fun e w' =>
      e = .returned (.func (.func 53) #[] #[.pointer (some ⟨w.heap.size, 0, none⟩), .pointer (some ⟨w.heap.size + 1, 0, none⟩)]) ∧
      w' = (w.alloc (.cells #[dp s] TPSlots)).alloc (.cells #[.int .i64 j] 3) := by
  have hmf : ∀ (fn : Fn) (first cap : Array Value) (w : World), (Instr.makeFunc fn first cap).run Tryz.prog w = .ok (.func fn first cap) w := fun _ _ _ _ => rfl
  go_enter Tryz.func45, Tryz.ntmps45
  go_wp2
  go_ret
  exact ⟨by simp, rfl⟩

/-- What the iterator reads of its own. -/
structure ItF (W : World) (c1 c2 s d j k : Nat) : Prop where
  b1 : Blk W c1 [dp s] TPSlots
  b2 : Blk W c2 [.int .i64 j] 3
  bs : ∃ rd nw last, Blk W s (slotsV d 0 k rd nw last) TSlots

set_option maxRecDepth 100000 in
set_option maxHeartbeats 2000000 in
theorem iter_ok {l m c1 c2 s d j k a : Nat} (J : Nat → World → Prop) (Jx : World → Prop) (hk : k ≤ 64) (ha : j * k = a) (ha2 : a ≤ 4096)
    (hc : ∀ i W, i ≤ k → J i W → ItF W c1 c2 s d j k)
    (hr : ∀ i W, i < k → J i W → Calls Tryz.prog 52 #[dp d, .int .i64 ((a : Int) + (i : Int))] W.drew fun e W' => ∃ x er, e = .returned (.tuple #[x, er]) ∧ ItF W' c1 c2 s d j k ∧
      YieldAt Fence.wide (m - 1) Tryz.prog l #[x, er] W' fun e W'' => (e = .returned (.bool true) ∧ J (i + 1) W'') ∨ (e = .returned (.bool false) ∧ Jx W''))
    (w : World) (h0 : J 0 w) :
    CallsIn Fence.wide m Tryz.prog 53 #[.func (.yield l) #[] #[], .pointer (some ⟨c1, 0, none⟩), .pointer (some ⟨c2, 0, none⟩)] w fun e W' => (∃ v, e = .returned v) ∧ (J k W' ∨ Jx W') := by
  have hf0 := hc 0 w (by omega) h0
  refine callsIn_of_wp Tryz.func53 rfl trivial ?_
  simp only [Tryz.ntmps53, List.size_toArray, List.length_cons, List.length_nil, Nat.reduceAdd, Nat.reduceSub, Array.replicate_succ, Array.replicate_zero, List.push_toArray, List.append_toArray, List.nil_append, List.cons_append]
  have e1 := hf0.b1.cell 0
  obtain ⟨rd, nw, last, hs⟩ := hf0.bs
  have e2 := hs.cell 2
  simp only [slotsV, List.getElem?_cons_zero, List.getElem?_cons_succ] at e1 e2
  gi_wp2
  gi_loopw [9] (fun p wr => ∃ i : Nat, p = .int .i64 i ∧ i ≤ k ∧ J i wr) (fun p _ => k - (intOf p).toNat)
  case atStart => exact ⟨0, rfl, by omega, h0⟩
  case round =>
    obtain ⟨i, rfl, hi, hJ⟩ := hrel
    by_cases hlt : i < k
    · gi_wp2
      have hIt := hc i wr (by omega) hJ
      have HR := Lib.hid (hr i wr hlt hJ)
      have hja : (j : Int) * (k : Int) = (a : Int) := by rw [← ha]; simp
      refine wpIn_region_planN ⟨fun _ => trivial, rfl, by kernel_rfl⟩ (fun W => ItF W c1 c2 s d j k) [0, 1, 2, 3, 4, 5, 6, 7, 8, 9, 10, 11, 12, 13, 14, 15, 16, 17] [18, 19, 20] [21, 22] (by kernel_rfl) (by kernel_rfl) ⟨hIt.b1, hIt.b2, hIt.bs⟩ (fun c a d v w h => by cases d <;> exact h) ?_
      iterate 18
        refine holdS (v := ?_) rfl ?_ ?_
        rotate_left
        · rintro wq ⟨q1, q2, ⟨rd, nw, last, q3⟩⟩
          have g1 := q1.cell 0
          have g2 := q2.cell 0
          have g3 := q3.cell 0
          have g4 := q3.cell 1
          have g5 := q3.cell 2
          simp only [slotsV, List.getElem?_cons_zero, List.getElem?_cons_succ] at g1 g2 g3 g4 g5
          go_simp
          first | rfl | (rw [hja]; rfl)
        simp only [put_lit, List.set_cons_succ, List.set_cons_zero]
      have hwr : IntKind.i64.wrap (IntKind.i64.wrap (IntKind.i64.wrap (a : Int)) + (i : Int)) = (a : Int) + (i : Int) := by
        rw [IntKind.wrap_i64, IntKind.wrap_i64, IntKind.wrap_i64]
        omega
      rw [hwr]
      refine wpTIn_all (rs := [18]) (by kernel_rfl) ?_
      intro jj hjj
      obtain rfl : jj = 18 := by simpa using hjj
      refine wpOpIn_enter ⟨fun _ => trivial, rfl, by kernel_rfl⟩ rfl (by go_simp; exact ⟨rfl, rfl⟩) ?_
      refine callsIn_wide.2 (HR.out.mono ?_)
      rintro e W1 ⟨x, er, rfl, hI1, hY⟩
      refine ⟨_, rfl, hI1, ?_⟩
      simp only [put_lit, List.set_cons_succ, List.set_cons_zero]
      obtain ⟨fn, tmps, assign, body, hy, hR⟩ := hY
      refine wpTIn_all (rs := [19, 20]) (by kernel_rfl) ?_
      intro jj hjj
      have hjc : jj = 19 ∨ jj = 20 := by simpa using hjj
      rcases hjc with rfl | rfl
      · refine wpOpIn_val ⟨fun _ => trivial, rfl, by kernel_rfl⟩ rfl (by go_simp; exact ⟨rfl, rfl⟩) ?_
        refine ⟨hI1, ?_⟩
        simp only [put_lit, List.set_cons_succ, List.set_cons_zero]
        refine wpTIn_all (rs := [20]) (by kernel_rfl) ?_
        intro jj hjj
        obtain rfl : jj = 20 := by simpa using hjj
        refine wpOpIn_val ⟨fun _ => trivial, rfl, by kernel_rfl⟩ rfl (by go_simp; exact ⟨rfl, rfl⟩) ?_
        refine ⟨hI1, ?_⟩
        simp only [put_lit, List.set_cons_succ, List.set_cons_zero]
        refine endTIn (g1 rfl (g1 rfl g0)) ?_
        clear hI1 hwr hIt HR hja
        gi_wp2
        refine ⟨fun hd => (by simp [Fence.wide] at hd), hR.mono ?_⟩
        rintro e W2 (⟨rfl, hJ2⟩ | ⟨rfl, hX2⟩)
        · gi_wp2
          go_roundw
          case rel => exact ⟨i + 1, by go_num, by omega, hJ2⟩
          case measure => simp [intOf]; omega
        · gi_wp2
          refine bodyPost_ret (results_none rfl _ _ _) rfl ?_
          exact ⟨⟨_, rfl⟩, .inr hX2⟩
      · refine wpOpIn_val ⟨fun _ => trivial, rfl, by kernel_rfl⟩ rfl (by go_simp; exact ⟨rfl, rfl⟩) ?_
        refine ⟨hI1, ?_⟩
        simp only [put_lit, List.set_cons_succ, List.set_cons_zero]
        refine wpTIn_all (rs := [19]) (by kernel_rfl) ?_
        intro jj hjj
        obtain rfl : jj = 19 := by simpa using hjj
        refine wpOpIn_val ⟨fun _ => trivial, rfl, by kernel_rfl⟩ rfl (by go_simp; exact ⟨rfl, rfl⟩) ?_
        refine ⟨hI1, ?_⟩
        simp only [put_lit, List.set_cons_succ, List.set_cons_zero]
        refine endTIn (g1 rfl (g1 rfl g0)) ?_
        clear hI1 hwr hIt HR hja
        gi_wp2
        refine ⟨fun hd => (by simp [Fence.wide] at hd), hR.mono ?_⟩
        rintro e W2 (⟨rfl, hJ2⟩ | ⟨rfl, hX2⟩)
        · gi_wp2
          go_roundw
          case rel => exact ⟨i + 1, by go_num, by omega, hJ2⟩
          case measure => simp [intOf]; omega
        · gi_wp2
          refine bodyPost_ret (results_none rfl _ _ _) rfl ?_
          exact ⟨⟨_, rfl⟩, .inr hX2⟩
    · gi_wp2
      have : i = k := by omega
      subst this
      go_end0
      exact ⟨⟨_, rfl⟩, .inl hJ⟩
end Go.Proofs.YtkeamfdceehliaaGreatDoor

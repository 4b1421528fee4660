/- Slots: Read. -/
import Derived.Test.YtkeamfdceehliaaGreatDoorSlots4
namespace Go.Proofs.YtkeamfdceehliaaGreatDoor
open Go.RowKit
attribute [local go_sem] BA_size BA_extract BA_append BA_toList

def slVal (S : SlS) : Int × List UInt8 := if S.ok && !S.bad && (S.ep != 0) then (S.ep, S.data) else (0, [])
theorem slOut_val (S : SlS) : slOut S = snapV (slVal S).1 (slVal S).2 := by unfold slOut slVal; split <;> rfl

theorem secEp_range (x : List UInt8) : 0 ≤ secEp x ∧ secEp x < 18446744073709551616 := rqf_range _ 0 (by omega) (by omega)
theorem slRun_nw (a : Nat) (S : SlS) (h : 0 ≤ S.nw ∧ S.nw < 18446744073709551616) : ∀ i, 0 ≤ (slRun a i S).nw ∧ (slRun a i S).nw < 18446744073709551616
  | 0 => h
  | i + 1 => by
    have ih := slRun_nw a S h i
    unfold slRun
    split
    · exact ih
    · unfold slStep
      split
      · exact ih
      · have := secEp_range ((slRun a i S).D.cur (a + (slRun a i S).n))
        simp only
        omega

/-- How far Read has come. -/
structure RdS where
  D : Dk
  nw : Int
  out : Int × List UInt8
  last : Int
  bad : Bool
def rdInit (D : Dk) : RdS := { D := D, nw := 0, out := (0, []), last := -1, bad := false }
def rdTake (R : RdS) (S : SlS) : Bool := ((slVal S).1 != 0) && decide (R.out.1 ≤ (slVal S).1)
def rdStep (k i : Nat) (R : RdS) : RdS :=
  let S := slRun (i * k) k (slInit R.D R.nw)
  if S.bad then { R with D := S.D, nw := 0, bad := true }
  else { D := S.D, nw := S.nw, out := if rdTake R S then slVal S else R.out, last := if rdTake R S then i else R.last, bad := false }
def rdRun (k : Nat) (D : Dk) : Nat → RdS
  | 0 => rdInit D
  | i + 1 => if (rdRun k D i).bad then rdRun k D i else rdStep k i (rdRun k D i)
def rdAll (k : Nat) (D : Dk) : RdS := rdRun k D 2

theorem rdRun_secs (k : Nat) (D : Dk) : ∀ i, (rdRun k D i).D.secs = D.secs
  | 0 => rfl
  | i + 1 => by
    unfold rdRun
    split
    · exact rdRun_secs k D i
    · unfold rdStep
      simp only
      split <;> (simp only; rw [slRun_secs]; exact rdRun_secs k D i)
theorem rdRun_nw (k : Nat) (D : Dk) : ∀ i, 0 ≤ (rdRun k D i).nw ∧ (rdRun k D i).nw < 18446744073709551616
  | 0 => ⟨by simp [rdRun, rdInit], by simp [rdRun, rdInit]⟩
  | i + 1 => by
    unfold rdRun
    split
    · exact rdRun_nw k D i
    · unfold rdStep
      simp only
      split
      · simp
      · exact slRun_nw _ _ (rdRun_nw k D i) _

structure RdW (B : Nat) (w0 : World) (d sb : Nat) (osl : Value) (s k : Nat) (R : RdS) (W : World) : Prop where
  p0 : Blk W w0.heap.size (snapV 0 []) TSnap
  p1 : Blk W (w0.heap.size + 1) (snapV R.out.1 R.out.2) TSnap
  ps : Blk W s (slotsV d 0 k false R.nw (-1)) TSlots
  pd : DiskIn B W d sb osl R.D
  fr : Fr B [TDisk, TSlots] w0 W
  hB : B ≤ s
  lt : s < w0.heap.size

theorem slRd_nil (w : World) : Calls Tryz.prog 22 #[.pointer none] w fun e w' => e = .returned (.tuple #[.agg (snapV 0 []).toArray, .bool false, .int .i64 1]) ∧ Fr w.heap.size [] w w' := by
  go_enter Tryz.func22, Tryz.ntmps22
  go_wp2
  refine bodyPost_ret (v := .tuple #[.agg (snapV 0 []).toArray, .bool false, .int .i64 1]) (by simp [results, Tryz.results22, go_sem]; rfl) rfl ⟨rfl, ?_⟩
  exact (Fr.refl _ _ _).alloc _

set_option maxRecDepth 100000 in
set_option maxHeartbeats 4000000 in
theorem slRd_key {B d sb s k : Nat} {osl : Value} {D : Dk} {w : World} {rd : Bool} {nw last : Int} (hD : DiskIn B w d sb osl D) (hS : Blk w s (slotsV d 0 k rd nw last) TSlots) (hbs : B ≤ s) (hk : k ≤ 64) (hlen : 2 * k ≤ D.secs.length) (Po : Ending → World → Prop)
    (hPo : ∀ e w', (e = .returned (if (rdAll k D).bad then .tuple #[.agg (snapV 0 []).toArray, .bool false, .int .i64 18] else .tuple #[.agg (snapV (rdAll k D).out.1 (rdAll k D).out.2).toArray, .bool (((rdAll k D).out.1 != 0) || ((rdAll k D).out.2 != [])), .int .i64 0]) ∧
      DiskIn B w' d sb osl (rdAll k D).D ∧ Blk w' s (slotsV d 0 k (!(rdAll k D).bad) (rdAll k D).nw (if (rdAll k D).bad then -1 else (rdAll k D).last)) TSlots ∧ Fr B [TDisk, TSlots] w w') → Po e w') : Calls Tryz.prog 22 #[dp s] w Po := by
  have hPo := Lib.hid hPo
  have hlt := hS.lt
  have f3 := hS.free 3
  have f4 := hS.free 4
  have f5 := hS.free 5
  have c3 := hS.cell 3
  have c4 := hS.cell 4
  have c5 := hS.cell 5
  simp only [slotsV, List.getElem?_cons_zero, List.getElem?_cons_succ] at c3 c4 c5
  go_enter Tryz.func22, Tryz.ntmps22
  go_wp2
  go_loopw [23, 6] (fun p q wr => ∃ i : Nat, i ≤ 2 ∧ p = .int .i64 i ∧ q = .int .i64 (rdRun k D i).last ∧ (rdRun k D i).bad = false ∧ RdW B w d sb osl s k (rdRun k D i) wr) (fun p _ _ => 2 - (intOf p).toNat)
  case atStart =>
    refine ⟨0, by omega, rfl, rfl, rfl, ?_⟩
    have hb := ((hS.set 3 (.bool false)).set 4 (.int .u64 0)).set 5 (.int .i64 (-1))
    have hf1 : Fr B [TSlots] w (((w.setCell ⟨s, 3, none⟩ (.bool false)).setCell ⟨s, 4, none⟩ (.int .u64 0)).setCell ⟨s, 5, none⟩ (.int .i64 (-1))) := (((Fr.refl _ _ _).setB hbs hS (by simp) _).setB hbs hS (by simp) _).setB hbs hS (by simp) _
    have hf : Fr B [TSlots] w (((((w.setCell ⟨s, 3, none⟩ (.bool false)).setCell ⟨s, 4, none⟩ (.int .u64 0)).setCell ⟨s, 5, none⟩ (.int .i64 (-1))).alloc (.cells #[.int .u64 0, .string ⟨#[]⟩] 55)).alloc (.cells #[.int .u64 0, .string ⟨#[]⟩] 55)) := (hf1.alloc _).alloc _
    refine ⟨?_, ?_, (hb.alloc _).alloc _, hD.fr hf (by decide) (by decide) (by decide), hf.mono (Nat.le_refl _) (by simp), hbs, hlt⟩
    · exact Blk.alloc (Blk.newAt _ _ _ (by simp)) _
    · exact Blk.newAt _ _ _ (by simp)
  case round =>
    obtain ⟨i, hi, rfl, rfl, hnb, hR⟩ := hrel
    obtain ⟨R, hRe⟩ : ∃ R, rdRun k D i = R := ⟨_, rfl⟩
    have hsec := rdRun_secs k D i
    have hnw := rdRun_nw k D i
    rw [hRe] at hnb hR hsec hnw ⊢
    have hbs2 := hR.lt
    by_cases hlt2 : i < 2
    · have hnext : rdRun k D (i + 1) = rdStep k i R := by rw [rdRun, hRe, hnb]; rfl
      have hm : i * k ≤ k := by
        have := Nat.mul_le_mul (show i ≤ 1 by omega) (Nat.le_refl k)
        omega
      have hSl := slot_any (j := i) hR.pd hR.ps hR.hB hk (by omega) (by rw [hsec]; omega) hnw
      obtain ⟨S, hSe⟩ : ∃ S, slRun (i * k) k (slInit R.D R.nw) = S := ⟨_, rfl⟩
      rw [hSe, slOut_val] at hSl
      unfold snapV at hSl
      have hst : rdStep k i R = if S.bad then { R with D := S.D, nw := 0, bad := true } else { D := S.D, nw := S.nw, out := if rdTake R S then slVal S else R.out, last := if rdTake R S then i else R.last, bad := false } := by unfold rdStep; simp only [hSe]
      have HN := Lib.hid (hnext.trans hst)
      have HSl := Lib.hid hSl
      clear hnext hst hSl
      obtain ⟨v1, hv1⟩ : ∃ v1, (slVal S).1 = v1 := ⟨_, rfl⟩
      obtain ⟨v2, hv2⟩ : ∃ v2, (slVal S).2 = v2 := ⟨_, rfl⟩
      rw [hv1, hv2] at HSl
      have HV1 := Lib.hid hv1
      have HV2 := Lib.hid hv2
      have HT : Hid (rdTake R S = ((v1 != 0) && decide (R.out.1 ≤ v1))) := by
        show _ = _
        unfold rdTake
        rw [hv1]
      clear hv1 hv2
      cases hbd : S.bad with
      | true =>
        simp only [hbd, if_true] at HSl HN
        go_wp2_with (go_at_call 36; refine HSl.out.mono ?_; rintro e w1 ⟨rfl, hD1, hS1, hF1⟩
                     have hb0 := hR.p0.fr hF1 (by decide)
                     have hb1 := hR.p1.fr hF1 (by decide)
                     have hgt := hb1.lt
                     have q0 := hb0.alloc (.cells #[.int .u64 v1, .string (BA v2)] 55)
                     have q1 := hb1.alloc (.cells #[.int .u64 v1, .string (BA v2)] 55)
                     have qs := hS1.alloc (.cells #[.int .u64 v1, .string (BA v2)] 55)
                     have q8 := Blk.new w1 [.int .u64 v1, .string (BA v2)] 55
                     have a0 := q0.cell 0
                     have a1 := q0.cell 1
                     have a2 := q0.free 0
                     have a3 := q0.free 1
                     have a4 := q1.cell 0
                     have a5 := q1.cell 1
                     have a6 := q1.free 0
                     have a7 := q1.free 1
                     have a8 := q8.cell 0
                     have a9 := q8.cell 1
                     have f4 := qs.free 4
                     have c4 := qs.cell 4
                     simp only [slotsV, snapV, List.getElem?_cons_zero, List.getElem?_cons_succ] at c4 a0 a1 a4 a5 a8 a9)
        refine bodyPost_ret (v := .tuple #[.agg (snapV 0 []).toArray, .bool false, .int .i64 18]) (by simp [results, Tryz.results22, go_sem, a0, a1]; rfl) rfl (hPo.out _ _ ?_)
        have hall : rdAll k D = { R with D := S.D, nw := 0, bad := true } := by
          unfold rdAll
          rcases (show i = 0 ∨ i = 1 by omega) with rfl | rfl
          · rw [rdRun, if_pos (by rw [HN.out]), HN.out]
          · rw [HN.out]
        rw [hall]
        have hfA : Fr B [TSlots, TSnap] w1 ((((w1.alloc (.cells #[.int .u64 v1, .string (BA v2)] 55)).setCell ⟨s, 4, none⟩ (.int .u64 0)).setCell ⟨w.heap.size, 0, none⟩ (.int .u64 0)).setCell ⟨w.heap.size, 1, none⟩ (.string ⟨#[]⟩)) := ((((Fr.refl _ _ _).alloc _).setB hbs hS1 (by simp) _).setB (by omega) hb0 (by simp) _).setB (by omega) hb0 (by simp) _
        refine ⟨rfl, hD1.fr hfA (by decide) (by decide) (by decide), ?_, ?_⟩
        · exact ((qs.set 4 (.int .u64 0)).other (by simp; omega) _).other (by simp; omega) _
        · have h1 := hR.fr.trans hF1
          exact ((((h1.alloc _).setB hbs hS (by simp) _).setNew (by simp) _).setNew (by simp) _)
      | false =>
        simp only [hbd, Bool.false_eq_true, if_false] at HSl HN
        by_cases h0 : v1 = 0
        · subst h0
          have hT : rdTake R S = false := by rw [HT.out]; rfl
          rw [hT] at HN
          go_wp2_with (go_at_call 36; refine HSl.out.mono ?_; rintro e w1 ⟨rfl, hD1, hS1, hF1⟩
                       have hb0 := hR.p0.fr hF1 (by decide)
                       have hb1 := hR.p1.fr hF1 (by decide)
                       have hgt := hb1.lt
                       have q0 := hb0.alloc (.cells #[.int .u64 0, .string (BA v2)] 55)
                       have q1 := hb1.alloc (.cells #[.int .u64 0, .string (BA v2)] 55)
                       have qs := hS1.alloc (.cells #[.int .u64 0, .string (BA v2)] 55)
                       have q8 := Blk.new w1 [.int .u64 0, .string (BA v2)] 55
                       have a0 := q0.cell 0
                       have a1 := q0.cell 1
                       have a2 := q0.free 0
                       have a3 := q0.free 1
                       have a4 := q1.cell 0
                       have a5 := q1.cell 1
                       have a6 := q1.free 0
                       have a7 := q1.free 1
                       have a8 := q8.cell 0
                       have a9 := q8.cell 1
                       have f4 := qs.free 4
                       have c4 := qs.cell 4
                       simp only [slotsV, snapV, List.getElem?_cons_zero, List.getElem?_cons_succ] at c4 a0 a1 a4 a5 a8 a9)
          go_roundw
          case rel =>
            refine ⟨i + 1, by omega, by go_num, by rw [HN.out]; rfl, by rw [HN.out], ?_⟩
            rw [HN.out]
            have hfA : Fr B [TDisk, TSlots] wr (w1.alloc (.cells #[.int .u64 0, .string (BA v2)] 55)) := hF1.alloc _
            exact ⟨q0, q1, qs, hD1.fr ((Fr.refl B [] w1).alloc _) (by decide) (by decide) (by decide), hR.fr.trans hfA, hbs, hlt⟩
          case measure => simp [intOf]; omega
        · by_cases hge : R.out.1 ≤ v1
          · have hT : rdTake R S = true := by rw [HT.out]; simp [h0, hge]
            rw [hT] at HN
            go_wp2_with (go_at_call 36; refine HSl.out.mono ?_; rintro e w1 ⟨rfl, hD1, hS1, hF1⟩
                         have hb0 := hR.p0.fr hF1 (by decide)
                         have hb1 := hR.p1.fr hF1 (by decide)
                         have hgt := hb1.lt
                         have q0 := hb0.alloc (.cells #[.int .u64 v1, .string (BA v2)] 55)
                         have q1 := hb1.alloc (.cells #[.int .u64 v1, .string (BA v2)] 55)
                         have qs := hS1.alloc (.cells #[.int .u64 v1, .string (BA v2)] 55)
                         have q8 := Blk.new w1 [.int .u64 v1, .string (BA v2)] 55
                         have a0 := q0.cell 0
                         have a1 := q0.cell 1
                         have a2 := q0.free 0
                         have a3 := q0.free 1
                         have a4 := q1.cell 0
                         have a5 := q1.cell 1
                         have a6 := q1.free 0
                         have a7 := q1.free 1
                         have a8 := q8.cell 0
                         have a9 := q8.cell 1
                         have b4 := hb1.cell 0
                         have b5 := hb1.cell 1
                         have b6 := hb1.free 0
                         have b7 := hb1.free 1
                         have f4 := qs.free 4
                         have c4 := qs.cell 4
                         simp only [slotsV, snapV, List.getElem?_cons_zero, List.getElem?_cons_succ] at c4 a0 a1 a4 a5 a8 a9 b4 b5)
            go_roundw
            case rel =>
              refine ⟨i + 1, by omega, by go_num, by rw [HN.out]; rfl, by rw [HN.out], ?_⟩
              rw [HN.out]
              have hfA : Fr B [TSnap] w1 (((w1.setCell ⟨w.heap.size + 1, 0, none⟩ (.int .u64 v1)).setCell ⟨w.heap.size + 1, 1, none⟩ (.string (BA v2))).alloc (.cells #[.int .u64 v1, .string (BA v2)] 55)) := (((Fr.refl _ _ _).setB (by omega) hb1 (by simp) _).setB (by omega) hb1 (by simp) _).alloc _
              refine ⟨((hb0.other (by simp) _).other (by simp) _).alloc _, ?_, ((hS1.other (by simp; omega) _).other (by simp; omega) _).alloc _, hD1.fr hfA (by decide) (by decide) (by decide), (((hR.fr.trans hF1).setNew (by simp) _).setNew (by simp) _).alloc _, hbs, hlt⟩
              have := ((hb1.set 0 (.int .u64 v1)).set 1 (.string (BA v2))).alloc (.cells #[.int .u64 v1, .string (BA v2)] 55)
              simpa [snapV, HV1.out, HV2.out] using this
            case measure => simp [intOf]; omega
          · have hT : rdTake R S = false := by rw [HT.out]; simp [hge]
            rw [hT] at HN
            have hlt3 : v1 < R.out.1 := by omega
            go_wp2_with (go_at_call 36; refine HSl.out.mono ?_; rintro e w1 ⟨rfl, hD1, hS1, hF1⟩
                         have hb0 := hR.p0.fr hF1 (by decide)
                         have hb1 := hR.p1.fr hF1 (by decide)
                         have hgt := hb1.lt
                         have q0 := hb0.alloc (.cells #[.int .u64 v1, .string (BA v2)] 55)
                         have q1 := hb1.alloc (.cells #[.int .u64 v1, .string (BA v2)] 55)
                         have qs := hS1.alloc (.cells #[.int .u64 v1, .string (BA v2)] 55)
                         have q8 := Blk.new w1 [.int .u64 v1, .string (BA v2)] 55
                         have a0 := q0.cell 0
                         have a1 := q0.cell 1
                         have a2 := q0.free 0
                         have a3 := q0.free 1
                         have a4 := q1.cell 0
                         have a5 := q1.cell 1
                         have a6 := q1.free 0
                         have a7 := q1.free 1
                         have a8 := q8.cell 0
                         have a9 := q8.cell 1
                         have f4 := qs.free 4
                         have c4 := qs.cell 4
                         simp only [slotsV, snapV, List.getElem?_cons_zero, List.getElem?_cons_succ] at c4 a0 a1 a4 a5 a8 a9)
            go_roundw
            case rel =>
              refine ⟨i + 1, by omega, by go_num, by rw [HN.out]; rfl, by rw [HN.out], ?_⟩
              rw [HN.out]
              have hfA : Fr B [TDisk, TSlots] wr (w1.alloc (.cells #[.int .u64 v1, .string (BA v2)] 55)) := hF1.alloc _
              exact ⟨q0, q1, qs, hD1.fr ((Fr.refl B [] w1).alloc _) (by decide) (by decide) (by decide), hR.fr.trans hfA, hbs, hlt⟩
            case measure => simp [intOf]; omega
    · have : i = 2 := by omega
      subst this
      have e3 := hR.ps.cell 3
      have e5 := hR.ps.cell 5
      have g3 := hR.ps.free 3
      have g5 := hR.ps.free 5
      simp only [slotsV, List.getElem?_cons_zero, List.getElem?_cons_succ] at e3 e5
      go_wp2
      have hp1 := ((hR.p1.other (p := ⟨s, 3, none⟩) (by simp; omega) (.bool true)).other (p := ⟨s, 5, none⟩) (by simp; omega) (.int .i64 R.last)).alloc (.cells #[.int .u64 0, .string ⟨#[]⟩] 55)
      have hp0 := ((hR.p0.other (p := ⟨s, 3, none⟩) (by simp; omega) (.bool true)).other (p := ⟨s, 5, none⟩) (by simp; omega) (.int .i64 R.last)).alloc (.cells #[.int .u64 0, .string ⟨#[]⟩] 55)
      have hp10 := Blk.newAt ((wr.setCell ⟨s, 3, none⟩ (.bool true)).setCell ⟨s, 5, none⟩ (.int .i64 R.last)) [.int .u64 0, .string ⟨#[]⟩] 55 (b := wr.heap.size) (by simp)
      have hps := ((hR.ps.set 3 (.bool true)).set 5 (.int .i64 R.last)).alloc (.cells #[.int .u64 0, .string ⟨#[]⟩] 55)
      have hfA : Fr B [TSlots] wr ((((wr.setCell ⟨s, 3, none⟩ (.bool true)).setCell ⟨s, 5, none⟩ (.int .i64 R.last)).alloc (.cells #[.int .u64 0, .string ⟨#[]⟩] 55))) := (((Fr.refl _ _ _).setB hbs hR.ps (by simp) _).setB hbs hR.ps (by simp) _).alloc _
      have hfB := hR.fr.trans (hfA.mono (ts' := [TDisk, TSlots]) (Nat.le_refl _) (by simp))
      have hdA := hR.pd.fr hfA (by decide) (by decide) (by decide)
      obtain ⟨W5, hW5⟩ : ∃ W5, (((wr.setCell ⟨s, 3, none⟩ (.bool true)).setCell ⟨s, 5, none⟩ (.int .i64 R.last)).alloc (.cells #[.int .u64 0, .string ⟨#[]⟩] 55)) = W5 := ⟨_, rfl⟩
      rw [hW5] at hp1 hp0 hp10 hps hfB hdA ⊢
      clear hfA hW5
      have a0 := hp1.cell 0
      have a1 := hp1.cell 1
      have a2 := hp10.cell 0
      have a3 := hp10.cell 1
      have a4 := hp0.cell 0
      have a5 := hp0.cell 1
      have a6 := hp0.free 0
      have a7 := hp0.free 1
      simp only [snapV, List.getElem?_cons_zero, List.getElem?_cons_succ] at a0 a1 a2 a3 a4 a5
      have hlp := hR.p1.lt
      have hne1 : wr.heap.size ≠ w.heap.size := by omega
      have hne2 : w.heap.size ≠ wr.heap.size := by omega
      by_cases hz : R.out.1 = 0 <;> by_cases hz2 : R.out.2 = []
      all_goals
        go_region
        go_wp2
        have hq0 := ((hp0.set 0 (.int .u64 R.out.1)).set 1 (.string (BA R.out.2))).drew
        have hfC : Fr B [TSnap] W5 (((W5.setCell ⟨w.heap.size, 0, none⟩ (.int .u64 R.out.1)).setCell ⟨w.heap.size, 1, none⟩ (.string (BA R.out.2))).drew) := (((Fr.refl _ _ _).setB (by omega) hp0 (by simp) _).setB (by omega) hp0 (by simp) _).drew
        have hfD := ((hfB.setNew (p := ⟨w.heap.size, 0, none⟩) (by simp) (.int .u64 R.out.1)).setNew (p := ⟨w.heap.size, 1, none⟩) (by simp) (.string (BA R.out.2))).drew
        have hdC := hdA.fr hfC (by decide) (by decide) (by decide)
        have hpC := hps.fr hfC (by decide)
        have r0 := hq0.cell 0
        have r1 := hq0.cell 1
        simp only [snapV, List.set_cons_zero, List.set_cons_succ, List.getElem?_cons_zero, List.getElem?_cons_succ] at r0 r1
        try simp only [hz] at r0 r1 hdC hpC hfD
        try simp only [hz2] at r0 r1 hdC hpC hfD
        refine bodyPost_ret (v := .tuple #[.agg (snapV R.out.1 R.out.2).toArray, .bool ((R.out.1 != 0) || (R.out.2 != [])), .int .i64 0]) ?_ rfl (hPo.out _ _ ?_)
        · simp [results, Tryz.results22, go_sem, r0, r1, hz, hz2, snapV]
          try rfl
        · have hall : rdAll k D = R := hRe
          rw [hall, hnb]
          refine ⟨rfl, hdC, ?_, hfD⟩
          simpa [slotsV] using hpC

theorem slRd_any {B d sb s k : Nat} {osl : Value} {D : Dk} {w : World} {rd : Bool} {nw last : Int} (hD : DiskIn B w d sb osl D) (hS : Blk w s (slotsV d 0 k rd nw last) TSlots) (hbs : B ≤ s) (hk : k ≤ 64) (hlen : 2 * k ≤ D.secs.length) :
    Calls Tryz.prog 22 #[dp s] w fun e w' =>
      e = .returned (if (rdAll k D).bad then .tuple #[.agg (snapV 0 []).toArray, .bool false, .int .i64 18] else .tuple #[.agg (snapV (rdAll k D).out.1 (rdAll k D).out.2).toArray, .bool (((rdAll k D).out.1 != 0) || ((rdAll k D).out.2 != [])), .int .i64 0]) ∧
      DiskIn B w' d sb osl (rdAll k D).D ∧ Blk w' s (slotsV d 0 k (!(rdAll k D).bad) (rdAll k D).nw (if (rdAll k D).bad then -1 else (rdAll k D).last)) TSlots ∧ Fr B [TDisk, TSlots] w w' := slRd_key hD hS hbs hk hlen _ (fun _ _ h => h)
end Go.Proofs.YtkeamfdceehliaaGreatDoor

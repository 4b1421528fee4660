/- The journal: Open. -/
import Derived.Test.YtkeamfdceehliaaGreatDoorJour5
namespace Go.Proofs.YtkeamfdceehliaaGreatDoor
open Go.RowKit
attribute [local go_sem] BA_size BA_extract BA_append BA_toList

abbrev TFound : Nat := 33

theorem open_nil (w : World) : Calls Tryz.prog 12 #[.pointer none, .int .i64 1] w fun r w' => r = .returned (.tuple #[.pointer none, .agg #[.string ⟨#[]⟩, .slice none 0 0], .int .i64 1]) ∧ Fr w.heap.size [] w w' := by
  have hM := Lib.hid (fun w => made_nil w)
  go_enter Tryz.func12, Tryz.ntmps12
  go_wp2_with (go_at_call 21; refine (hM.out _).mono ?_; rintro r w' ⟨rfl, rfl⟩)
  refine bodyPost_ret (v := .tuple #[.pointer none, .agg #[.string ⟨#[]⟩, .slice none 0 0], .int .i64 1]) (by simp [results, Tryz.results12, go_sem]) rfl ⟨rfl, (Fr.refl _ _ _).alloc _⟩

/-- The disk once it is flushed. -/
def flushed (D : Dk) : Dk := { D.tick with secs := Dk.lay D.secs D.opens, opens := [] }

/-- What Open finds: its error (0: none), and what it leaves of the disk. -/
def opAll (k n : Nat) (D : Dk) : Int × Dk :=
  if D.bad then (18, D.tick) else if (rdAll k (flushed D)).bad then (18, (rdAll k (flushed D)).D) else if (rdAll k (flushed D)).out.1 = 0 then (12, (rdAll k (flushed D)).D)
  else ((scRun (2 * k) (rdAll k (flushed D)).out.1 n [] (rdAll k (flushed D)).D).2.1, (scRun (2 * k) (rdAll k (flushed D)).out.1 n [] (rdAll k (flushed D)).D).2.2)

structure OpenPo (B : Nat) (w : World) (d sb k n : Nat) (D : Dk) (Po : Ending → World → Prop) : Prop where
  no : ∀ w' er osl', er ≠ 0 → opAll k n D = (er, (opAll k n D).2) → DiskIn B w' d sb osl' (opAll k n D).2 → Fr B [TDisk, TSec, TSlots, TLog] w w' → Po (.returned (.tuple #[.pointer none, .agg #[.string ⟨#[]⟩, .slice none 0 0], .int .i64 er])) w'
  yes : ∀ w' j b s v, opAll k n D = (0, (opAll k n D).2) → (rdAll k (flushed D)).out.1 ≠ 0 → DiskIn B w' d sb (.slice none 0 0) (opAll k n D).2 →
    JourIn B w' d j b s k n true (rdAll k (flushed D)).nw (rdAll k (flushed D)).last (some ((rdAll k (flushed D)).out.1, (scRun (2 * k) (rdAll k (flushed D)).out.1 n [] (rdAll k (flushed D)).D).1.length)) true (rdAll k (flushed D)).out.1 →
    w'.ownsRow w.heap.size 9 1 v (scRun (2 * k) (rdAll k (flushed D)).out.1 n [] (rdAll k (flushed D)).D).1.length (strsV (scRun (2 * k) (rdAll k (flushed D)).out.1 n [] (rdAll k (flushed D)).D).1) → Fr B [TDisk, TSec, TSlots, TLog, TJour] w w' →
    Po (.returned (.tuple #[dp j, .agg #[.string (BA (rdAll k (flushed D)).out.2), v], .int .i64 0])) w'

theorem rdRun_out (k : Nat) (D : Dk) : ∀ i, (rdRun k D i).out.1 = 0 → (rdRun k D i).out.2 = []
  | 0, _ => rfl
  | i + 1, h => by
    unfold rdRun at h ⊢
    split at h
    · rename_i hb
      rw [if_pos hb]
      exact rdRun_out k D i h
    · rename_i hb
      rw [if_neg hb]
      unfold rdStep at h ⊢
      simp only at h ⊢
      split at h
      · rename_i hs
        rw [if_pos hs]
        exact rdRun_out k D i h
      · rename_i hs
        rw [if_neg hs]
        simp only at h ⊢
        split at h
        · rename_i ht
          unfold rdTake at ht
          rw [h] at ht
          simp at ht
        · rename_i ht
          rw [if_neg ht]
          exact rdRun_out k D i h

theorem owns_low {w : World} {B B' e size n : Nat} {v : Value} {xs : List Value} (h : w.ownsRow B e size v n xs) (hB : B' ≤ B) : w.ownsRow B' e size v n xs := by
  obtain ⟨h1, h2⟩ := h
  exact ⟨h1, h2.elim .inl (fun ⟨g, cap, cur, hv, hg, r⟩ => .inr ⟨g, cap, cur, hv, Nat.le_trans hB hg, r⟩)⟩
theorem openEnd {B d sb : Nat} {osl : Value} {D : Dk} {w w1 : World} (hB : B ≤ w.heap.size) (hF : Blk w1 w.heap.size [.string ⟨#[]⟩, .slice none 0 0] TFound) (hd : DiskIn B w1 d sb osl D) (hf : Fr B [TDisk, TSec, TSlots, TLog] w w1) (er : Int) (Po : Ending → World → Prop)
    (hPo : ∀ w' osl', DiskIn B w' d sb osl' D → Fr B [TDisk, TSec, TSlots, TLog] w w' → Po (.returned (.tuple #[.pointer none, .agg #[.string ⟨#[]⟩, .slice none 0 0], .int .i64 er])) w') :
    Po (.returned (.tuple #[.pointer none, .agg #[.string ⟨#[]⟩, .slice none 0 0], .int .i64 er])) ((w1.setCell ⟨w.heap.size, 0, none⟩ (.string ⟨#[]⟩)).setCell ⟨w.heap.size, 1, none⟩ (.slice none 0 0)) := by
  have h1 : Fr B [TFound] w1 (w1.setCell ⟨w.heap.size, 0, none⟩ (.string ⟨#[]⟩)) := (Fr.refl _ _ _).setB hB hF (by simp) _
  have h2 : Fr B [TFound] w1 ((w1.setCell ⟨w.heap.size, 0, none⟩ (.string ⟨#[]⟩)).setCell ⟨w.heap.size, 1, none⟩ (.slice none 0 0)) := h1.setB hB hF (by simp) _
  exact hPo _ osl (hd.fr h2 (by decide) (by decide) (by decide)) ((hf.setNew (Nat.le_refl _) _).setNew (Nat.le_refl _) _)

set_option maxHeartbeats 8000000 in
theorem open_all {B d sb k n : Nat} {osl : Value} {D : Dk} {w : World} (hD : DiskIn B w d sb osl D) (hB : B ≤ w.heap.size) (h1 : 1 ≤ k) (h2 : k ≤ 64) (hn1 : 1 ≤ n) (hn2 : D.secs.length = 2 * k + n) (Po : Ending → World → Prop) (hPo : OpenPo B w d sb k n D Po) :
    Calls Tryz.prog 12 #[dp d, .int .i64 k] w Po := by
  have hPo := Lib.hid hPo
  obtain ⟨Wz, hWz⟩ : ∃ Wz, w.alloc (.cells #[.string ⟨#[]⟩, .slice none 0 0] TFound) = Wz := ⟨_, rfl⟩
  have hfz : Fr B [] w Wz := by rw [← hWz]; exact (Fr.refl _ _ _).alloc _
  have hsz : Wz.heap.size = w.heap.size + 1 := by rw [← hWz]; simp
  have hFz : Blk Wz w.heap.size [.string ⟨#[]⟩, .slice none 0 0] TFound := by rw [← hWz]; exact Blk.new _ _ _
  have hdz := hD.fr hfz (by decide) (by decide) (by decide)
  have hM := made_ok hdz k h1 h2 (by omega)
  rw [show D.secs.length - 2 * k = n by omega, hsz] at hM
  obtain ⟨W0, hW0⟩ : ∃ W0, ((Wz.alloc (.cells (slotsV d 0 k false 0 (-1)).toArray TSlots)).alloc (.cells (logV d (2 * k) n none).toArray TLog)).alloc (.cells (jourV (w.heap.size + 1 + 1) (w.heap.size + 1) false 0).toArray TJour) = W0 := ⟨_, rfl⟩
  rw [hW0] at hM
  have hM := Lib.hid hM
  have hf0 : Fr B [] Wz W0 := by rw [← hW0]; exact (((Fr.refl _ _ _).alloc _).alloc _).alloc _
  have hS0 : Blk W0 (w.heap.size + 1) (slotsV d 0 k false 0 (-1)) TSlots := by rw [← hW0]; exact Blk.alloc (Blk.alloc (Blk.newAt _ _ _ hsz.symm) _) _
  have hL0 : Blk W0 (w.heap.size + 1 + 1) (logV d (2 * k) n none) TLog := by rw [← hW0]; exact Blk.alloc (Blk.newAt _ _ _ (by simp [hsz])) _
  have hJ0 : Blk W0 (w.heap.size + 1 + 2) (jourV (w.heap.size + 1 + 1) (w.heap.size + 1) false 0) TJour := by rw [← hW0]; exact Blk.newAt _ _ _ (by simp [hsz])
  have hF0 := hFz.fr hf0 (by decide)
  have hd0 := hdz.fr hf0 (by decide) (by decide) (by decide)
  have hfw0 : Fr B [] w W0 := hfz.trans hf0
  clear hW0 hdz hFz hD hf0
  cases hfb : D.bad with
  | true =>
    have hFl := Lib.hid (flush_bad hd0 hfb)
    have hop : opAll k n D = (18, D.tick) := by unfold opAll; rw [if_pos hfb]
    have hPo := Lib.hid (fun w' osl' hd hf => hPo.out.no w' 18 osl' (by decide) (by rw [hop]) hd hf)
    rw [hop] at hPo
    clear hop hfb hn2
    go_enter Tryz.func12, Tryz.ntmps12
    go_wp2_with (first
      | (go_at_call 21; refine hM.out.mono ?_; rintro r W0 ⟨rfl, rfl⟩)
      | (go_at_call 28; refine hFl.out.mono ?_; rintro r w1 ⟨rfl, hd1, hf1⟩
         have hF1 := hF0.fr hf1 (by decide)
         have z0 := hF1.cell 0
         have z1 := hF1.cell 1
         have y0 := hF1.free 0
         have y1 := hF1.free 1
         simp only [List.getElem?_cons_zero, List.getElem?_cons_succ] at z0 z1))
    refine bodyPost_ret (v := .tuple #[.pointer none, .agg #[.string ⟨#[]⟩, .slice none 0 0], .int .i64 18]) (by simp [results, Tryz.results12, go_sem, z0, z1]) rfl ?_
    exact openEnd hB hF1 hd1 ((hfw0.mono (Nat.le_refl _) (by simp)).trans (hf1.mono (Nat.le_refl _) (by simp))) 18 Po hPo.out
  | false =>
    have hFl := flush_ok hd0 hfb
    rw [show ({ D.tick with secs := Dk.lay D.secs D.opens, opens := [] } : Dk) = flushed D from rfl] at hFl
    have hFl := Lib.hid hFl
    have hsl : (flushed D).secs.length = D.secs.length := lay_len _ _
    have hop : opAll k n D = if (rdAll k (flushed D)).bad then (18, (rdAll k (flushed D)).D) else if (rdAll k (flushed D)).out.1 = 0 then (12, (rdAll k (flushed D)).D)
      else ((scRun (2 * k) (rdAll k (flushed D)).out.1 n [] (rdAll k (flushed D)).D).2.1, (scRun (2 * k) (rdAll k (flushed D)).out.1 n [] (rdAll k (flushed D)).D).2.2) := by unfold opAll; rw [if_neg (by simp [hfb])]
    clear hfb hd0
    obtain ⟨D1, hD1⟩ : ∃ D1, flushed D = D1 := ⟨_, rfl⟩
    have hPo := hPo.out
    obtain ⟨hno, hyes⟩ := hPo
    rw [hD1] at hFl hsl hop hyes
    have hRs : (rdAll k D1).D.secs = D1.secs := rdRun_secs k D1 2
    have hRd := fun (W : World) (hd : DiskIn B W d sb (.slice none 0 0) D1) (hs : Blk W (w.heap.size + 1) (slotsV d 0 k false 0 (-1)) TSlots) => slRd_any hd hs (show B ≤ w.heap.size + 1 by omega) h2 (by omega)
    have hz2 : (rdAll k D1).out.1 = 0 → (rdAll k D1).out.2 = [] := rdRun_out k D1 2
    obtain ⟨R, hR⟩ : ∃ R, rdAll k D1 = R := ⟨_, rfl⟩
    rw [hR] at hRd hop hyes hRs hz2
    clear hD1 hR
    cases hbad : R.bad with
    | true =>
      rw [hbad] at hRd hop
      simp only [if_true, Bool.not_true] at hRd hop
      have hPo := Lib.hid (fun w' osl' hd hf => hno w' 18 osl' (by decide) (by rw [hop]) hd hf)
      rw [hop] at hPo
      unfold snapV BA at hRd
      have hRd := Lib.hid hRd
      clear hop hno hyes hn2 hsl hRs hbad hz2
      go_enter Tryz.func12, Tryz.ntmps12
      go_wp2_with (first
        | (go_at_call 21; refine hM.out.mono ?_; rintro r W0 ⟨rfl, rfl⟩)
        | (go_at_call 28; refine hFl.out.mono ?_; rintro r w1 ⟨rfl, hd1, hf1⟩
           have hJ1 := hJ0.fr hf1 (by decide)
           have c1 := hJ1.cell 1
           have c0 := hJ1.cell 0
           simp only [jourV, List.getElem?_cons_zero, List.getElem?_cons_succ] at c0 c1))
      have hs1 := hS0.fr hf1 (by decide)
      refine (hRd.out w1 hd1 hs1).mono ?_
      rintro r w2 ⟨rfl, hd2, hs2, hf2⟩
      have hF2 := ((hF0.fr hf1 (by decide)).fr hf2 (by decide)).alloc (.cells #[.int .u64 0, .string ⟨#[]⟩] TSnap)
      have hfA : Fr B [] w2 (w2.alloc (.cells #[.int .u64 0, .string ⟨#[]⟩] TSnap)) := (Fr.refl _ _ _).alloc _
      have hd3 := hd2.fr hfA (by decide) (by decide) (by decide)
      have hfw : Fr B [TDisk, TSec, TSlots, TLog] w _ := (((hfw0.mono (Nat.le_refl _) (by simp)).trans (hf1.mono (Nat.le_refl _) (by simp))).trans (hf2.mono (Nat.le_refl _) (by simp))).trans (hfA.mono (Nat.le_refl _) (by simp))
      clear c0 c1
      have z0 := hF2.cell 0
      have z1 := hF2.cell 1
      have y0 := hF2.free 0
      have y1 := hF2.free 1
      simp only [List.getElem?_cons_zero, List.getElem?_cons_succ] at z0 z1
      go_wp2
      refine bodyPost_ret (v := .tuple #[.pointer none, .agg #[.string ⟨#[]⟩, .slice none 0 0], .int .i64 18]) (by simp [results, Tryz.results12, go_sem, z0, z1]) rfl ?_
      exact openEnd hB hF2 hd3 hfw 18 Po hPo.out
    | false =>
      rw [hbad] at hRd hop
      simp only [Bool.false_eq_true, if_false, Bool.not_false] at hRd hop
      have hSc := Lib.hid (fun (W : World) (hd : DiskIn B W d sb (.slice none 0 0) R.D) (hl : Blk W (w.heap.size + 1 + 1) (logV d (2 * k) n none) TLog) (hz : R.out.1 ≠ 0) => walScan_key hd hl (show B ≤ w.heap.size + 1 + 1 by omega) (show 2 * k + n ≤ R.D.secs.length by rw [hRs, hsl]; omega) hz _ (fun _ _ h => h))
      by_cases hne : R.out.1 = 0
      · rw [hne, hz2 hne] at hRd
        rw [if_pos hne] at hop
        simp only [bne_self_eq_false, Bool.false_or] at hRd
        have hPo := Lib.hid (fun w' osl' hd hf => hno w' 12 osl' (by decide) (by rw [hop]) hd hf)
        rw [hop] at hPo
        unfold snapV BA at hRd
        have hRd := Lib.hid hRd
        clear hop hno hyes hn2 hsl hRs hbad hne hz2 hSc
        go_enter Tryz.func12, Tryz.ntmps12
        go_wp2_with (first
          | (go_at_call 21; refine hM.out.mono ?_; rintro r W0 ⟨rfl, rfl⟩)
          | (go_at_call 28; refine hFl.out.mono ?_; rintro r w1 ⟨rfl, hd1, hf1⟩
             have hJ1 := hJ0.fr hf1 (by decide)
             have c1 := hJ1.cell 1
             have c0 := hJ1.cell 0
             simp only [jourV, List.getElem?_cons_zero, List.getElem?_cons_succ] at c0 c1))
        have hs1 := hS0.fr hf1 (by decide)
        refine (hRd.out w1 hd1 hs1).mono ?_
        rintro r w2 ⟨rfl, hd2, hs2, hf2⟩
        have hF2 := ((hF0.fr hf1 (by decide)).fr hf2 (by decide)).alloc (.cells #[.int .u64 0, .string ⟨#[]⟩] TSnap)
        have hfA : Fr B [] w2 (w2.alloc (.cells #[.int .u64 0, .string ⟨#[]⟩] TSnap)) := (Fr.refl _ _ _).alloc _
        have hd3 := hd2.fr hfA (by decide) (by decide) (by decide)
        have hfw : Fr B [TDisk, TSec, TSlots, TLog] w _ := (((hfw0.mono (Nat.le_refl _) (by simp)).trans (hf1.mono (Nat.le_refl _) (by simp))).trans (hf2.mono (Nat.le_refl _) (by simp))).trans (hfA.mono (Nat.le_refl _) (by simp))
        clear c0 c1
        have z0 := hF2.cell 0
        have z1 := hF2.cell 1
        have y0 := hF2.free 0
        have y1 := hF2.free 1
        simp only [List.getElem?_cons_zero, List.getElem?_cons_succ] at z0 z1
        go_wp2
        refine bodyPost_ret (v := .tuple #[.pointer none, .agg #[.string ⟨#[]⟩, .slice none 0 0], .int .i64 12]) (by simp [results, Tryz.results12, go_sem, z0, z1]) rfl ?_
        exact openEnd hB hF2 hd3 hfw 12 Po hPo.out
      · have hneb : (R.out.1 != 0) = true := by simp [hne]
        simp only [hneb, Bool.true_or] at hRd
        rw [if_neg hne] at hop
        unfold snapV BA at hRd
        have hRd := Lib.hid hRd
        have hNE := Lib.hid hne
        obtain ⟨S, hS⟩ : ∃ S, scRun (2 * k) R.out.1 n [] R.D = S := ⟨_, rfl⟩
        rw [hS] at hSc hop hyes
        by_cases her : S.2.1 = 0
        · have hPo := hyes
          have hPo := Lib.hid (fun w' v hd hj ho hf => hPo w' (w.heap.size + 1 + 2) (w.heap.size + 1 + 1) (w.heap.size + 1) v (by rw [hop, her]) hne hd hj ho hf)
          rw [hop] at hPo
          have hSc := hSc.out
          simp only [if_pos her] at hSc
          rw [her] at hSc
          have hSc := Lib.hid hSc
          clear hop hno hyes hn2 hsl hRs hbad hne hz2 hneb hS her
          go_enter Tryz.func12, Tryz.ntmps12
          go_wp2_with (first
            | (go_at_call 21; refine hM.out.mono ?_; rintro r W0 ⟨rfl, rfl⟩)
            | (go_at_call 28; refine hFl.out.mono ?_; rintro r w1 ⟨rfl, hd1, hf1⟩
               have hJ1 := hJ0.fr hf1 (by decide)
               have c1 := hJ1.cell 1
               have c0 := hJ1.cell 0
               simp only [jourV, List.getElem?_cons_zero, List.getElem?_cons_succ] at c0 c1))
          have hs1 := hS0.fr hf1 (by decide)
          refine (hRd.out w1 hd1 hs1).mono ?_
          rintro r w2 ⟨rfl, hd2, hs2, hf2⟩
          have hJ2 := hJ1.fr hf2 (by decide)
          have hX2 := Blk.new w2 [.int .u64 R.out.1, .string ⟨R.out.2.toArray⟩] TSnap
          have hL2 := ((hL0.fr hf1 (by decide)).fr hf2 (by decide)).alloc (.cells #[.int .u64 R.out.1, .string ⟨R.out.2.toArray⟩] TSnap)
          have hF2 := ((hF0.fr hf1 (by decide)).fr hf2 (by decide)).alloc (.cells #[.int .u64 R.out.1, .string ⟨R.out.2.toArray⟩] TSnap)
          have hfA : Fr B [] w2 (w2.alloc (.cells #[.int .u64 R.out.1, .string ⟨R.out.2.toArray⟩] TSnap)).drew := ((Fr.refl _ _ _).alloc _).drew
          have hd3 := hd2.fr hfA (by decide) (by decide) (by decide)
          have hfw : Fr B [TDisk, TSec, TSlots, TLog] w _ := (((hfw0.mono (Nat.le_refl _) (by simp)).trans (hf1.mono (Nat.le_refl _) (by simp))).trans (hf2.mono (Nat.le_refl _) (by simp))).trans (hfA.mono (Nat.le_refl _) (by simp))
          clear c0 c1
          have c0 := hJ2.cell 0
          have y0 := hX2.cell 0
          have c0a := (hJ2.alloc (.cells #[.int .u64 R.out.1, .string ⟨R.out.2.toArray⟩] TSnap)).cell 0
          simp only [jourV, List.getElem?_cons_zero] at c0 c0a y0
          go_wp2
          go_region_with (go_at_call 29; refine (hSc.out _ hd3 hL2.drew hNE.out).mono ?_; rintro r w4 ⟨v, rfl, ho4, hd4, hl4, hf4⟩)
          all_goals
            have hv : ∃ a cap, v = .slice a S.1.length cap := by
              rcases ho4.2 with ⟨hv, h0⟩ | ⟨g, cap, cur, hv, _⟩
              · exact ⟨none, 0, by rw [hv, h0]⟩
              · exact ⟨_, _, hv⟩
            obtain ⟨va, vc, rfl⟩ := hv
            have hF4 := (hF2.drew).fr hf4 (by decide)
            have hX4 := (hX2.drew).fr hf4 (by decide)
            have hJ4 := ((hJ2.alloc (.cells #[.int .u64 R.out.1, .string ⟨R.out.2.toArray⟩] TSnap)).drew).fr hf4 (by decide)
            have hS4 := (hs2.alloc (.cells #[.int .u64 R.out.1, .string ⟨R.out.2.toArray⟩] TSnap)).drew.fr hf4 (by decide)
            have z0 := hF4.cell 0
            have z1 := hF4.cell 1
            have y0 := hF4.free 0
            have y1 := hF4.free 1
            have x0 := hX4.cell 0
            have x1 := hX4.cell 1
            have q2 := hJ4.cell 2
            have q3 := hJ4.cell 3
            have p2 := hJ4.free 2
            have p3 := hJ4.free 3
            simp only [jourV, List.getElem?_cons_zero, List.getElem?_cons_succ] at z0 z1 x0 x1 q2 q3
            go_wp2
            have hJ5 := (hJ4.set 3 (.int .u64 R.out.1)).set 2 (.bool true)
            have hlj : w.heap.size + 1 + 2 < w2.heap.size := hJ2.lt
            have hF5 := (hF4.other (p := ⟨w.heap.size + 1 + 2, 3, none⟩) (by simp; omega) (.int .u64 R.out.1)).other (p := ⟨w.heap.size + 1 + 2, 2, none⟩) (by simp; omega) (.bool true)
            have hX5 := (hX4.other (p := ⟨w.heap.size + 1 + 2, 3, none⟩) (by simp; omega) (.int .u64 R.out.1)).other (p := ⟨w.heap.size + 1 + 2, 2, none⟩) (by simp; omega) (.bool true)
            have hf5 : Fr B [TJour] w4 ((w4.setCell ⟨w.heap.size + 1 + 2, 3, none⟩ (.int .u64 R.out.1)).setCell ⟨w.heap.size + 1 + 2, 2, none⟩ (.bool true)) := ((Fr.refl _ _ _).setB (by omega) hJ4 (by simp) _).setB (by omega) hJ4 (by simp) _
            obtain ⟨w5, hw5⟩ : ∃ w5, (w4.setCell ⟨w.heap.size + 1 + 2, 3, none⟩ (.int .u64 R.out.1)).setCell ⟨w.heap.size + 1 + 2, 2, none⟩ (.bool true) = w5 := ⟨_, rfl⟩
            rw [hw5] at hJ5 hF5 hX5 hf5 ⊢
            clear hw5 z0 z1 y0 y1 x0 x1 q2 q3 p2 p3
            have z0 := hF5.cell 0
            have z1 := hF5.cell 1
            have y0 := hF5.free 0
            have y1 := hF5.free 1
            have x1 := hX5.cell 1
            simp only [List.getElem?_cons_zero, List.getElem?_cons_succ] at z0 z1 x1
            go_region
            go_wp2
            refine bodyPost_ret (v := .tuple #[dp (w.heap.size + 1 + 2), .agg #[.string (BA R.out.2), .slice va S.1.length vc], .int .i64 0]) (by simp [results, Tryz.results12, go_sem, z0, z1, BA]) rfl ?_
            have hf6 : Fr B [TFound] w5 ((w5.setCell ⟨w.heap.size, 0, none⟩ (.string (BA R.out.2))).setCell ⟨w.heap.size, 1, none⟩ (.slice va S.1.length vc)).drew := (((Fr.refl _ _ _).setB hB hF5 (by simp) _).setB hB hF5 (by simp) _).drew
            have hsw : w.heap.size ≤ (w2.alloc (Obj.cells #[.int .u64 R.out.1, .string ⟨R.out.2.toArray⟩] TSnap)).drew.heap.size := hfw.size
            refine hPo.out _ _ ((hd4.fr hf5 (by decide) (by decide) (by decide)).fr hf6 (by decide) (by decide) (by decide)) ⟨?_, (hl4.fr hf5 (by decide)).fr hf6 (by decide), (hS4.fr hf5 (by decide)).fr hf6 (by decide), by omega, by omega, by omega⟩ (owns_fr (owns_fr (owns_low ho4 hsw) hf5 (by decide)) hf6 (by decide)) ?_
            · have := hJ5.fr hf6 (by decide)
              simpa [jourV, BA] using this
            · exact (((((hfw.mono (Nat.le_refl _) (by simp)).trans (hf4.mono (Nat.le_refl _) (by simp))).trans (hf5.mono (Nat.le_refl _) (by simp))).setNew (Nat.le_refl _) _).setNew (Nat.le_refl _) _).drew
        · have hPo := Lib.hid (fun w' osl' hd hf => hno w' S.2.1 osl' her (by rw [hop]) hd hf)
          rw [hop] at hPo
          have hSc := hSc.out
          simp only [if_neg her] at hSc
          have hSc := Lib.hid hSc
          obtain ⟨er, hER⟩ : ∃ er, S.2.1 = er := ⟨_, rfl⟩
          rw [hER] at hSc hPo
          have herb : (er != 0) = true := by rw [← hER]; simp [her]
          clear hop hno hyes hn2 hsl hRs hbad hne hz2 hneb hS her hER
          go_enter Tryz.func12, Tryz.ntmps12
          go_wp2_with (first
            | (go_at_call 21; refine hM.out.mono ?_; rintro r W0 ⟨rfl, rfl⟩)
            | (go_at_call 28; refine hFl.out.mono ?_; rintro r w1 ⟨rfl, hd1, hf1⟩
               have hJ1 := hJ0.fr hf1 (by decide)
               have c1 := hJ1.cell 1
               have c0 := hJ1.cell 0
               simp only [jourV, List.getElem?_cons_zero, List.getElem?_cons_succ] at c0 c1))
          have hs1 := hS0.fr hf1 (by decide)
          refine (hRd.out w1 hd1 hs1).mono ?_
          rintro r w2 ⟨rfl, hd2, hs2, hf2⟩
          have hJ2 := hJ1.fr hf2 (by decide)
          have hL2 := ((hL0.fr hf1 (by decide)).fr hf2 (by decide)).alloc (.cells #[.int .u64 R.out.1, .string ⟨R.out.2.toArray⟩] TSnap)
          have hF2 := ((hF0.fr hf1 (by decide)).fr hf2 (by decide)).alloc (.cells #[.int .u64 R.out.1, .string ⟨R.out.2.toArray⟩] TSnap)
          have hfA : Fr B [] w2 (w2.alloc (.cells #[.int .u64 R.out.1, .string ⟨R.out.2.toArray⟩] TSnap)).drew := ((Fr.refl _ _ _).alloc _).drew
          have hd3 := hd2.fr hfA (by decide) (by decide) (by decide)
          have hfw : Fr B [TDisk, TSec, TSlots, TLog] w _ := (((hfw0.mono (Nat.le_refl _) (by simp)).trans (hf1.mono (Nat.le_refl _) (by simp))).trans (hf2.mono (Nat.le_refl _) (by simp))).trans (hfA.mono (Nat.le_refl _) (by simp))
          clear c0 c1
          have c0 := hJ2.cell 0
          have y0 := (Blk.new w2 [.int .u64 R.out.1, .string ⟨R.out.2.toArray⟩] TSnap).cell 0
          have c0a := (hJ2.alloc (.cells #[.int .u64 R.out.1, .string ⟨R.out.2.toArray⟩] TSnap)).cell 0
          simp only [jourV, List.getElem?_cons_zero] at c0 c0a y0
          go_wp2
          go_region_with (go_at_call 29; refine (hSc.out _ hd3 hL2.drew hNE.out).mono ?_; rintro r w4 ⟨v, rfl, rfl, hd4, hl4, hf4⟩)
          all_goals
            have hF4 := (hF2.drew).fr hf4 (by decide)
            have z0 := hF4.cell 0
            have z1 := hF4.cell 1
            have y0 := hF4.free 0
            have y1 := hF4.free 1
            simp only [List.getElem?_cons_zero, List.getElem?_cons_succ] at z0 z1
            go_wp2
            refine bodyPost_ret (v := .tuple #[.pointer none, .agg #[.string ⟨#[]⟩, .slice none 0 0], .int .i64 er]) (by simp [results, Tryz.results12, go_sem, z0, z1]) rfl ?_
            exact openEnd hB hF4 hd4 (hfw.trans (hf4.mono (Nat.le_refl _) (by simp))) er Po hPo.out
end Go.Proofs.YtkeamfdceehliaaGreatDoor

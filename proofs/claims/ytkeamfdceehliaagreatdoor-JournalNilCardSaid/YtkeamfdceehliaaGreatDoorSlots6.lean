/- Slots: puts. -/
import Derived.Test.YtkeamfdceehliaaGreatDoorSlots5
namespace Go.Proofs.YtkeamfdceehliaaGreatDoor
open Go.RowKit
attribute [local go_sem] BA_size BA_extract BA_append BA_toList

structure Bx (p : Prop) : Prop where
  out : p
theorem wrap3 (a i : Nat) (ha : a ≤ 64) (hi : i ≤ 64) : IntKind.i64.wrap (IntKind.i64.wrap (IntKind.i64.wrap (a : Int)) + (i : Int)) = (a : Int) + (i : Int) := by
  rw [IntKind.wrap_i64, IntKind.wrap_i64, IntKind.wrap_i64]
  omega
theorem mkSec_len (p : List UInt8) (e n : Int) (hp : p.length ≤ 43) : (mkSec p e n).length = 64 := by
  unfold mkSec be32 be64
  simp [part64_len]
  omega
theorem chunksN_small : ∀ (k : Nat) (s : List UInt8), s.length ≤ k + 43 → ∀ t ∈ chunksN k s, t.length ≤ 43
  | 0, s, h, t, ht => by
    simp [chunksN] at ht
    subst ht
    omega
  | k + 1, s, h, t, ht => by
    unfold chunksN at ht
    split at ht
    · simp at ht
      subst ht
      assumption
    · rcases List.mem_cons.1 ht with rfl | h2
      · simp
        omega
      · exact chunksN_small k _ (by simp; omega) t h2
theorem chunks_small (s : List UInt8) : ∀ t ∈ chunks s, t.length ≤ 43 := chunksN_small _ _ (by omega)
theorem chunks_pos (s : List UInt8) : 0 < (chunks s).length := by
  unfold chunks
  cases hs : s.length with
  | zero => simp [chunksN]
  | succ k => unfold chunksN; split <;> simp
theorem chunksN_count : ∀ (k : Nat) (s : List UInt8), (chunksN k s).length ≤ k + 1
  | 0, s => by simp [chunksN]
  | k + 1, s => by
    unfold chunksN
    split
    · simp
    · have := chunksN_count k (s.drop 43)
      simp only [List.length_cons]
      omega

/-- How far puts has come. -/
def puPay (data : List UInt8) (i : Nat) : List UInt8 := (chunks data).getD i []
theorem puPay_len (data : List UInt8) (i : Nat) : (puPay data i).length ≤ 43 := by
  unfold puPay
  rw [List.getD]
  cases h : (chunks data)[i]? with
  | none => simp
  | some t => exact chunks_small data t (List.mem_of_getElem? h)
def puSec (data : List UInt8) (e : Int) (i : Nat) : List UInt8 := mkSec (puPay data i) e i
def puRun (a : Nat) (e : Int) (data : List UInt8) (D : Dk) : Nat → Dk × Bool
  | 0 => (D, false)
  | i + 1 =>
    let P := puRun a e data D i
    if P.2 then P else if P.1.bad then (P.1.tick, true) else ({ P.1.tick with opens := P.1.opens ++ [(a + i, puSec data e i)] }, false)
def puAll (a k : Nat) (e : Int) (data : List UInt8) (D : Dk) : Int × Dk :=
  let P := puRun a e data D k
  if P.2 then (18, P.1) else P.1.flush

theorem puRun_secs (a : Nat) (e : Int) (data : List UInt8) (D : Dk) : ∀ i, (puRun a e data D i).1.secs = D.secs ∧ (puRun a e data D i).1.opens.length ≤ D.opens.length + i
  | 0 => ⟨rfl, by simp [puRun]⟩
  | i + 1 => by
    obtain ⟨h1, h2⟩ := puRun_secs a e data D i
    unfold puRun
    simp only
    split
    · exact ⟨h1, by omega⟩
    · split
      · exact ⟨h1, by simp only [Dk.tick]; omega⟩
      · exact ⟨h1, by simp only [List.length_append, List.length_singleton]; omega⟩
theorem puRun_stop (a : Nat) (e : Int) (data : List UInt8) (D : Dk) (i : Nat) (hb : (puRun a e data D i).2 = true) : ∀ k, i ≤ k → puRun a e data D k = puRun a e data D i := by
  intro k hk
  obtain ⟨m, rfl⟩ := Nat.le.dest hk
  clear hk
  induction m with
  | zero => rfl
  | succ m ih =>
    rw [show i + (m + 1) = (i + m) + 1 by omega, puRun]
    simp only
    rw [ih, if_pos hb]

structure PuW (B : Nat) (w0 : World) (d sb : Nat) (s k g : Nat) (rd : Bool) (nw last : Int) (l : List (List UInt8)) (D : Dk) (W : World) : Prop where
  ps : Blk W s (slotsV d 0 k rd nw last) TSlots
  pd : ∃ osl, DiskIn B W d sb osl D
  pl : ∃ cs, Blk W g cs 9 ∧ cs.take l.length = strsV l
  fr : Fr B [TDisk, TWr] w0 W
  sz : w0.heap.size ≤ W.heap.size

theorem PuW.below {B : Nat} {w0 : World} {d sb s k g : Nat} {rd : Bool} {nw last : Int} {l : List (List UInt8)} {D : Dk} {W W' : World} (h : PuW B w0 d sb s k g rd nw last l D W) (hb : Below W.heap.size W W') : PuW B w0 d sb s k g rd nw last l D W' := by
  have hk : ∀ (k : Nat) (o : Obj), W.heap[k]? = some o → W'.heap[k]? = some o := fun k o ho => (hb.block k (lt_of_get ho)).trans ho
  obtain ⟨o, ho⟩ := h.pd
  obtain ⟨cs, h1, h2⟩ := h.pl
  exact ⟨hk _ _ h.ps, ⟨o, ho.keep (fun k _ _ => hk k _)⟩, ⟨cs, hk _ _ h1, h2⟩, h.fr.trans (Fr.of_below hb), Nat.le_trans h.sz hb.size⟩
theorem PuW.disk {B : Nat} {w0 : World} {d sb s k g : Nat} {rd : Bool} {nw last : Int} {l : List (List UInt8)} {D D' : Dk} {W W' : World} (h : PuW B w0 d sb s k g rd nw last l D W) (hD : ∃ osl, DiskIn B W' d sb osl D') (hf : Fr B [TDisk, TWr] W W') : PuW B w0 d sb s k g rd nw last l D' W' := by
  obtain ⟨cs, h1, h2⟩ := h.pl
  exact ⟨h.ps.fr hf (by decide), hD, ⟨cs, h1.fr hf (by decide), h2⟩, h.fr.trans hf, Nat.le_trans h.sz hf.size⟩

set_option maxRecDepth 100000 in
set_option maxHeartbeats 4000000 in
theorem puts_key {B d sb s k j : Nat} {osl : Value} {D : Dk} {w : World} {rd : Bool} {nw last : Int} {data : List UInt8} (hD : DiskIn B w d sb osl D) (hS : Blk w s (slotsV d 0 k rd nw last) TSlots) (_hbs : B ≤ s) (hk : k ≤ 64) (hj : j ≤ 1) (hlen : j * k + k ≤ D.secs.length)
    (hnw : 0 ≤ nw ∧ nw < 18446744073709551616) (hdt : data.length ≤ 100000) (hop : D.opens.length ≤ 1000000) (Po : Ending → World → Prop)
    (hPo : ∀ e w', (e = .returned (.int .i64 (puAll (j * k) k nw data D).1) ∧ (∃ osl', DiskIn B w' d sb osl' (puAll (j * k) k nw data D).2) ∧ Blk w' s (slotsV d 0 k rd nw last) TSlots ∧ Fr B [TDisk, TSec, TWr] w w') → Po e w') :
    Calls Tryz.prog 37 #[dp s, .int .i64 (j : Int), .string (BA data)] w Po := by
  replace hPo := Bx.mk hPo
  obtain ⟨a, ha⟩ : ∃ a, j * k = a := ⟨_, rfl⟩
  have ha2 : a ≤ 64 := by
    rw [← ha]
    have := Nat.mul_le_mul hj hk
    omega
  have hja : (j : Int) * (k : Int) = (a : Int) := by rw [← ha]; simp
  rw [ha] at hlen hPo
  have hlt := hS.lt
  have hCH := Lib.hid (chunks_ok data (by omega) w)
  go_enter Tryz.func37, Tryz.ntmps37
  go_wp2_with (go_at_call 49; refine hCH.out.mono ?_; rintro e w1 ⟨v, rfl, hown, hb1⟩
               have hS1 := hS.below hb1 hlt
               have e2 := hS1.cell 2
               simp only [slotsV, List.getElem?_cons_zero, List.getElem?_cons_succ] at e2)
  have hcp := chunks_pos data
  have hcc := chunksN_count data.length data
  rcases hown.2 with ⟨_, h0⟩ | ⟨g, cap, cur, hv, hg, hh, hn, hm, hs', ht⟩
  · omega
  obtain ⟨n, hnl⟩ : ∃ n, (chunks data).length = n := ⟨_, rfl⟩
  have hcc2 : n ≤ data.length + 1 := by rw [← hnl]; exact hcc
  rw [hnl] at hv hn hcp
  subst hv
  go_loopw [19] (fun p wr => ∃ i : Nat, p = .int .i64 i ∧ i ≤ k ∧ (puRun a nw data D i).2 = false ∧ PuW B w d sb s k g rd nw last (chunks data) (puRun a nw data D i).1 wr) (fun p _ => k - (intOf p).toNat)
  case atStart =>
    refine ⟨0, rfl, by omega, rfl, hS1, ⟨osl, hD.keep (fun k c t hk => (hb1.block k (lt_of_get hk)).trans hk)⟩, ⟨cur.toList, by unfold Blk; rw [Array.toArray_toList]; exact hh, ?_⟩, Fr.of_below hb1, hb1.size⟩
    rw [← ht, hnl, Nat.mul_one]
  case round =>
    obtain ⟨i, rfl, hi, hnb, hP⟩ := hrel
    by_cases hlt2 : i < k
    · obtain ⟨hsec, hol⟩ := puRun_secs a nw data D i
      have hrun : puRun a nw data D (i + 1) = if (puRun a nw data D i).1.bad then ((puRun a nw data D i).1.tick, true) else ({ (puRun a nw data D i).1.tick with opens := (puRun a nw data D i).1.opens ++ [(a + i, puSec data nw i)] }, false) := by
        rw [puRun]
        simp only [hnb]
        rfl
      obtain ⟨D1, hD1⟩ : ∃ D1, (puRun a nw data D i).1 = D1 := ⟨_, rfl⟩
      rw [hD1] at hsec hol hrun hP
      obtain ⟨osl1, hd1⟩ := hP.pd
      obtain ⟨cs, hbl, htk⟩ := hP.pl
      have hbs2 := hP.ps.lt
      have c4 := hP.ps.cell 4
      simp only [slotsV, List.getElem?_cons_zero, List.getElem?_cons_succ] at c4
      have hpl := puPay_len data i
      have hwl := Lib.hid (mkSec_len (puPay data i) nw i hpl)
      have hwr : IntKind.i64.wrap (IntKind.i64.wrap (IntKind.i64.wrap (a : Int)) + (i : Int)) = (a : Int) + (i : Int) := wrap3 a i ha2 (by omega)
      obtain ⟨pay, hpay⟩ : ∃ pay, puPay data i = pay := ⟨_, rfl⟩
      have hMK := Lib.hid (fun W => make_ok pay nw (i : Int) hnw (by omega) (by rw [← hpay]; exact hpl) W)
      by_cases hil : i < n
      · have hci : wr.cell? ⟨g, i, none⟩ = some (.string (BA pay)) := by
          rw [hbl.cell i]
          have h1 : (cs.take (chunks data).length)[i]? = cs[i]? := by rw [List.getElem?_take, if_pos (by omega)]
          rw [← h1, htk, ← hpay]
          unfold puPay strsV
          rw [List.getD, List.getElem?_map, List.getElem?_eq_getElem (by omega)]
          rfl
        have hPE := Lib.hid hpay
        rw [hpay] at hwl
        clear hpay
        have hil2 : (i : Int) < (n : Int) := by omega
        have hgl := hbl.lt
        go_wp2_with (go_at_call 50; refine (hMK.out _).mono ?_; rintro e W2 ⟨rfl, hb2⟩)
        have hP2 := hP.below (Below.trans ((Below.refl wr.heap.size wr).alloc (Nat.le_refl _) _) (hb2.mono (by simp)))
        clear hb2
        obtain ⟨osl2, hd2⟩ := hP2.pd
        have q0 := hP2.ps.cell 0
        have q1 := hP2.ps.cell 1
        have q2 := hP2.ps.cell 2
        simp only [slotsV, List.getElem?_cons_zero, List.getElem?_cons_succ] at q0 q1 q2
        refine wp_region_planN (fun W => W.cell? ⟨s, 0, none⟩ = some (dp d) ∧ W.cell? ⟨s, 1, none⟩ = some (.int .i64 0) ∧ W.cell? ⟨s, 2, none⟩ = some (.int .i64 k)) [0, 1, 2, 4, 5, 6, 8, 9, 10, 11, 15, 17] [3, 7, 12, 13, 14, 16] [] [18, 19] (by kernel_rfl) (by kernel_rfl) ⟨q0, q1, q2⟩ (fun c a d v w h => by cases d <;> exact h) ?_
        iterate 12
          refine pureS (v := ?_) rfl ?_ ?_
          rotate_left
          · intro wq
            go_simp
            rfl
          simp only [put_lit, List.set_cons_succ, List.set_cons_zero]
        iterate 6
          refine holdS (v := ?_) rfl ?_ ?_
          rotate_left
          · rintro wq ⟨g1, g2, g3⟩
            go_simp
            first | rfl | (rw [hja]; rfl)
          simp only [put_lit, List.set_cons_succ, List.set_cons_zero]
        refine endT (C := fun _ => True) (T1 := []) (g1 rfl (g1 rfl g0)) ?_
        try rw [hwr]
        have hth : D1.there ((a : Int) + (i : Int)) = true := by
          simp only [Dk.there, Bool.and_eq_true, decide_eq_true_eq]
          rw [hsec]
          omega
        have hln := hwl.out
        cases hbd : D1.bad with
        | true =>
          have hWr := Lib.hid (write_bad hd2.drew ((a : Int) + (i : Int)) (mkSec pay nw i) hth hln hbd)
          rw [hbd, if_pos rfl] at hrun
          have hstop := Lib.hid (puRun_stop a nw data D (i + 1) (by rw [hrun]) k (by omega))
          have HR := Lib.hid hrun
          clear hrun hbd hth hln
          unfold strV at hWr
          go_wp2_with (go_at_call 51; refine hWr.out.mono ?_; rintro e W3 ⟨rfl, hd3, hF3⟩)
          have hP3 := (hP2.below (W' := W2.drew) ⟨rfl, rfl, rfl, Nat.le_refl _, fun _ _ => rfl⟩).disk ⟨_, hd3⟩ (hF3.mono (ts' := [TDisk, TWr]) (Nat.le_refl _) (by simp))
          have hall : puAll a k nw data D = (18, D1.tick) := by
            unfold puAll
            rw [hstop.out, HR.out]
            rfl
          refine hPo.out _ _ ?_
          rw [hall]
          exact ⟨rfl, hP3.pd, hP3.ps, hP3.fr.mono (Nat.le_refl _) (by simp)⟩
        | false =>
          have hWr := Lib.hid (write_ok hd2.drew ((a : Int) + (i : Int)) (mkSec pay nw i) hth hln hbd (by omega))
          rw [hbd, if_neg (by simp)] at hrun
          have HR := Lib.hid hrun
          clear hrun hbd hth hln
          unfold strV at hWr
          go_wp2_with (go_at_call 51; refine hWr.out.mono ?_; rintro e W3 ⟨rfl, hd3, hF3⟩)
          have hP3 := (hP2.below (W' := W2.drew) ⟨rfl, rfl, rfl, Nat.le_refl _, fun _ _ => rfl⟩).disk hd3 hF3
          go_roundw
          case rel =>
            refine ⟨i + 1, by go_num, by omega, by rw [HR.out], ?_⟩
            rw [HR.out]
            have hn2 : ((a : Int) + (i : Int)).toNat = a + i := by omega
            rw [hn2] at hP3
            unfold puSec
            rw [hPE.out]
            exact hP3
          case measure => simp [intOf]; omega
      · have hil2 : ¬ (i : Int) < (n : Int) := by omega
        have hz : pay = [] := by
          rw [← hpay]
          unfold puPay
          rw [List.getD, List.getElem?_eq_none (by omega)]
          rfl
        subst hz
        have hPE := Lib.hid hpay
        rw [hpay] at hwl
        clear hpay
        go_wp2_with (go_at_call 50; refine (hMK.out _).mono ?_; rintro e W2 ⟨rfl, hb2⟩)
        have hP2 := hP.below (Below.trans ((Below.refl wr.heap.size wr).alloc (Nat.le_refl _) _) (hb2.mono (by simp)))
        clear hb2
        obtain ⟨osl2, hd2⟩ := hP2.pd
        have q0 := hP2.ps.cell 0
        have q1 := hP2.ps.cell 1
        have q2 := hP2.ps.cell 2
        simp only [slotsV, List.getElem?_cons_zero, List.getElem?_cons_succ] at q0 q1 q2
        refine wp_region_planN (fun W => W.cell? ⟨s, 0, none⟩ = some (dp d) ∧ W.cell? ⟨s, 1, none⟩ = some (.int .i64 0) ∧ W.cell? ⟨s, 2, none⟩ = some (.int .i64 k)) [0, 1, 2, 4, 5, 6, 8, 9, 10, 11, 15, 17] [3, 7, 12, 13, 14, 16] [] [18, 19] (by kernel_rfl) (by kernel_rfl) ⟨q0, q1, q2⟩ (fun c a d v w h => by cases d <;> exact h) ?_
        iterate 12
          refine pureS (v := ?_) rfl ?_ ?_
          rotate_left
          · intro wq
            go_simp
            rfl
          simp only [put_lit, List.set_cons_succ, List.set_cons_zero]
        iterate 6
          refine holdS (v := ?_) rfl ?_ ?_
          rotate_left
          · rintro wq ⟨g1, g2, g3⟩
            go_simp
            first | rfl | (rw [hja]; rfl)
          simp only [put_lit, List.set_cons_succ, List.set_cons_zero]
        refine endT (C := fun _ => True) (T1 := []) (g1 rfl (g1 rfl g0)) ?_
        try rw [hwr]
        have hth : D1.there ((a : Int) + (i : Int)) = true := by
          simp only [Dk.there, Bool.and_eq_true, decide_eq_true_eq]
          rw [hsec]
          omega
        have hln := hwl.out
        cases hbd : D1.bad with
        | true =>
          have hWr := Lib.hid (write_bad hd2.drew ((a : Int) + (i : Int)) (mkSec [] nw i) hth hln hbd)
          rw [hbd, if_pos rfl] at hrun
          have hstop := Lib.hid (puRun_stop a nw data D (i + 1) (by rw [hrun]) k (by omega))
          have HR := Lib.hid hrun
          clear hrun hbd hth hln
          unfold strV at hWr
          go_wp2_with (go_at_call 51; refine hWr.out.mono ?_; rintro e W3 ⟨rfl, hd3, hF3⟩)
          have hP3 := (hP2.below (W' := W2.drew) ⟨rfl, rfl, rfl, Nat.le_refl _, fun _ _ => rfl⟩).disk ⟨_, hd3⟩ (hF3.mono (ts' := [TDisk, TWr]) (Nat.le_refl _) (by simp))
          have hall : puAll a k nw data D = (18, D1.tick) := by
            unfold puAll
            rw [hstop.out, HR.out]
            rfl
          refine hPo.out _ _ ?_
          rw [hall]
          exact ⟨rfl, hP3.pd, hP3.ps, hP3.fr.mono (Nat.le_refl _) (by simp)⟩
        | false =>
          have hWr := Lib.hid (write_ok hd2.drew ((a : Int) + (i : Int)) (mkSec [] nw i) hth hln hbd (by omega))
          rw [hbd, if_neg (by simp)] at hrun
          have HR := Lib.hid hrun
          clear hrun hbd hth hln
          unfold strV at hWr
          go_wp2_with (go_at_call 51; refine hWr.out.mono ?_; rintro e W3 ⟨rfl, hd3, hF3⟩)
          have hP3 := (hP2.below (W' := W2.drew) ⟨rfl, rfl, rfl, Nat.le_refl _, fun _ _ => rfl⟩).disk hd3 hF3
          go_roundw
          case rel =>
            refine ⟨i + 1, by go_num, by omega, by rw [HR.out], ?_⟩
            rw [HR.out]
            have hn2 : ((a : Int) + (i : Int)).toNat = a + i := by omega
            rw [hn2] at hP3
            unfold puSec
            rw [hPE.out]
            exact hP3
          case measure => simp [intOf]; omega
    · have : i = k := by omega
      subst this
      obtain ⟨osl1, hd1⟩ := hP.pd
      have c0 := hP.ps.cell 0
      simp only [slotsV, List.getElem?_cons_zero] at c0
      obtain ⟨D1, hD1⟩ : ∃ D1, (puRun a nw data D i).1 = D1 := ⟨_, rfl⟩
      have hall : puAll a i nw data D = D1.flush := by
        unfold puAll
        simp only [hnb, hD1]
        rfl
      rw [hall] at hPo
      rw [hD1] at hP hd1
      cases hbd : D1.bad with
      | true =>
        have hFl := Lib.hid (flush_bad hd1 hbd)
        have hfl : D1.flush = (18, D1.tick) := by unfold Dk.flush; rw [if_pos hbd]
        rw [hfl] at hPo
        clear hbd hfl
        go_wp2_with (go_at_call 28; refine hFl.out.mono ?_; rintro e W3 ⟨rfl, hd3, hF3⟩)
        exact hPo.out _ _ ⟨rfl, ⟨_, hd3⟩, hP.ps.fr hF3 (by decide), (hP.fr.mono (Nat.le_refl _) (by simp)).trans (hF3.mono (Nat.le_refl _) (by simp))⟩
      | false =>
        have hFl := Lib.hid (flush_ok hd1 hbd)
        have hfl : D1.flush = (0, { D1.tick with secs := Dk.lay D1.secs D1.opens, opens := [] }) := by unfold Dk.flush; rw [if_neg (by simp [hbd])]
        rw [hfl] at hPo
        clear hbd hfl
        go_wp2_with (go_at_call 28; refine hFl.out.mono ?_; rintro e W3 ⟨rfl, hd3, hF3⟩)
        exact hPo.out _ _ ⟨rfl, ⟨_, hd3⟩, hP.ps.fr hF3 (by decide), (hP.fr.mono (Nat.le_refl _) (by simp)).trans (hF3.mono (Nat.le_refl _) (by simp))⟩
end Go.Proofs.YtkeamfdceehliaaGreatDoor

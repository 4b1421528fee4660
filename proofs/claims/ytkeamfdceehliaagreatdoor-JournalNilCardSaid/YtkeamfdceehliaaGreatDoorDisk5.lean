/- A disk's crash, walked. -/
import Derived.Test.YtkeamfdceehliaaGreatDoorDisk4
import Derived.WalkMore
namespace Go.Proofs.YtkeamfdceehliaaGreatDoor
open Go.RowKit

/-- Fates that came in: a slice whose cells read so. -/
structure FatesAt (w : World) (v : Value) (fs : List Dk.Fate) : Prop where
  form : ∃ a cap, v = .slice a fs.length cap ∧ ∀ i f, fs[i]? = some f → ∃ b o, a = some ⟨b, o, none⟩ ∧ w.cell? ⟨b, o + i * 2, none⟩ = some (.int .i64 f.kind) ∧ w.cell? ⟨b, o + i * 2 + 1, none⟩ = some (.int .i64 f.at_) ∧ b < w.heap.size
  few : fs.length ≤ 9223372036854775807

theorem left_range (f : Dk.Fate) : 0 ≤ Dk.left f ∧ Dk.left f ≤ 64 := by
  unfold Dk.left
  split
  · omega
  · split
    · have := rest_range f.at_ 65 (by omega)
      omega
    · omega
theorem kept_le (fs : List Dk.Fate) (j : Nat) : Dk.kept fs j ≤ 64 := by
  unfold Dk.kept
  split
  · have := left_range (by assumption)
    omega
  · omega

theorem crashTo_len (fs : List Dk.Fate) (opens : List (Nat × List UInt8)) (secs : List (List UInt8)) : ∀ j, (Dk.crashTo fs opens secs j).1.length = secs.length
  | 0 => rfl
  | j + 1 => by
    unfold Dk.crashTo
    split
    · simp [crashTo_len fs opens secs j]
    · exact crashTo_len fs opens secs j
theorem crashTo_less (fs : List Dk.Fate) (opens : List (Nat × List UInt8)) (secs : List (List UInt8)) : ∀ j, 0 ≤ (Dk.crashTo fs opens secs j).2 ∧ (Dk.crashTo fs opens secs j).2 ≤ j
  | 0 => by simp [Dk.crashTo]
  | j + 1 => by
    have ih := crashTo_less fs opens secs j
    unfold Dk.crashTo
    split
    · simp only
      split <;> omega
    · omega

theorem splice_part (l : List Value) (off n : Nat) (new old : List UInt8) (h : (l.drop off).take 64 = bytesV old) (ho : old.length = 64) (hn : new.length = 64) (hle : n ≤ 64) :
    splice l off (bytesV (new.take n)) = splice l off (bytesV (Dk.tear n new old)) := by
  have h2 : l.drop off = bytesV old ++ l.drop (off + 64) := by
    rw [← h, ← List.drop_drop, List.take_append_drop]
  unfold splice
  congr 1
  unfold Dk.tear
  have e1 : (bytesV (new.take n)).length = n := by simp; omega
  have e2 : (bytesV (new.take n ++ old.drop n)).length = 64 := by simp; omega
  rw [e1, e2, ← List.drop_drop (i := n), h2]
  have e3 : (bytesV old ++ l.drop (off + 64)).drop n = bytesV (old.drop n) ++ l.drop (off + 64) := by
    rw [List.drop_append, bytesV_len, ho, show n - 64 = 0 by omega]
    simp [bytesV, List.map_drop]
  rw [e3]
  simp [bytesV]

theorem DiskIn.tearSec {B d sb : Nat} {osl : Value} {D : Dk} {w : World} (h : DiskIn B w d sb osl D) {k n : Nat} {s : List UInt8} (hk : k < D.secs.length) (hs : s.length = 64) (hn : n ≤ 64) :
    DiskIn B (w.setRow sb (splice (secsV D.secs) (k * 64) (bytesV (s.take n))).toArray) d sb osl { D with secs := D.secs.set k (Dk.tear n s (D.secs.getD k [])) } := by
  obtain ⟨old, ho⟩ : ∃ old, D.secs[k]? = some old := ⟨_, List.getElem?_eq_getElem hk⟩
  obtain ⟨h1, h2, h3⟩ := h.secAt ho
  have e : D.secs.getD k [] = old := by rw [List.getD, ho]; rfl
  rw [splice_part _ _ n s old h1 h3 hs hn, e]
  exact h.laySec hk (by unfold Dk.tear; simp; omega)

theorem DiskIn.crashed {B d sb : Nat} {osl : Value} {D : Dk} {w : World} (h : DiskIn B w d sb osl D) :
    DiskIn B (((w.setCell ⟨d, 1, none⟩ (.slice none 0 0)).setCell ⟨d, 2, none⟩ (.int .i64 0)).setCell ⟨d, 3, none⟩ (.int .i64 0)) d sb (.slice none 0 0) { secs := D.secs, opens := [], fail := 0, reads := 0 } := by
  have hne : d ≠ sb := h.blk.ne h.secs (by decide)
  refine ⟨?_, ((h.secs.other (fun e => hne e.symm) _).other (fun e => hne e.symm) _).other (fun e => hne e.symm) _, World.ownsRow_nil _ _ _ _, h.bd, h.bs, h.pos, h.many, h.len, (fun o ho => by cases ho), by simp, by simp⟩
  have := ((h.blk.set 1 (.slice none 0 0)).set 2 (.int .i64 0)).set 3 (.int .i64 0)
  simpa using this

set_option maxRecDepth 100000 in
set_option maxHeartbeats 2000000 in
theorem crash_ok {B d sb : Nat} {osl : Value} {D : Dk} {w : World} {fv : Value} {fs : List Dk.Fate} (hD : DiskIn B w d sb osl D) (hfs : FatesAt w fv fs) (hfb : ∀ b o n c, 0 < fs.length → fv = .slice (some ⟨b, o, none⟩) n c → b < B) :
    Calls Tryz.prog 11 #[dp d, fv] w fun e w' => e = .returned (.int .i64 (D.crash fs).1) ∧ DiskIn B w' d sb (.slice none 0 0) (D.crash fs).2 ∧ Fr B [TDisk, TSec] w w' := by
  obtain ⟨oa, cap, rfl⟩ := hD.osl_form
  obtain ⟨⟨fa, fcap, rfl, hfc⟩, hfew⟩ := hfs
  have hof := hD.ofew
  have c1 := hD.blk.cell 1
  simp only [List.getElem?_cons_zero, List.getElem?_cons_succ] at c1
  have HFC := Lib.hid hfc
  have HFB := Lib.hid hfb
  clear hfc hfb
  go_enter Tryz.func11, Tryz.ntmps11
  go_wp2_with go_step3
  have H0 : Hid (DiskIn B w d sb (.slice oa D.opens.length cap) { D with secs := (Dk.crashTo fs D.opens D.secs 0).1 }) := hD
  go_loopw [5, 16] (fun ls i wr => ∃ j : Nat, j ≤ D.opens.length ∧ i = .int .i64 j ∧ ls = .int .i64 (Dk.crashTo fs D.opens D.secs j).2 ∧ DiskIn B wr d sb (.slice oa D.opens.length cap) { D with secs := (Dk.crashTo fs D.opens D.secs j).1 } ∧ Fr B [TSec] w wr)
    (fun _ i _ => D.opens.length - (intOf i).toNat)
  case atStart => exact ⟨0, Nat.zero_le _, rfl, rfl, H0.out, Fr.refl _ _ _⟩
  case round =>
    obtain ⟨j, hj, rfl, rfl, hDr, hFr⟩ := hrel
    have hdl := hDr.blk.lt
    have c0 := hDr.blk.cell 0
    simp only [List.getElem?_cons_zero] at c0
    have hlen : (Dk.crashTo fs D.opens D.secs j).1.length = D.secs.length := crashTo_len _ _ _ _
    rw [hlen] at c0
    have hls := crashTo_less fs D.opens D.secs j
    obtain ⟨ls, hlse⟩ : ∃ ls, (Dk.crashTo fs D.opens D.secs j).2 = ls := ⟨_, rfl⟩
    rw [hlse] at hls ⊢
    by_cases hlt : j < D.opens.length
    · obtain ⟨o, ho⟩ : ∃ o, D.opens[j]? = some o := ⟨_, List.getElem?_eq_getElem hlt⟩
      obtain ⟨ob, cap', cs, hos, hBo, hob, hcs, hle⟩ := hDr.openAt (i := j) (o := o) ho
      cases hos
      obtain ⟨k, so⟩ := o
      have hk0 := (hD.olen (k, so) (List.mem_of_getElem? ho)).1
      have HSO := Lib.hid (hD.olen (k, so) (List.mem_of_getElem? ho)).2
      have HSU : Hid (Dk.crashTo fs D.opens D.secs (j + 1) = ((Dk.crashTo fs D.opens D.secs j).1.set k (Dk.tear (Dk.kept fs j) so ((Dk.crashTo fs D.opens D.secs j).1.getD k [])), if Dk.kept fs j = 64 then ls else ls + 1)) := by
        show _ = _
        conv => lhs; unfold Dk.crashTo
        rw [ho, ← hlse]
      have HLN := Lib.hid hlen
      have HLS := Lib.hid hlse
      have HCS := Lib.hid hcs
      have HL := Lib.hid (wrV_len (o := (k, so)) HSO.out)
      have hw0 : (wrV (k, so))[0]? = some (.int .i64 k) := rfl
      clear hcs ho hlen hlse
      have hk : (k : Int) < D.secs.length := by exact_mod_cast hk0
      have hkk : 0 ≤ (k : Int) := by omega
      have hdel := hD.many
      obtain ⟨kp, hkp⟩ : ∃ kp, Dk.kept fs j = kp := ⟨_, rfl⟩
      have hkl := kept_le fs j
      rw [hkp] at hkl
      have hkI : (kp : Int) ≤ 64 := by omega
      by_cases hjf : j < fs.length
      ·
        obtain ⟨f, hf⟩ : ∃ f, fs[j]? = some f := ⟨_, List.getElem?_eq_getElem hjf⟩
        obtain ⟨b, o2, rfl, g1, g2, g3⟩ := HFC.out j f hf
        have hbB := HFB.out b o2 _ _ (by omega) rfl
        have q1 : wr.cell? ⟨b, o2 + j * 2, none⟩ = some (.int .i64 f.kind) := ((hFr.below).cell (p := ⟨b, o2 + j * 2, none⟩) (by simp; omega)).trans g1
        have q2 : wr.cell? ⟨b, o2 + j * 2 + 1, none⟩ = some (.int .i64 f.at_) := ((hFr.below).cell (p := ⟨b, o2 + j * 2 + 1, none⟩) (by simp; omega)).trans g2
        have hbw : b < wr.heap.size := by have := hFr.size; omega
        have hke : Hid (Dk.left f = kp) := by
          show _ = _
          have := left_range f
          have h2 : Dk.kept fs j = (Dk.left f).toNat := by unfold Dk.kept; rw [hf]
          omega
        have HCL : Hid (∀ w1, Calls Tryz.prog 27 #[.agg #[.int .i64 f.kind, .int .i64 f.at_]] w1 fun e w' => e = .returned (.int .i64 kp) ∧ w' = w1.alloc (.cells #[.int .i64 f.kind, .int .i64 f.at_] 73)) := fun w1 => by
          have := left_any f w1
          rw [hke.out] at this
          exact this
        clear g1 g2 hf
        go_wp2_with (first
          | (refine wpList_loadSeg (ty := TWr) rfl rfl rfl hob undWr sizeWr hle HCS.out ?_)
          | (refine wpList_alloc (ty := TWr) rfl rfl infoWr ?_; intro zs1 hzs1)
          | (refine wpList_storeNew wr (ty := TWr) rfl rfl rfl rfl rfl (by rw [HL.out]; exact sizeWr) (by rw [HL.out]; exact hzs1) wrV_one ?_)
          | (go_at_call 27; refine (HCL.out _).mono ?_; rintro e w2 ⟨rfl, rfl⟩))
        have HN := Lib.hid (((Blk.new wr (wrV (k, so)) TWr).alloc (.cells #[.int .i64 f.kind, .int .i64 f.at_] 73)).drew)
        have hFA := Lib.hid ((((Fr.refl B [] wr).alloc (.cells (wrV (k, so)).toArray TWr)).alloc (.cells #[.int .i64 f.kind, .int .i64 f.at_] 73)).drew)
        have HDW := Lib.hid (hDr.fr hFA.out (by decide) (by decide) (by decide))
        have HFW := Lib.hid (hFr.trans (hFA.out.mono (Nat.le_refl _) (by simp)))
        have HKP := Lib.hid hkp
        clear hkp
        have HDT := Lib.hid (HDW.out.tearSec (k := k) (n := kp) (s := so) (by show k < (Dk.crashTo fs D.opens D.secs j).1.length; rw [HLN.out]; exact hk0) HSO.out hkl)
        have hsb := hDr.bs
        have e : ({ D with secs := (Dk.crashTo fs D.opens D.secs (j + 1)).1 } : Dk) = { D with secs := (Dk.crashTo fs D.opens D.secs j).1.set k (Dk.tear kp so ((Dk.crashTo fs D.opens D.secs j).1.getD k [])) } := by rw [HSU.out, HKP.out]
        have HE := Lib.hid e
        have hl2 : Hid ((Dk.crashTo fs D.opens D.secs (j + 1)).2 = if (kp : Nat) = 64 then ls else ls + 1) := by show _ = _; rw [HSU.out, HKP.out]
        clear e
        refine wp_region_planN (fun w' => DiskIn B w' d sb _ { D with secs := (Dk.crashTo fs D.opens D.secs j).1 } ∧ Blk w' wr.heap.size (wrV (k, so)) TWr) [0, 1, 2, 4, 7, 9, 10, 11] [3, 5, 6, 8] [] [12] (by kernel_rfl) (by kernel_rfl) ⟨HDW.out, HN.out⟩ (fun c a d v w h => by cases d <;> exact h) ?_
        iterate 8
          refine pureS (v := ?_) rfl ?_ ?_
          rotate_left
          · intro wq
            go_simp
            rfl
          simp only [put_lit, List.set_cons_succ, List.set_cons_zero]
        refine holdS (v := ?_) rfl ?_ ?_
        rotate_left
        · rintro wq ⟨hq, _⟩
          have c0q := hq.blk.cell 0
          simp only [List.getElem?_cons_zero] at c0q
          rw [HLN.out] at c0q
          go_simp
          rfl
        simp only [put_lit, List.set_cons_succ, List.set_cons_zero]
        refine holdS (v := ?_) rfl ?_ ?_
        rotate_left
        · rintro wq ⟨_, hq⟩
          have c0q := hq.cell 0
          rw [hw0] at c0q
          go_simp
          rfl
        simp only [put_lit, List.set_cons_succ, List.set_cons_zero]
        iterate 2
          refine holdS (v := ?_) rfl ?_ ?_
          rotate_left
          · rintro wq _
            go_simp
            rfl
          simp only [put_lit, List.set_cons_succ, List.set_cons_zero]
        refine endT (C := fun _ => True) (T1 := []) (g1 rfl g0) ?_
        refine wpList_val rfl (exec_copy_seg (n := kp) (vs := bytesV (so.take kp)) rfl rfl rfl HDW.out.secs HN.out undBytes sizeByte ?_ ?_ ?_ bytesV_one) ?_
        · show k * 64 + kp ≤ _
          unfold secsV
          rw [flat_len bytesV 64 _ (fun y hy => by rw [bytesV_len]; exact HDW.out.len y hy)]
          show _ ≤ (Dk.crashTo fs D.opens D.secs j).1.length * 64
          rw [HLN.out]
          omega
        · rw [HL.out]; omega
        · simp [wrV, bytesV]
        simp only [put_lit, List.set_cons_succ, List.set_cons_zero]
        have HF3 := Lib.hid (HFW.out.rowB hsb hD.secs (by decide) (splice (secsV (Dk.crashTo fs D.opens D.secs j).1) (k * 64) (bytesV (so.take kp))).toArray)
        by_cases h64 : kp = 64
        · subst h64
          have hb64 : ((64 : Nat) : Int) = 64 := rfl
          go_wp2_with fail
          go_roundw
          case rel => exact ⟨j + 1, by omega, by go_num, by rw [hl2.out, if_pos rfl], by rw [HE.out]; exact HDT.out, HF3.out⟩
          case measure => simp [intOf]; omega
        · have hb64 : ((kp : Int) == 64) = false := beq_eq_false_iff_ne.2 (by omega)
          go_wp2_with fail
          go_roundw
          case rel => exact ⟨j + 1, by omega, by go_num, by rw [hl2.out, if_neg h64], by rw [HE.out]; exact HDT.out, HF3.out⟩
          case measure => simp [intOf]; omega
      ·
        have hke : Hid (0 = kp) := by
          show _ = _
          rw [← hkp]
          unfold Dk.kept
          rw [List.getElem?_eq_none (by omega)]
        obtain rfl := hke.out
        clear hke
        go_wp2_with (first
          | (refine wpList_loadSeg (ty := TWr) rfl rfl rfl hob undWr sizeWr hle HCS.out ?_)
          | (refine wpList_alloc (ty := TWr) rfl rfl infoWr ?_; intro zs1 hzs1)
          | (refine wpList_storeNew wr (ty := TWr) rfl rfl rfl rfl rfl (by rw [HL.out]; exact sizeWr) (by rw [HL.out]; exact hzs1) wrV_one ?_))
        have HN := Lib.hid ((Blk.new wr (wrV (k, so)) TWr).drew)
        have hFA := Lib.hid (((Fr.refl B [] wr).alloc (.cells (wrV (k, so)).toArray TWr)).drew)
        have HDW := Lib.hid (hDr.fr hFA.out (by decide) (by decide) (by decide))
        have HFW := Lib.hid (hFr.trans (hFA.out.mono (Nat.le_refl _) (by simp)))
        have HKP := Lib.hid hkp
        clear hkp
        have HDT := Lib.hid (HDW.out.tearSec (k := k) (n := 0) (s := so) (by show k < (Dk.crashTo fs D.opens D.secs j).1.length; rw [HLN.out]; exact hk0) HSO.out hkl)
        have hsb := hDr.bs
        have e : ({ D with secs := (Dk.crashTo fs D.opens D.secs (j + 1)).1 } : Dk) = { D with secs := (Dk.crashTo fs D.opens D.secs j).1.set k (Dk.tear 0 so ((Dk.crashTo fs D.opens D.secs j).1.getD k [])) } := by rw [HSU.out, HKP.out]
        have HE := Lib.hid e
        have hl2 : Hid ((Dk.crashTo fs D.opens D.secs (j + 1)).2 = if (0 : Nat) = 64 then ls else ls + 1) := by show _ = _; rw [HSU.out, HKP.out]
        clear e
        refine wp_region_planN (fun w' => DiskIn B w' d sb _ { D with secs := (Dk.crashTo fs D.opens D.secs j).1 } ∧ Blk w' wr.heap.size (wrV (k, so)) TWr) [0, 1, 2, 4, 7, 9, 10, 11] [3, 5, 6, 8] [] [12] (by kernel_rfl) (by kernel_rfl) ⟨HDW.out, HN.out⟩ (fun c a d v w h => by cases d <;> exact h) ?_
        iterate 8
          refine pureS (v := ?_) rfl ?_ ?_
          rotate_left
          · intro wq
            go_simp
            rfl
          simp only [put_lit, List.set_cons_succ, List.set_cons_zero]
        refine holdS (v := ?_) rfl ?_ ?_
        rotate_left
        · rintro wq ⟨hq, _⟩
          have c0q := hq.blk.cell 0
          simp only [List.getElem?_cons_zero] at c0q
          rw [HLN.out] at c0q
          go_simp
          rfl
        simp only [put_lit, List.set_cons_succ, List.set_cons_zero]
        refine holdS (v := ?_) rfl ?_ ?_
        rotate_left
        · rintro wq ⟨_, hq⟩
          have c0q := hq.cell 0
          rw [hw0] at c0q
          go_simp
          rfl
        simp only [put_lit, List.set_cons_succ, List.set_cons_zero]
        iterate 2
          refine holdS (v := ?_) rfl ?_ ?_
          rotate_left
          · rintro wq _
            go_simp
            rfl
          simp only [put_lit, List.set_cons_succ, List.set_cons_zero]
        refine endT (C := fun _ => True) (T1 := []) (g1 rfl g0) ?_
        refine wpList_val rfl (exec_copy_seg (n := 0) (vs := bytesV (so.take 0)) rfl rfl rfl HDW.out.secs HN.out undBytes sizeByte ?_ ?_ ?_ bytesV_one) ?_
        · show k * 64 + 0 ≤ _
          unfold secsV
          rw [flat_len bytesV 64 _ (fun y hy => by rw [bytesV_len]; exact HDW.out.len y hy)]
          show _ ≤ (Dk.crashTo fs D.opens D.secs j).1.length * 64
          rw [HLN.out]
          omega
        · rw [HL.out]; omega
        · simp [wrV, bytesV]
        simp only [put_lit, List.set_cons_succ, List.set_cons_zero]
        have HF3 := Lib.hid (HFW.out.rowB hsb hD.secs (by decide) (splice (secsV (Dk.crashTo fs D.opens D.secs j).1) (k * 64) (bytesV (so.take 0))).toArray)
        go_wp2_with fail
        go_roundw
        case rel => exact ⟨j + 1, by omega, by go_num, by rw [hl2.out, if_neg (by decide)], by rw [HE.out]; exact HDT.out, HF3.out⟩
        case measure => simp [intOf]; omega
    · have hje : j = D.opens.length := by omega
      subst hje
      have c1r := hDr.blk.cell 1
      simp only [List.getElem?_cons_zero, List.getElem?_cons_succ] at c1r
      have c2r := hDr.blk.cell 2
      simp only [List.getElem?_cons_zero, List.getElem?_cons_succ] at c2r
      have c3r := hDr.blk.cell 3
      simp only [List.getElem?_cons_zero, List.getElem?_cons_succ] at c3r
      have f1 := hDr.blk.free 1
      have f2 := hDr.blk.free 2
      have f3 := hDr.blk.free 3
      have hfin := Lib.hid hDr.crashed
      go_wp2_with fail
      go_ret
      refine ⟨retI ?_, hfin.out, ((((hFr.mono (Nat.le_refl _) (by simp)).setB hD.bd hD.blk (by decide) _).setB hD.bd hD.blk (by decide) _).setB hD.bd hD.blk (by decide) _)⟩
      exact hlse.symm

end Go.Proofs.YtkeamfdceehliaaGreatDoor

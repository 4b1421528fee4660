/- The disk's flush and crash, and a new disk, walked. -/
import Derived.Test.YtkeamfdceehliaaGreatDoorDisk2
namespace Go.Proofs.YtkeamfdceehliaaGreatDoor
open Go.RowKit

theorem lay_succ (secs : List (List UInt8)) (opens : List (Nat × List UInt8)) (j : Nat) (o : Nat × List UInt8) (h : opens[j]? = some o) : Dk.lay secs (opens.take (j + 1)) = (Dk.lay secs (opens.take j)).set o.1 o.2 := by
  unfold Dk.lay
  rw [List.take_add_one, h]
  simp
theorem lay_len (opens : List (Nat × List UInt8)) : ∀ (secs : List (List UInt8)), (Dk.lay secs opens).length = secs.length := by
  unfold Dk.lay
  induction opens with
  | nil => intro secs; rfl
  | cons o l ih => intro secs; rw [List.foldl_cons, ih]; simp
theorem flat_set {α β : Type} (f : α → List β) (n : Nat) : ∀ (l : List α) (i : Nat) (x : α), (∀ y ∈ l, (f y).length = n) → (f x).length = n → i < l.length → splice (l.flatMap f) (i * n) (f x) = (l.set i x).flatMap f
  | [], i, x, _, _, h => by simp at h
  | y :: l, 0, x, hl, hx, h => by
    have := hl y (by simp)
    simp [splice, hx, this]
  | y :: l, i + 1, x, hl, hx, h => by
    have hy := hl y (by simp)
    have ih := flat_set f n l i x (fun z hz => hl z (by simp [hz])) hx (by simpa using h)
    simp only [List.flatMap_cons, List.set_cons_succ]
    rw [← ih]
    unfold splice
    rw [List.take_append, List.drop_append, hy, List.take_of_length_le (by rw [hy, Nat.succ_mul]; omega), show (i + 1) * n - n = i * n by rw [Nat.succ_mul]; omega,
      List.drop_eq_nil_of_le (by rw [hy, Nat.succ_mul]; omega), show (i + 1) * n + (f x).length - n = i * n + (f x).length by rw [Nat.succ_mul]; omega]
    simp

theorem DiskIn.laySec {B d sb : Nat} {osl : Value} {D : Dk} {w : World} (h : DiskIn B w d sb osl D) {k : Nat} {s : List UInt8} (hk : k < D.secs.length) (hs : s.length = 64) :
    DiskIn B (w.setRow sb (splice (secsV D.secs) (k * 64) (bytesV s)).toArray) d sb osl { D with secs := D.secs.set k s } := by
  have hne : d ≠ sb := h.blk.ne h.secs (by decide)
  have hl : ∀ y ∈ D.secs, (bytesV y).length = 64 := fun y hy => by rw [bytesV_len]; exact h.len y hy
  have he : splice (secsV D.secs) (k * 64) (bytesV s) = secsV (D.secs.set k s) := flat_set bytesV 64 _ _ _ hl (by rw [bytesV_len]; exact hs) hk
  rw [he]
  have hd := h.blk.rowOther (cs' := (secsV (D.secs.set k s)).toArray) hne
  refine ⟨?_, h.secs.row, ?_, h.bd, h.bs, by simpa using h.pos, by simpa using h.many, ?_, fun o ho => by simpa using h.olen o ho, h.ofew, h.failIn⟩
  · simpa using hd
  · obtain ⟨g1, g2⟩ := h.opens
    refine ⟨g1, g2.elim .inl (fun ⟨g, cap, cur, hv, hg, hh, r⟩ => .inr ⟨g, cap, cur, hv, hg, ?_, r⟩)⟩
    rw [setRow_other _ _ _ _ (fun e => ?_)]
    · exact hh
    · subst e
      have := h.secs
      unfold Blk at this
      rw [hh] at this
      cases this
  · intro y hy
    rcases List.mem_or_eq_of_mem_set hy with h1 | h1
    · exact h.len y h1
    · rw [h1]; exact hs

theorem DiskIn.noOpen {B d sb : Nat} {osl : Value} {D : Dk} {w : World} (h : DiskIn B w d sb osl D) : DiskIn B (w.setCell ⟨d, 1, none⟩ (.slice none 0 0)) d sb (.slice none 0 0) { D with opens := [] } := by
  have hne : d ≠ sb := h.blk.ne h.secs (by decide)
  refine ⟨?_, h.secs.other (fun e => hne e.symm) _, World.ownsRow_nil _ _ _ _, h.bd, h.bs, h.pos, h.many, h.len, (fun o ho => by cases ho), by simp, h.failIn⟩
  have := h.blk.set 1 (.slice none 0 0)
  simpa using this

theorem flush_bad {B d sb : Nat} {osl : Value} {D : Dk} {w : World} (hD : DiskIn B w d sb osl D) (hb : D.bad = true) :
    Calls Tryz.prog 28 #[dp d] w fun e w' => e = .returned (.int .i64 18) ∧ DiskIn B w' d sb osl D.tick ∧ Fr B [TDisk] w w' := by
  have hf := Lib.hid (fails_in hD)
  have HB := Lib.hid hb
  clear hb
  go_enter Tryz.func28, Tryz.ntmps28
  go_wp2_with (go_at_call 41; refine hf.out.mono ?_; rw [HB.out]; rintro e w1 ⟨rfl, hD1, hF1⟩)
  go_ret
  exact ⟨rfl, hD1, hF1⟩

set_option maxHeartbeats 800000 in
theorem flush_ok {B d sb : Nat} {osl : Value} {D : Dk} {w : World} (hD : DiskIn B w d sb osl D) (hb : D.bad = false) :
    Calls Tryz.prog 28 #[dp d] w fun e w' => e = .returned (.int .i64 0) ∧ DiskIn B w' d sb (.slice none 0 0) { D.tick with secs := Dk.lay D.secs D.opens, opens := [] } ∧ Fr B [TDisk, TSec] w w' := by
  obtain ⟨oa, cap, rfl⟩ := hD.osl_form
  have hof := hD.ofew
  have hf := Lib.hid (fails_in hD)
  have HB := Lib.hid hb
  clear hb
  go_enter Tryz.func28, Tryz.ntmps28
  go_wp2_with (go_at_call 41; refine hf.out.mono ?_; rw [HB.out]; rintro e w1 ⟨rfl, hD1, hF1⟩; (have c1 := hD1.blk.cell 1); simp only [List.getElem?_cons_zero, List.getElem?_cons_succ] at c1)
  have H0 : Hid (DiskIn B w1 d sb (.slice oa D.opens.length cap) { D.tick with secs := Dk.lay D.secs (D.opens.take 0) }) := hD1
  go_loopw [16] (fun i wr => ∃ j : Nat, j ≤ D.opens.length ∧ i = .int .i64 j ∧ DiskIn B wr d sb (.slice oa D.opens.length cap) { D.tick with secs := Dk.lay D.secs (D.opens.take j) } ∧ Fr B [TSec] w1 wr)
    (fun i _ => D.opens.length - (intOf i).toNat)
  case atStart => exact ⟨0, Nat.zero_le _, rfl, H0.out, Fr.refl _ _ _⟩
  case round =>
    obtain ⟨j, hj, rfl, hDr, hFr⟩ := hrel
    have hdl := hDr.blk.lt
    have c0 := hDr.blk.cell 0
    simp only [List.getElem?_cons_zero] at c0
    have f1 := hDr.blk.free 1
    have c1r := hDr.blk.cell 1
    simp only [List.getElem?_cons_zero, List.getElem?_cons_succ] at c1r
    by_cases hlt : j < D.opens.length
    · obtain ⟨o, ho⟩ : ∃ o, D.opens[j]? = some o := ⟨_, List.getElem?_eq_getElem hlt⟩
      obtain ⟨ob, cap', cs, hos, hBo, hob, hcs, hle⟩ := hDr.openAt (i := j) (o := o) ho
      cases hos
      obtain ⟨k, so⟩ := o
      have hk0 := (hD.olen (k, so) (List.mem_of_getElem? ho)).1
      have HSO := Lib.hid (hD.olen (k, so) (List.mem_of_getElem? ho)).2
      have HSU := Lib.hid (lay_succ D.secs D.opens j (k, so) ho)
      have hlen : (Dk.lay D.secs (D.opens.take j)).length = D.secs.length := lay_len _ _
      rw [hlen] at c0
      have HLN := Lib.hid hlen
      have HCS := Lib.hid hcs
      have HL := Lib.hid (wrV_len (o := (k, so)) HSO.out)
      have hw0 : (wrV (k, so))[0]? = some (.int .i64 k) := rfl
      clear hcs ho hlen
      have hk : (k : Int) < D.secs.length := by exact_mod_cast hk0
      have hkk : 0 ≤ (k : Int) := by omega
      have hdel := hD.many
      have hd64 : Hid (((wrV (k, so)).drop 1).take 64 = bytesV so) := by
        show _ = _
        have : (bytesV so).length = 64 := by rw [bytesV_len]; exact HSO.out
        simp only [wrV, List.drop_succ_cons, List.drop_zero]
        exact List.take_of_length_le (by omega)
      go_wp2_with (first
        | (refine wpList_loadSeg (ty := TWr) rfl rfl rfl hob undWr sizeWr hle HCS.out ?_)
        | (refine wpList_alloc (ty := TWr) rfl rfl infoWr ?_; intro zs1 hzs1)
        | (refine wpList_storeNew wr (ty := TWr) rfl rfl rfl rfl rfl (by rw [HL.out]; exact sizeWr) (by rw [HL.out]; exact hzs1) wrV_one ?_))
      have HN := Lib.hid (Blk.new wr (wrV (k, so)) TWr)
      have hDr2 := Lib.hid (hDr.fr (((Fr.refl B [] wr).alloc (.cells (wrV (k, so)).toArray TWr)).drew) (by decide) (by decide) (by decide))
      refine wp_region_planN (fun w' => w' = (wr.alloc (.cells (wrV (k, so)).toArray TWr)).drew) [0, 1, 2, 4, 6] [3, 5, 7, 8] [] [9] (by kernel_rfl) (by kernel_rfl) rfl (fun c a d v w h => by cases d <;> exact h) ?_
      iterate 5
        refine pureS (v := ?_) rfl ?_ ?_
        rotate_left
        · intro wq
          go_simp
          rfl
        simp only [put_lit, List.set_cons_succ, List.set_cons_zero]
      iterate 2
        refine holdS (v := ?_) rfl ?_ ?_
        rotate_left
        · rintro wq rfl
          go_simp
          rfl
        simp only [put_lit, List.set_cons_succ, List.set_cons_zero]
      refine holdS (v := .agg (bytesV so).toArray) rfl (fun wq hq => by subst hq; exact exec_load_seg rfl rfl HN.out.drew undSec sizeSec (by rw [HL.out]; omega) hd64.out) ?_
      simp only [put_lit, List.set_cons_succ, List.set_cons_zero]
      refine holdS (v := ?_) rfl ?_ ?_
      rotate_left
      · rintro wq rfl
        go_simp
        rfl
      simp only [put_lit, List.set_cons_succ, List.set_cons_zero]
      refine endT (C := fun _ => True) (T1 := []) (g1 rfl g0) ?_
      have hDl := hDr2.out.laySec (k := k) (s := so) (by show k < (Dk.lay D.secs (D.opens.take j)).length; rw [HLN.out]; exact hk0) HSO.out
      have e : ({ D.tick with secs := Dk.lay D.secs (D.opens.take (j + 1)) } : Dk) = { D.tick with secs := (Dk.lay D.secs (D.opens.take j)).set k so } := by rw [HSU.out]
      have HE := Lib.hid e
      have HDL := Lib.hid hDl
      clear e hDl
      have hsb := hDr.bs
      refine wpList_storeSeg (ty := TSec) (vs := bytesV so) rfl rfl rfl rfl hDr2.out.secs (by rw [bytesV_len, HSO.out]; exact sizeSec) ?_ bytesV_one ?_
      · unfold secsV
        rw [flat_len bytesV 64 _ (fun y hy => by rw [bytesV_len]; exact hDr2.out.len y hy), bytesV_len, HSO.out]
        show k * 64 + 64 ≤ (Dk.lay D.secs (D.opens.take j)).length * 64
        rw [HLN.out]
        omega
      have hF3 : Fr B [TSec] w1 ((wr.alloc (.cells (wrV (k, so)).toArray TWr)).drew.setRow sb (splice (secsV (Dk.lay D.secs (D.opens.take j))) (k * 64) (bytesV so)).toArray) := ((hFr.alloc _).drew).rowB hsb hD1.secs (by decide) _
      have HF3 := Lib.hid hF3
      clear hF3
      go_wp2_with fail
      go_roundw
      case rel => exact ⟨j + 1, by omega, by go_num, by rw [HE.out]; exact HDL.out, HF3.out⟩
      case measure => simp [intOf]; omega
    · have hje : j = D.opens.length := by omega
      subst hje
      have hfin := Lib.hid hDr.noOpen
      have hlay : Hid (D.opens.take D.opens.length = D.opens) := List.take_length
      go_wp2_with fail
      go_ret
      refine ⟨rfl, ?_, ((hF1.mono (Nat.le_refl _) (by simp)).trans (hFr.mono (Nat.le_refl _) (by simp))).setB hD.bd hD.blk (by decide) _⟩
      have := hfin.out
      rw [hlay.out] at this
      exact this

end Go.Proofs.YtkeamfdceehliaaGreatDoor

/- The disk's reads, writes and flushes, walked. -/
import Derived.Test.YtkeamfdceehliaaGreatDoorDisk
import Derived.Test.YtkeamfdceehliaaGreatDoorArr
namespace Go.Proofs.YtkeamfdceehliaaGreatDoor
open Go.RowKit

theorem infoSec : (Tryz.prog.info? TSec).map (fun i => (i.zero.map (·.cells.size), i.size)) = some (some 64, 64) := by kernel_rfl
theorem infoWr : (Tryz.prog.info? TWr).map (fun i => (i.zero.map (·.cells.size), i.size)) = some (some 65, 65) := by kernel_rfl
theorem sizeSec : (Tryz.prog.info? TSec).map (·.size) = some 64 := by kernel_rfl
theorem sizeWr : (Tryz.prog.info? TWr).map (·.size) = some 65 := by kernel_rfl

theorem undSec : (Tryz.prog.underlying TSec).any aggD = true := by kernel_rfl
theorem undBytes : Tryz.prog.underlying 74 = some (.slice 5) := by kernel_rfl
theorem undByte : Tryz.prog.underlying 5 = some (.int .u8) := by kernel_rfl
theorem undStr : Tryz.prog.underlying 9 = some .string := by kernel_rfl
theorem undWr : (Tryz.prog.underlying TWr).any aggD = true := by kernel_rfl
/-- A row of pieces of one length: the piece at i. -/
theorem flat_at {α β : Type} (f : α → List β) (n : Nat) : ∀ (l : List α) (i : Nat) (x : α), (∀ y ∈ l, (f y).length = n) → l[i]? = some x → ((l.flatMap f).drop (i * n)).take n = f x
  | [], i, x, _, h => by simp at h
  | y :: l, 0, x, hl, h => by
    simp at h
    subst h
    have := hl y (by simp)
    simp [this]
  | y :: l, i + 1, x, hl, h => by
    have hy := hl y (by simp)
    have ih := flat_at f n l i x (fun z hz => hl z (by simp [hz])) (by simpa using h)
    rw [List.flatMap_cons, List.drop_append, hy, show (i + 1) * n - n = i * n by rw [Nat.succ_mul]; omega]
    rw [List.drop_eq_nil_of_le (by rw [hy, Nat.succ_mul]; omega), List.nil_append]
    exact ih
theorem flat_len {α β : Type} (f : α → List β) (n : Nat) : ∀ (l : List α), (∀ y ∈ l, (f y).length = n) → (l.flatMap f).length = l.length * n
  | [], _ => by simp
  | y :: l, hl => by
    rw [List.flatMap_cons, List.length_append, flat_len f n l (fun z hz => hl z (by simp [hz])), hl y (by simp), List.length_cons, Nat.succ_mul]
    omega

theorem DiskIn.secAt {B d sb : Nat} {osl : Value} {D : Dk} {w : World} (h : DiskIn B w d sb osl D) {i : Nat} {s : List UInt8} (hi : D.secs[i]? = some s) :
    ((secsV D.secs).drop (i * 64)).take 64 = bytesV s ∧ i * 64 + 64 ≤ (secsV D.secs).length ∧ s.length = 64 := by
  have h1 : ∀ y ∈ D.secs, (bytesV y).length = 64 := fun y hy => by rw [bytesV_len]; exact h.len y hy
  have hlt : i < D.secs.length := (List.getElem?_eq_some_iff.1 hi).1
  refine ⟨flat_at bytesV 64 _ _ _ h1 hi, ?_, h.len s (List.mem_of_getElem? hi)⟩
  unfold secsV
  rw [flat_len bytesV 64 _ h1]
  omega

theorem wrV_len {o : Nat × List UInt8} (h : o.2.length = 64) : (wrV o).length = 65 := by simp [wrV, h]

theorem wrV_one {o : Nat × List UInt8} : ∀ v ∈ wrV o, v.oneCell' = true := by
  intro v hv
  rcases List.mem_cons.1 hv with rfl | h
  · rfl
  · exact bytesV_one v h
/-- The open writes' row, at one of them. -/
theorem DiskIn.openAt {B d sb : Nat} {osl : Value} {D : Dk} {w : World} (h : DiskIn B w d sb osl D) {i : Nat} {o : Nat × List UInt8} (hi : D.opens[i]? = some o) :
    ∃ ob cap cs, osl = .slice (some ⟨ob, 0, none⟩) D.opens.length cap ∧ B ≤ ob ∧ Blk w ob cs TWr ∧ (cs.drop (i * 65)).take 65 = wrV o ∧ i * 65 + 65 ≤ cs.length := by
  obtain ⟨h1, h2⟩ := h.opens
  have hlt : i < D.opens.length := (List.getElem?_eq_some_iff.1 hi).1
  have hl : ∀ y ∈ D.opens, (wrV y).length = 65 := fun y hy => wrV_len (h.olen y hy).2
  rcases h2 with ⟨_, h0⟩ | ⟨g, cap, cur, hv, hg, hh, hn, hm, hs, ht⟩
  · omega
  · refine ⟨g, cap, cur.toList, hv, hg, by unfold Blk; rw [Array.toArray_toList]; exact hh, ?_, ?_⟩
    · have := flat_at wrV 65 _ _ _ hl hi
      unfold opensV at ht
      rw [← ht] at this
      rw [← this, List.drop_take, List.take_take, Nat.min_eq_left (by
        have : (i + 1) * 65 ≤ D.opens.length * 65 := Nat.mul_le_mul_right _ hlt
        omega)]
    · have : (i + 1) * 65 ≤ cap * 65 := Nat.mul_le_mul_right _ (by omega)
      simp
      omega

theorem DiskIn.readN {B d sb : Nat} {osl : Value} {D : Dk} {w : World} (h : DiskIn B w d sb osl D) :
    DiskIn B (w.setCell ⟨d, 3, none⟩ (.int .i64 (wrap64 (D.reads + 1)))) d sb osl D.readN := by
  have hne : d ≠ sb := h.blk.ne h.secs (by decide)
  refine ⟨?_, h.secs.other (fun e => hne e.symm) _, ?_, h.bd, h.bs, h.pos, h.many, h.len, h.olen, h.ofew, h.failIn⟩
  · have := h.blk.set 3 (.int .i64 (wrap64 (D.reads + 1)))
    simpa [Dk.readN, wInt_eq] using this
  · exact owns_other h.opens h.blk (by decide) _ _

theorem DiskIn.fr {B d sb : Nat} {osl : Value} {D : Dk} {w w' : World} (h : DiskIn B w d sb osl D) {ts : List Nat} (hf : Fr B ts w w') (h1 : TDisk ∉ ts) (h2 : TSec ∉ ts) (h3 : TWr ∉ ts) : DiskIn B w' d sb osl D := by
  refine ⟨h.blk.fr hf h1, h.secs.fr hf h2, ?_, h.bd, h.bs, h.pos, h.many, h.len, h.olen, h.ofew, h.failIn⟩
  obtain ⟨g1, g2⟩ := h.opens
  exact ⟨g1, g2.elim .inl (fun ⟨g, cap, cur, hv, hg, hh, r⟩ => .inr ⟨g, cap, cur, hv, hg, hf.get hh h3, r⟩)⟩

theorem DiskIn.osl_form {B d sb : Nat} {osl : Value} {D : Dk} {w : World} (h : DiskIn B w d sb osl D) : ∃ oa cap, osl = .slice oa D.opens.length cap := by
  obtain ⟨_, h2⟩ := h.opens
  rcases h2 with ⟨hv, h0⟩ | ⟨g, cap, cur, hv, _⟩
  · exact ⟨none, 0, by rw [hv, h0]⟩
  · exact ⟨_, _, hv⟩

theorem look_succ (l : List (Nat × List UInt8)) (j : Nat) (o : Nat × List UInt8) (i : Nat) (s : List UInt8) (h : l[j]? = some o) :
    Dk.look (l.take (j + 1)) i s = if o.1 = i then o.2 else Dk.look (l.take j) i s := by
  unfold Dk.look
  rw [List.take_add_one, h]
  simp

theorem look_len (l : List (Nat × List UInt8)) (i : Nat) (hl : ∀ o ∈ l, o.2.length = 64) : ∀ (s : List UInt8), s.length = 64 → (Dk.look l i s).length = 64 := by
  unfold Dk.look
  induction l with
  | nil => intro s hs; exact hs
  | cons o l ih =>
    intro s hs
    rw [List.foldl_cons]
    refine ih (fun q hq => hl q (by simp [hq])) _ ?_
    split
    · exact hl o (by simp)
    · exact hs

theorem read_arg {B d sb : Nat} {osl : Value} {D : Dk} {w : World} (hD : DiskIn B w d sb osl D) (i : Int) (hi : D.there i = false) :
    Calls Tryz.prog 52 #[dp d, .int .i64 i] w fun e w' => e = .returned (.tuple #[strV [], .int .i64 1]) ∧ w = w' := by
  have hc := Lib.hid (there_in hD i)
  have HI := Lib.hid hi
  clear hi
  go_enter Tryz.func52, Tryz.ntmps52
  go_wp2_with (go_at_call 63; refine hc.out.mono ?_; rw [HI.out]; rintro e w' ⟨rfl, rfl⟩)
  go_ret2
  exact ⟨rfl, rfl⟩

theorem read_bad {B d sb : Nat} {osl : Value} {D : Dk} {w : World} (hD : DiskIn B w d sb osl D) (i : Int) (hi : D.there i = true) (hb : D.bad = true) :
    Calls Tryz.prog 52 #[dp d, .int .i64 i] w fun e w' => e = .returned (.tuple #[strV [], .int .i64 18]) ∧ DiskIn B w' d sb osl D.readN.tick ∧ Fr B [TDisk] w w' := by
  have hc := Lib.hid (there_in hD i)
  have hf := Lib.hid (fails_in hD.readN)
  have hb' : D.readN.bad = true := hb
  have HI := Lib.hid hi
  have HB := Lib.hid hb'
  clear hi hb hb'
  have c3 := hD.blk.cell 3
  simp only [List.getElem?_cons_zero, List.getElem?_cons_succ] at c3
  have f3 := hD.blk.free 3
  go_enter Tryz.func52, Tryz.ntmps52
  go_wp2_with (go_at_call 63; refine hc.out.mono ?_; rw [HI.out]; rintro e w' ⟨rfl, rfl⟩)
  refine hf.out.mono ?_
  rw [HB.out]
  rintro e w1 ⟨rfl, hD1, hF1⟩
  go_wp2_with fail
  go_ret2
  exact ⟨rfl, hD1, ((Fr.refl _ _ _).setB hD.bd hD.blk (by decide) _).trans hF1⟩

set_option maxHeartbeats 800000 in
theorem read_ok {B d sb : Nat} {osl : Value} {D : Dk} {w : World} (hD : DiskIn B w d sb osl D) (i : Int) (hi : D.there i = true) (hb : D.bad = false) :
    Calls Tryz.prog 52 #[dp d, .int .i64 i] w fun e w' => e = .returned (.tuple #[strV (D.cur i.toNat), .int .i64 0]) ∧ DiskIn B w' d sb osl D.readN.tick ∧ Fr B [TDisk] w w' := by
  obtain ⟨oa, cap, rfl⟩ := hD.osl_form
  have hof := hD.ofew
  have hc := Lib.hid (there_in hD i)
  have hf := Lib.hid (fails_in hD.readN)
  have hb' : D.readN.bad = false := hb
  have hi2 : 0 ≤ i ∧ i < D.secs.length := by simpa [Dk.there] using hi
  obtain ⟨k, rfl⟩ := Int.eq_ofNat_of_zero_le hi2.1
  have hk : k < D.secs.length := by omega
  have HI := Lib.hid hi
  have HB := Lib.hid hb'
  clear hi hb hb' hi2
  obtain ⟨s, hs⟩ : ∃ s, D.secs[k]? = some s := ⟨_, List.getElem?_eq_getElem hk⟩
  have HS := Lib.hid hs
  clear hs
  have c3 := hD.blk.cell 3
  simp only [List.getElem?_cons_zero, List.getElem?_cons_succ] at c3
  have f3 := hD.blk.free 3
  go_enter Tryz.func52, Tryz.ntmps52
  go_wp2_with (go_at_call 63; refine hc.out.mono ?_; rw [HI.out]; rintro e w' ⟨rfl, rfl⟩)
  refine hf.out.mono ?_
  rw [HB.out]
  rintro e w1 ⟨rfl, hD1, hF1⟩
  have c0 := hD1.blk.cell 0
  simp only [List.getElem?_cons_zero] at c0
  have c1 := hD1.blk.cell 1
  simp only [List.getElem?_cons_zero, List.getElem?_cons_succ] at c1
  obtain ⟨q1, q2, q3⟩ := hD1.secAt HS.out
  have hl : D.readN.tick.secs.length = D.secs.length := rfl
  rw [hl] at c0
  have Q1 := Lib.hid q1
  have Q3 := Lib.hid q3
  clear q1 q3 hl
  have hdl := hD1.blk.lt
  go_wp2_with (first
    | (refine wpList_loadSeg (ty := TSec) rfl rfl rfl hD1.secs undSec sizeSec q2 Q1.out ?_)
    | (refine wpList_alloc (ty := TSec) rfl rfl infoSec ?_; intro zs hzs)
    | (refine wpList_storeNew w1 (ty := TSec) rfl rfl rfl rfl rfl (by rw [bytesV_len, Q3.out]; exact sizeSec) (by rw [bytesV_len, Q3.out]; exact hzs) bytesV_one ?_))
  have hFs : Fr B [] w1 (w1.alloc (.cells (bytesV s).toArray TSec)) := (Fr.refl _ _ _).alloc _
  have HFn : Hid (Blk (w1.alloc (.cells (bytesV s).toArray TSec)) w1.heap.size (bytesV (Dk.look (D.opens.take 0) k s)) TSec) := by
    show Blk _ _ _ _
    simpa [Dk.look] using Blk.new w1 (bytesV s) TSec
  go_loopw [34] (fun i wr => ∃ j : Nat, j ≤ D.opens.length ∧ i = .int .i64 j ∧ Blk wr w1.heap.size (bytesV (Dk.look (D.opens.take j) k s)) TSec ∧ Fr B [] w1 wr)
    (fun i _ => D.opens.length - (intOf i).toNat)
  case atStart => exact ⟨0, Nat.zero_le _, rfl, HFn.out, hFs⟩
  case round =>
    obtain ⟨j, hj, rfl, hB, hFr⟩ := hrel
    have hDr := hD1.fr hFr (by decide) (by decide) (by decide)
    by_cases hlt : j < D.opens.length
    · obtain ⟨o, ho⟩ : ∃ o, D.opens[j]? = some o := ⟨_, List.getElem?_eq_getElem hlt⟩
      obtain ⟨ob, cap', cs, hos, hBo, hob, hcs, hle⟩ := hDr.openAt (i := j) (o := o) ho
      cases hos
      obtain ⟨at_, so⟩ := o
      have hso : so.length = 64 := (hD.olen (at_, so) (List.mem_of_getElem? ho)).2
      have hsl : (Dk.look (D.opens.take j) k s).length = 64 := look_len _ _ (fun q hq => (hD.olen q (List.mem_of_mem_take hq)).2) _ Q3.out
      have hsucc := look_succ D.opens j (at_, so) k s ho
      have hBn : w1.heap.size < wr.heap.size := hB.lt
      have HCS := Lib.hid hcs
      have HSO := Lib.hid hso
      have HSL := Lib.hid hsl
      have HSU := Lib.hid hsucc
      have HO := Lib.hid ho
      clear hcs hso hsl hsucc ho
      have hlen65 : (wrV (at_, so)).length = 65 := wrV_len HSO.out
      have HL := Lib.hid hlen65
      clear hlen65
      have hw0 : (wrV (at_, so))[0]? = some (.int .i64 at_) := rfl
      have hnew := Lib.hid (Blk.new wr (wrV (at_, so)) TWr)
      have hold := Lib.hid (hB.alloc (.cells (wrV (at_, so)).toArray TWr))
      have hd64 : Hid (((wrV (at_, so)).drop 1).take 64 = bytesV so) := by
        show _ = _
        have : (bytesV so).length = 64 := by rw [bytesV_len]; exact HSO.out
        simp only [wrV, List.drop_succ_cons, List.drop_zero]
        exact List.take_of_length_le (by omega)
      have hspl : Hid (splice (bytesV (Dk.look (D.opens.take j) k s)) 0 (bytesV so) = bytesV so) := splice_all (by rw [bytesV_len, bytesV_len, HSL.out, HSO.out])
      have hFr2 : Fr B [] w1 (wr.alloc (.cells (wrV (at_, so)).toArray TWr)) := hFr.alloc _
      by_cases heq : at_ = k
      · have hd : ((at_ : Int) == (k : Int)) = true := by simp [heq]
        have hlook : Hid (Dk.look (D.opens.take (j + 1)) k s = so) := by show _ = _; rw [HSU.out, if_pos heq]
        clear heq
        go_wp2_with (first
          | (refine wpList_loadSeg (ty := TWr) rfl rfl rfl hob undWr sizeWr hle HCS.out ?_)
          | (refine wpList_alloc (ty := TWr) rfl rfl infoWr ?_; intro zs1 hzs1)
          | (refine wpList_storeNew wr (ty := TWr) rfl rfl rfl rfl rfl (by rw [HL.out]; exact sizeWr) (by rw [HL.out]; exact hzs1) wrV_one ?_)
          | (refine wpList_loadSeg (ty := TSec) rfl rfl rfl hnew.out undSec sizeSec (by rw [HL.out]; omega) hd64.out ?_)
          | (refine wpList_storeSeg (ty := TSec) rfl rfl rfl rfl hold.out (by rw [bytesV_len, HSO.out]; exact sizeSec) (by have h1 := HSO.out; have h2 := HSL.out; simp only [bytesV_len]; omega) bytesV_one ?_; rw [hspl.out]))
        go_roundw
        case rel =>
          refine ⟨j + 1, by omega, by go_num, ?_, hFr2.rowNew (Nat.le_refl _) _⟩
          rw [hlook.out]
          exact hold.out.row
        case measure => simp [intOf]; omega
      · have hd : ((at_ : Int) == (k : Int)) = false := beq_eq_false_iff_ne.2 (by omega)
        have hlook : Hid (Dk.look (D.opens.take (j + 1)) k s = Dk.look (D.opens.take j) k s) := by show _ = _; rw [HSU.out, if_neg heq]
        clear heq
        go_wp2_with (first
          | (refine wpList_loadSeg (ty := TWr) rfl rfl rfl hob undWr sizeWr hle HCS.out ?_)
          | (refine wpList_alloc (ty := TWr) rfl rfl infoWr ?_; intro zs1 hzs1)
          | (refine wpList_storeNew wr (ty := TWr) rfl rfl rfl rfl rfl (by rw [HL.out]; exact sizeWr) (by rw [HL.out]; exact hzs1) wrV_one ?_))
        go_roundw
        case rel =>
          refine ⟨j + 1, by omega, by go_num, ?_, hFr2⟩
          rw [hlook.out]
          exact hold.out
        case measure => simp [intOf]; omega
    · have hje : j = D.opens.length := by omega
      have hsl : (Dk.look D.opens k s).length = 64 := look_len _ _ (fun q hq => (hD.olen q hq).2) _ Q3.out
      have HSL := Lib.hid hsl
      clear hsl
      subst hje
      have hT : Hid (Blk wr w1.heap.size (bytesV (Dk.look D.opens k s)) TSec) := by
        show Blk _ _ _ _
        rw [List.take_length] at hB
        exact hB
      clear hB
      have hcur : Hid (D.cur k = Dk.look D.opens k s) := by
        show _ = _
        unfold Dk.cur
        rw [List.getD, HS.out]
        rfl
      go_wp2_with (first
        | (refine wpList_bytesStr (src := 74) (dst := 9) (l := Dk.look D.opens k s) rfl rfl rfl hT.out undBytes undByte undStr HSL.out (by rw [List.drop_zero, List.take_of_length_le (by rw [bytesV_len, HSL.out]; omega)]) ?_))
      go_ret2
      refine ⟨?_, hDr, ((Fr.refl _ _ _).setB hD.bd hD.blk (by decide) _).trans (hF1.trans (hFr.mono (Nat.le_refl _) (by simp)))⟩
      simp only [Int.toNat_natCast]
      rw [hcur.out]
      rfl


theorem write_arg {B d sb : Nat} {osl : Value} {D : Dk} {w : World} (hD : DiskIn B w d sb osl D) (i : Int) (s : List UInt8) (hi : D.there i = false ∨ s.length ≠ 64) :
    Calls Tryz.prog 51 #[dp d, .int .i64 i, strV s] w fun e w' => e = .returned (.int .i64 1) ∧ w = w' := by
  have hc := Lib.hid (there_in hD i)
  cases hth : D.there i with
  | false =>
    have HI := Lib.hid hth
    clear hi hth
    go_enter Tryz.func51, Tryz.ntmps51
    go_wp2_with (go_at_call 63; refine hc.out.mono ?_; rw [HI.out]; rintro e w' ⟨rfl, rfl⟩)
    go_ret
    exact ⟨rfl, rfl⟩
  | true =>
    have HI := Lib.hid hth
    have hne : ((s.length : Int) == 64) = false := by rw [beq_eq_false_iff_ne]; rw [hth] at hi; simp at hi; omega
    have hlen : (BA s).size = s.length := rfl
    clear hi hth
    go_enter Tryz.func51, Tryz.ntmps51
    unfold strV
    go_wp2_with (go_at_call 63; refine hc.out.mono ?_; rw [HI.out]; rintro e w' ⟨rfl, rfl⟩)
    go_ret
    exact ⟨rfl, rfl⟩

theorem write_bad {B d sb : Nat} {osl : Value} {D : Dk} {w : World} (hD : DiskIn B w d sb osl D) (i : Int) (s : List UInt8) (hi : D.there i = true) (hs : s.length = 64) (hb : D.bad = true) :
    Calls Tryz.prog 51 #[dp d, .int .i64 i, strV s] w fun e w' => e = .returned (.int .i64 18) ∧ DiskIn B w' d sb osl D.tick ∧ Fr B [TDisk] w w' := by
  have hc := Lib.hid (there_in hD i)
  have hf := Lib.hid (fails_in hD)
  have HI := Lib.hid hi
  have HB := Lib.hid hb
  have hlen : (BA s).size = 64 := hs
  clear hi hb hs
  unfold strV
  go_enter Tryz.func51, Tryz.ntmps51
  go_wp2_with (first
    | (go_at_call 63; refine hc.out.mono ?_; rw [HI.out]; rintro e w' ⟨rfl, rfl⟩)
    | (go_at_call 41; refine hf.out.mono ?_; rw [HB.out]; rintro e w1 ⟨rfl, hD1, hF1⟩))
  go_ret
  exact ⟨rfl, hD1, hF1⟩

def zero64 : List UInt8 := List.replicate 64 0
theorem wrV_zlen (k : Nat) : (wrV (k, zero64)).length = 65 := by simp [wrV, zero64]
theorem build_wr (k : Nat) (w : World) : (Instr.build TWr #[(0, .int .i64 k)]).run Tryz.prog w = .ok (.agg (wrV (k, zero64)).toArray) w := by kernel_rfl
theorem sizeByte : (Tryz.prog.info? 5).map (·.size) = some 1 := by kernel_rfl
theorem infoWr3 : Info Tryz.prog TWr 65 72 := info_mk (by kernel_rfl)
theorem opensV_snoc (l : List (Nat × List UInt8)) (o : Nat × List UInt8) : opensV (l ++ [o]) = opensV l ++ wrV o := by simp [opensV]
theorem DiskIn.addOpen {B d sb : Nat} {osl v : Value} {D : Dk} {w1 w2 : World} (h : DiskIn B w1 d sb osl D) (hf : Fr B [TWr] w1 w2) {k : Nat} {s : List UInt8} (hown : w2.ownsRow B TWr 65 v (D.opens.length + 1) (opensV D.opens ++ wrV (k, s)))
    (hk : k < D.secs.length) (hs : s.length = 64) (hfew : D.opens.length < 4294967296) : DiskIn B (w2.setCell ⟨d, 1, none⟩ v) d sb v { D with opens := D.opens ++ [(k, s)] } := by
  have hb := h.blk.fr hf (by decide)
  have hsec := h.secs.fr hf (by decide)
  have hne : d ≠ sb := h.blk.ne h.secs (by decide)
  refine ⟨?_, hsec.other (fun e => hne e.symm) _, ?_, h.bd, h.bs, h.pos, h.many, h.len, ?_, ?_, h.failIn⟩
  · have := hb.set 1 v
    simpa using this
  · have := owns_other hown hb (by decide) 1 v
    simpa [opensV_snoc] using this
  · intro o ho
    simp only [List.mem_append, List.mem_cons, List.not_mem_nil, or_false] at ho
    rcases ho with ho | rfl
    · exact h.olen o ho
    · exact ⟨hk, hs⟩
  · simp only [List.length_append, List.length_cons, List.length_nil]; omega
theorem owned_slice {w : World} {B e size n : Nat} {v : Value} {xs : List Value} (h : w.ownsRow B e size v n xs) (hp : 0 < n) : ∃ g cap, v = .slice (some ⟨g, 0, none⟩) n cap ∧ B ≤ g := by
  rcases h.2 with ⟨_, h0⟩ | ⟨g, cap, cur, hv, hg, _⟩
  · omega
  · exact ⟨g, cap, hv, hg⟩
theorem owned_types {w : World} {B e size n : Nat} {v : Value} {xs : List Value} (h : w.ownsRow B e size v n xs) : ∀ k, v.ownBlock = some k → B ≤ k ∧ ∃ c, w.heap[k]? = some (.cells c e (0, 0)) := by
  intro k hk
  rcases h.2 with ⟨hv, h0⟩ | ⟨g, cap, cur, hv, hg, hh, _⟩
  · subst hv
    cases hk
  · subst hv
    simp [Value.ownBlock] at hk
    subst hk
    exact ⟨hg, cur, hh⟩
theorem undWrs : Tryz.prog.underlying 50 = some (.slice TWr) := by kernel_rfl

set_option maxHeartbeats 800000 in
theorem write_ok {B d sb : Nat} {osl : Value} {D : Dk} {w : World} (hD : DiskIn B w d sb osl D) (i : Int) (s : List UInt8) (hi : D.there i = true) (hs : s.length = 64) (hb : D.bad = false) (hfew : D.opens.length < 4294967296) :
    Calls Tryz.prog 51 #[dp d, .int .i64 i, strV s] w fun e w' => e = .returned (.int .i64 0) ∧ (∃ osl', DiskIn B w' d sb osl' { D.tick with opens := D.opens ++ [(i.toNat, s)] }) ∧ Fr B [TDisk, TWr] w w' := by
  have hc := Lib.hid (there_in hD i)
  have hf := Lib.hid (fails_in hD)
  have hi2 : 0 ≤ i ∧ i < D.secs.length := by simpa [Dk.there] using hi
  obtain ⟨k, rfl⟩ := Int.eq_ofNat_of_zero_le hi2.1
  have HI := Lib.hid hi
  have HB := Lib.hid hb
  have hlen : (BA s).size = 64 := hs
  have HS := Lib.hid hs
  clear hi hb hs
  obtain ⟨oa, cap, rfl⟩ := hD.osl_form
  have hspl : Hid (splice (wrV (k, zero64)) 1 (bytesV s) = wrV (k, s)) := by
    show _ = _
    simp [splice, wrV, zero64, HS.out, bytesV]
  go_enter Tryz.func51, Tryz.ntmps51
  unfold strV
  go_wp2_with (first
    | (go_at_call 63; refine hc.out.mono ?_; rw [HI.out]; rintro e w' ⟨rfl, rfl⟩)
    | (go_at_call 41; refine hf.out.mono ?_; rw [HB.out]; rintro e w1 ⟨rfl, hD1, hF1⟩)
    | (refine wpList_build1 (ty := TWr) (f := 0) (x := .tmp 21) (u := .int .i64 k) rfl rfl rfl (build_wr k _) ?_)
    | (refine wpList_alloc (ty := TWr) rfl rfl infoWr ?_; intro zs hzs)
    | (refine wpList_storeNew w1 (ty := TWr) rfl rfl rfl rfl rfl (by rw [wrV_zlen]; exact sizeWr) (by rw [wrV_zlen]; exact hzs) wrV_one ?_)
    | (refine wpList_copyStr (dT := 74) (sT := 9) (l := s) rfl rfl rfl rfl (Blk.new w1 _ TWr) undBytes sizeByte HS.out (by rw [wrV_zlen]; omega) ?_; rw [hspl.out, setRow_new]))
  have hdl := hD1.blk.lt
  have c1 := hD1.blk.cell 1
  simp only [List.getElem?_cons_zero, List.getElem?_cons_succ] at c1
  have f1 := hD1.blk.free 1
  have hlw : (wrV (k, s)).length = 65 := wrV_len HS.out
  have HL := Lib.hid hlw
  clear hlw
  have htk : Hid (((wrV (k, s)).drop 0).take 65 = wrV (k, s)) := by
    show _ = _
    rw [List.drop_zero, List.take_of_length_le (by rw [HL.out]; omega)]
  have hown1 := Lib.hid (hD1.opens.alloc (.cells (wrV (k, s)).toArray TWr))
  simp only [Act.put, List.setIfInBounds_toArray, List.set_cons_succ, List.set_cons_zero]
  have HN := Lib.hid (Blk.new w1 (wrV (k, s)) TWr)
  obtain ⟨W, hW⟩ : ∃ W, W = w1.alloc (.cells (wrV (k, s)).toArray TWr) := ⟨_, rfl⟩
  refine wp_region_planN (fun w' => w'.cell? ⟨d, 1, none⟩ = some (.slice oa D.opens.length cap) ∧ Blk w' w1.heap.size (wrV (k, s)) TWr) [0, 1, 2, 3] [4, 5] [6] [7, 8, 9, 10] (by kernel_rfl) (by kernel_rfl) ⟨?_, HN.out⟩ (fun c a d v w h => by cases d <;> exact h) ?_
  · go_simp
  iterate 4
    refine pureS (v := ?_) rfl ?_ ?_
    rotate_left
    · intro wq
      go_simp
      rfl
    simp only [put_lit, List.set_cons_succ, List.set_cons_zero]
  refine holdS (v := ?_) rfl ?_ ?_
  rotate_left
  · rintro wq ⟨hq, _⟩
    go_simp
    rfl
  simp only [put_lit, List.set_cons_succ, List.set_cons_zero]
  refine holdS (v := .agg (wrV (k, s)).toArray) rfl (fun wq hq => exec_load_seg rfl rfl hq.2 undWr sizeWr (by rw [HL.out]; omega) htk.out) ?_
  simp only [put_lit, List.set_cons_succ, List.set_cons_zero]
  refine oneS (j := 6) (rem' := []) ⟨by kernel_rfl, by kernel_rfl⟩ rfl (exec_slice1 (vs := wrV (k, s)) rfl rfl undWrs infoWr3 HL.out (by omega) (by omega)) ⟨?_, HN.out.drew.alloc _⟩ ?_
  · go_simp
  refine endT (g1 rfl (g1 rfl (g1 rfl (g1 rfl g0)))) ?_
  simp only [put_lit, List.set_cons_succ, List.set_cons_zero]
  have hsz : (w1.alloc (.cells (wrV (k, s)).toArray TWr)).drew.heap.size = w1.heap.size + 1 := by simp [World.drew]
  rw [hsz]
  have HN2 := Lib.hid (Blk.new (w1.alloc (.cells (wrV (k, s)).toArray TWr)).drew (wrV (k, s)) TWr)
  have hown2 : ((w1.alloc (.cells (wrV (k, s)).toArray TWr)).drew.alloc (.cells (wrV (k, s)).toArray TWr)).ownsRow B TWr 65 (.slice oa D.opens.length cap) D.opens.length (opensV D.opens) := World.ownsRow.alloc (show World.ownsRow _ _ _ _ _ _ _ from hown1.out) _
  have hFW : Fr B [TWr] w1 ((w1.alloc (.cells (wrV (k, s)).toArray TWr)).drew.alloc (.cells (wrV (k, s)).toArray TWr)) := (((Fr.refl _ _ _).alloc _).drew).alloc _
  have hbs := hD1.bd
  refine wpList_app1 (s := .tmp 31) (x := .tmp 33) (m := 1) (news := wrV (k, s)) rfl rfl undWrs infoWr3 (by omega) rfl hown2 rfl (by rw [HL.out]) ?_ wrV_one (by unfold maxLen; omega) (by omega) (by simp [World.drew]; omega) ?_
  · intro j u hu
    have := HN2.out.cell j
    rw [hsz] at this
    rw [hu] at this
    have hadd : (⟨w1.heap.size + 1, 0, none⟩ : Addr).add j = ⟨w1.heap.size + 1, j, none⟩ := by unfold Addr.add; split <;> simp_all
    rw [hadd]
    exact this
  · intro v2 w2 hown3 hgr
    have hF2 : Fr B [TWr] w1 w2 := hFW.grown hgr (fun g hg => by
      obtain ⟨h1, c, h2⟩ := owned_types hD1.opens g hg
      exact .inr ⟨h1, c, TWr, by simp, h2⟩)
    obtain ⟨g2, cap2, rfl, _⟩ := owned_slice hown3 (by omega)
    have hfin := Lib.hid (hD1.addOpen (v := .slice (some ⟨g2, 0, none⟩) (D.opens.length + 1) cap2) hF2 hown3 (by have : D.tick.secs.length = D.secs.length := rfl; omega) HS.out hfew)
    have hb2 := hD1.blk.fr hF2 (by decide)
    have e1 := hb2.cell 1
    simp only [List.getElem?_cons_zero, List.getElem?_cons_succ] at e1
    have e2 := hb2.free 1
    have hFS := Lib.hid (hF1.mono (ts' := [TDisk, TWr]) (Nat.le_refl _) (by simp))
    have hF3 := Lib.hid (hF2.mono (ts' := [TDisk, TWr]) (Nat.le_refl _) (by simp))
    clear hown3 hgr hown2 hFW
    simp only [put_lit, List.set_cons_succ, List.set_cons_zero]
    go_wp2_with fail
    go_ret
    refine ⟨rfl, ⟨_, hfin.out⟩, (hFS.out.trans hF3.out).setB hD.bd hD.blk (by decide) _⟩

end Go.Proofs.YtkeamfdceehliaaGreatDoor

/- Slots: what 'slot' has in memory while it goes; its plain twin. -/
import Derived.Test.YtkeamfdceehliaaGreatDoorSlots2
namespace Go.Proofs.YtkeamfdceehliaaGreatDoor
open Go.RowKit

abbrev TSnap : Nat := 55
def snapV (e : Int) (data : List UInt8) : List Value := [.int .u64 e, .string (BA data)]

def rdPay (x : List UInt8) : List UInt8 := if isSec x then secPay x else []
/-- How far a slot has been read. -/
structure SlS where
  D : Dk
  nw : Int
  ep : Int
  ok : Bool
  data : List UInt8
  n : Nat
  bad : Bool
def slStep (a : Nat) (S : SlS) : SlS :=
  if S.D.bad then { S with D := S.D.readN.tick, bad := true }
  else
    let x := S.D.cur (a + S.n)
    let ep := if S.n = 0 then secEp x else S.ep
    { D := S.D.readN.tick, nw := max S.nw (secEp x), ep := ep, ok := S.ok && isWhole x ep S.n, data := S.data ++ rdPay x, n := S.n + 1, bad := false }
def slRun (a : Nat) : Nat → SlS → SlS
  | 0, S => S
  | i + 1, S => if (slRun a i S).bad then slRun a i S else slStep a (slRun a i S)
def slInit (D : Dk) (nw : Int) : SlS := { D := D, nw := nw, ep := 0, ok := true, data := [], n := 0, bad := false }

theorem slRun_n (a : Nat) (S : SlS) (h0 : S.bad = false) : ∀ i, (slRun a i S).bad = false → (slRun a i S).n = S.n + i
  | 0, _ => rfl
  | i + 1, h => by
    unfold slRun at h ⊢
    split at h
    · rename_i hb
      rw [hb] at h
      cases h
    · rename_i hb
      rw [if_neg hb]
      unfold slStep at h ⊢
      split at h
      · cases h
      · rename_i hd
        rw [if_neg hd]
        simp only
        rw [slRun_n a S h0 i (by simpa using hb)]
        omega
theorem slRun_stop (a : Nat) (S : SlS) : ∀ i k, i ≤ k → (slRun a i S).bad = true → slRun a k S = slRun a i S := by
  intro i k hk hb
  obtain ⟨m, rfl⟩ := Nat.le.dest hk
  clear hk
  induction m with
  | zero => rfl
  | succ m ih =>
    rw [show i + (m + 1) = (i + m) + 1 by omega, slRun, ih, if_pos hb]

theorem DiskIn.keep {B d sb : Nat} {osl : Value} {D : Dk} {w w' : World} (h : DiskIn B w d sb osl D) (hk : ∀ (k : Nat) (c : Array Value) (t : TypeId), w.heap[k]? = some (.cells c t (0, 0)) → w'.heap[k]? = some (.cells c t (0, 0))) : DiskIn B w' d sb osl D := by
  refine ⟨hk _ _ _ h.blk, hk _ _ _ h.secs, ?_, h.bd, h.bs, h.pos, h.many, h.len, h.olen, h.ofew, h.failIn⟩
  obtain ⟨g1, g2⟩ := h.opens
  exact ⟨g1, g2.elim .inl (fun ⟨g, cap, cur, hv, hg, hh, r⟩ => .inr ⟨g, cap, cur, hv, hg, hk _ _ _ hh, r⟩)⟩
theorem DiskIn.drew {B d sb : Nat} {osl : Value} {D : Dk} {w : World} (h : DiskIn B w d sb osl D) : DiskIn B w.drew d sb osl D := h.keep fun _ _ _ h => h
theorem DiskIn.cur_len {B d sb : Nat} {osl : Value} {D : Dk} {w : World} (h : DiskIn B w d sb osl D) {i : Nat} (hi : i < D.secs.length) : (D.cur i).length = 64 := by
  unfold Dk.cur
  refine look_len _ _ (fun o ho => (h.olen o ho).2) _ ?_
  rw [List.getD, List.getElem?_eq_getElem hi]
  exact h.len _ (List.getElem_mem hi)

structure SlW (B : Nat) (w0 : World) (d sb : Nat) (osl : Value) (s j k : Nat) (rd : Bool) (last : Int) (r : Loop) (S : SlS) (W : World) : Prop where
  p0 : Blk W w0.heap.size [dp s] TPSlots
  p1 : Blk W (w0.heap.size + 1) (snapV 0 []) TSnap
  p2 : Blk W (w0.heap.size + 2) (snapV S.ep S.data) TSnap
  p3 : Blk W (w0.heap.size + 3) [.bool S.ok] 4
  p4 : Blk W (w0.heap.size + 4) [.int .u64 S.n] 39
  p5 : Blk W (w0.heap.size + 5) [.int .i64 (if S.bad then 18 else 0)] 26
  p6 : Blk W (w0.heap.size + 6) [dp s] TPSlots
  p7 : Blk W (w0.heap.size + 7) [.int .i64 j] 3
  p8 : W.heap[w0.heap.size + 8]? = some (.deferred (some []))
  p9 : W.heap[w0.heap.size + 9]? = some (.loop r)
  ps : Blk W s (slotsV d 0 k rd S.nw last) TSlots
  pd : DiskIn B W d sb osl S.D
  fr : Fr B [TDisk, TSlots] w0 W
  s0 : ∃ cs, Blk w0 s cs TSlots
  hB : B ≤ s
  hw : B ≤ w0.heap.size

section
variable {B d sb s j k : Nat} {w0 W W' : World} {osl : Value} {rd : Bool} {last : Int} {r : Loop} {S : SlS}
theorem SlW.lt (h : SlW B w0 d sb osl s j k rd last r S W) : s < w0.heap.size := by obtain ⟨cs, h⟩ := h.s0; exact h.lt
theorem SlW.below (h : SlW B w0 d sb osl s j k rd last r S W) (hb : Below W.heap.size W W') : SlW B w0 d sb osl s j k rd last r S W' := by
  have hk : ∀ (k : Nat) (o : Obj), W.heap[k]? = some o → W'.heap[k]? = some o := fun k o ho => (hb.block k (lt_of_get ho)).trans ho
  exact ⟨hk _ _ h.p0, hk _ _ h.p1, hk _ _ h.p2, hk _ _ h.p3, hk _ _ h.p4, hk _ _ h.p5, hk _ _ h.p6, hk _ _ h.p7, hk _ _ h.p8, hk _ _ h.p9, hk _ _ h.ps, h.pd.keep (fun k _ _ => hk k _), h.fr.trans (Fr.of_below hb), h.s0, h.hB, h.hw⟩
theorem SlW.alloc (h : SlW B w0 d sb osl s j k rd last r S W) (o : Obj) : SlW B w0 d sb osl s j k rd last r S (W.alloc o) := h.below ((Below.refl _ W).alloc (Nat.le_refl _) o)
theorem SlW.drew (h : SlW B w0 d sb osl s j k rd last r S W) : SlW B w0 d sb osl s j k rd last r S W.drew := h.below ⟨rfl, rfl, rfl, Nat.le_refl _, fun _ _ => rfl⟩
theorem SlW.disk (h : SlW B w0 d sb osl s j k rd last r S W) {D : Dk} (hD : DiskIn B W' d sb osl D) (hf : Fr B [TDisk] W W') : SlW B w0 d sb osl s j k rd last r { S with D := D } W' := by
  refine ⟨h.p0.fr hf (by decide), h.p1.fr hf (by decide), h.p2.fr hf (by decide), h.p3.fr hf (by decide), h.p4.fr hf (by decide), h.p5.fr hf (by decide), h.p6.fr hf (by decide), h.p7.fr hf (by decide), hf.block _ _ h.p8 (.inr id), hf.block _ _ h.p9 (.inr id), h.ps.fr hf (by decide), hD, h.fr.trans (hf.mono (Nat.le_refl _) (by simp)), h.s0, h.hB, h.hw⟩
theorem SlW.put (h : SlW B w0 d sb osl s j k rd last r S W) (r' : Loop) : SlW B w0 d sb osl s j k rd last r' S (W.putObj (w0.heap.size + 9) (.loop r')) := by
  have hk : ∀ (k : Nat) (c : Array Value) (t : TypeId), W.heap[k]? = some (.cells c t (0, 0)) → (W.putObj (w0.heap.size + 9) (.loop r')).heap[k]? = some (.cells c t (0, 0)) := fun k c t ho => by
    rw [World.putObj_heap_other]
    · exact ho
    · rintro rfl
      rw [h.p9] at ho
      cases ho
  refine ⟨hk _ _ _ h.p0, hk _ _ _ h.p1, hk _ _ _ h.p2, hk _ _ _ h.p3, hk _ _ _ h.p4, hk _ _ _ h.p5, hk _ _ _ h.p6, hk _ _ _ h.p7, (World.putObj_heap_other (by omega)).trans h.p8, World.putObj_heap_same (lt_of_get h.p9), hk _ _ _ h.ps, h.pd.keep hk, ?_, h.s0, h.hB, h.hw⟩
  exact ⟨h.fr.os, h.fr.tape, h.fr.output, by simpa using h.fr.size, fun k o hk ho => (World.putObj_heap_other (by have := lt_of_get hk; omega)).trans (h.fr.block k o hk ho)⟩
theorem SlW.hk {W : World} {b t : Nat} {cs : List Value} (_hb : Blk W b cs t) {i : Nat} {u : Value} {k : Nat} {o : Obj} (hne : k ≠ b) (ho : W.heap[k]? = some o) : (W.setCell ⟨b, i, none⟩ u).heap[k]? = some o := by
  rw [heap_setCell_other _ _ _ _ hne]
  exact ho
theorem SlW.setB (h : SlW B w0 d sb osl s j k rd last r S W) : SlW B w0 d sb osl s j k rd last r { S with bad := true } (W.setCell ⟨w0.heap.size + 5, 0, none⟩ (.int .i64 18)) := by
  have hs := h.lt
  have hw := h.hw
  have hf : Fr B [26] W (W.setCell ⟨w0.heap.size + 5, 0, none⟩ (.int .i64 18)) := (Fr.refl _ _ _).setB (by omega) h.p5 (by simp) _
  refine ⟨h.p0.fr hf (by decide), h.p1.fr hf (by decide), h.p2.fr hf (by decide), h.p3.fr hf (by decide), h.p4.fr hf (by decide), ?_, h.p6.fr hf (by decide), h.p7.fr hf (by decide), hf.block _ _ h.p8 (.inr id), hf.block _ _ h.p9 (.inr id), h.ps.fr hf (by decide), h.pd.fr hf (by decide) (by decide) (by decide), h.fr.setNew (by simp) _, h.s0, h.hB, h.hw⟩
  simpa using h.p5.set 0 (.int .i64 18)
theorem SlW.setOk (h : SlW B w0 d sb osl s j k rd last r S W) (b : Bool) : SlW B w0 d sb osl s j k rd last r { S with ok := b } (W.setCell ⟨w0.heap.size + 3, 0, none⟩ (.bool b)) := by
  have hs := h.lt
  have hw := h.hw
  have hf : Fr B [4] W (W.setCell ⟨w0.heap.size + 3, 0, none⟩ (.bool b)) := (Fr.refl _ _ _).setB (by omega) h.p3 (by simp) _
  refine ⟨h.p0.fr hf (by decide), h.p1.fr hf (by decide), h.p2.fr hf (by decide), ?_, h.p4.fr hf (by decide), h.p5.fr hf (by decide), h.p6.fr hf (by decide), h.p7.fr hf (by decide), hf.block _ _ h.p8 (.inr id), hf.block _ _ h.p9 (.inr id), h.ps.fr hf (by decide), h.pd.fr hf (by decide) (by decide) (by decide), h.fr.setNew (by simp) _, h.s0, h.hB, h.hw⟩
  simpa using h.p3.set 0 (.bool b)
theorem SlW.setN (h : SlW B w0 d sb osl s j k rd last r S W) (m : Nat) : SlW B w0 d sb osl s j k rd last r { S with n := m } (W.setCell ⟨w0.heap.size + 4, 0, none⟩ (.int .u64 m)) := by
  have hs := h.lt
  have hw := h.hw
  have hf : Fr B [39] W (W.setCell ⟨w0.heap.size + 4, 0, none⟩ (.int .u64 m)) := (Fr.refl _ _ _).setB (by omega) h.p4 (by simp) _
  refine ⟨h.p0.fr hf (by decide), h.p1.fr hf (by decide), h.p2.fr hf (by decide), h.p3.fr hf (by decide), ?_, h.p5.fr hf (by decide), h.p6.fr hf (by decide), h.p7.fr hf (by decide), hf.block _ _ h.p8 (.inr id), hf.block _ _ h.p9 (.inr id), h.ps.fr hf (by decide), h.pd.fr hf (by decide) (by decide) (by decide), h.fr.setNew (by simp) _, h.s0, h.hB, h.hw⟩
  simpa using h.p4.set 0 (.int .u64 m)
theorem SlW.setEp (h : SlW B w0 d sb osl s j k rd last r S W) (e : Int) : SlW B w0 d sb osl s j k rd last r { S with ep := e } (W.setCell ⟨w0.heap.size + 2, 0, none⟩ (.int .u64 e)) := by
  have hs := h.lt
  have hw := h.hw
  have hf : Fr B [TSnap] W (W.setCell ⟨w0.heap.size + 2, 0, none⟩ (.int .u64 e)) := (Fr.refl _ _ _).setB (by omega) h.p2 (by simp) _
  refine ⟨h.p0.fr hf (by decide), h.p1.other (by simp) _, ?_, h.p3.fr hf (by decide), h.p4.fr hf (by decide), h.p5.fr hf (by decide), h.p6.fr hf (by decide), h.p7.fr hf (by decide), hf.block _ _ h.p8 (.inr id), hf.block _ _ h.p9 (.inr id), h.ps.fr hf (by decide), h.pd.fr hf (by decide) (by decide) (by decide), h.fr.setNew (by simp) _, h.s0, h.hB, h.hw⟩
  simpa [snapV] using h.p2.set 0 (.int .u64 e)
theorem SlW.setDt (h : SlW B w0 d sb osl s j k rd last r S W) (l : List UInt8) : SlW B w0 d sb osl s j k rd last r { S with data := l } (W.setCell ⟨w0.heap.size + 2, 1, none⟩ (.string (BA l))) := by
  have hs := h.lt
  have hw := h.hw
  have hf : Fr B [TSnap] W (W.setCell ⟨w0.heap.size + 2, 1, none⟩ (.string (BA l))) := (Fr.refl _ _ _).setB (by omega) h.p2 (by simp) _
  refine ⟨h.p0.fr hf (by decide), h.p1.other (by simp) _, ?_, h.p3.fr hf (by decide), h.p4.fr hf (by decide), h.p5.fr hf (by decide), h.p6.fr hf (by decide), h.p7.fr hf (by decide), hf.block _ _ h.p8 (.inr id), hf.block _ _ h.p9 (.inr id), h.ps.fr hf (by decide), h.pd.fr hf (by decide) (by decide) (by decide), h.fr.setNew (by simp) _, h.s0, h.hB, h.hw⟩
  simpa [snapV] using h.p2.set 1 (.string (BA l))
theorem SlW.setNw (h : SlW B w0 d sb osl s j k rd last r S W) (e : Int) : SlW B w0 d sb osl s j k rd last r { S with nw := e } (W.setCell ⟨s, 4, none⟩ (.int .u64 e)) := by
  have hs := h.lt
  have hw := h.hw
  obtain ⟨cs0, hs0⟩ := h.s0
  have hf : Fr B [TSlots] W (W.setCell ⟨s, 4, none⟩ (.int .u64 e)) := (Fr.refl _ _ _).setB h.hB h.ps (by simp) _
  refine ⟨h.p0.fr hf (by decide), h.p1.fr hf (by decide), h.p2.fr hf (by decide), h.p3.fr hf (by decide), h.p4.fr hf (by decide), h.p5.fr hf (by decide), h.p6.fr hf (by decide), h.p7.fr hf (by decide), hf.block _ _ h.p8 (.inr id), hf.block _ _ h.p9 (.inr id), ?_, h.pd.fr hf (by decide) (by decide) (by decide), h.fr.setB h.hB hs0 (by simp) _, h.s0, h.hB, h.hw⟩
  simpa [slotsV] using h.ps.set 4 (.int .u64 e)
end
end Go.Proofs.YtkeamfdceehliaaGreatDoor

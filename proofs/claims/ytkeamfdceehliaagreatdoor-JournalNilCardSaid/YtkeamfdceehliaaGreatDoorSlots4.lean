/- Slots: what a slot says (slot). -/
import Derived.Test.YtkeamfdceehliaaGreatDoorSlots3
import Derived.WalkMore
import Derived.Test.YtkeamfdceehliaaGreatDoorRange
namespace Go.Proofs.YtkeamfdceehliaaGreatDoor
open Go.RowKit
attribute [local go_sem] Oper.semAt_some BA_size BA_extract BA_append BA_toList

theorem read_there {B d sb : Nat} {osl : Value} {D : Dk} {w : World} (hD : DiskIn B w d sb osl D) (i : Nat) (hi : i < D.secs.length) :
    Calls Tryz.prog 52 #[dp d, .int .i64 (i : Int)] w fun e w' => e = .returned (.tuple #[strV (if D.bad then [] else D.cur i), .int .i64 (if D.bad then 18 else 0)]) ∧ DiskIn B w' d sb osl D.readN.tick ∧ Fr B [TDisk] w w' := by
  have ht : D.there (i : Int) = true := by simp [Dk.there, hi]
  cases hb : D.bad with
  | true => simpa using read_bad hD i ht hb
  | false => simpa using read_ok hD i ht hb

theorem listIn_skp {F : Fence} {n : Nat} {P : Program} {ops : Array Oper} {Q : Exit → Act → World → Prop} {a : Act} {w w' : World} {rest : List Oper} {o : Oper} (hfn : ∀ f, F.fn f) (hgd : o.guard = none) (hd : notDefer o.op = true)
    (hr : (execOp a.eval o).run P w = .ok .skip w') (h : wpListIn F n P ops Q rest (a.put o.dst undef) w') : wpListIn F n P ops Q (o :: rest) a w := by
  unfold wpListIn
  rw [if_pos (by simp [Region.wanted, hgd])]
  refine ⟨fun f _ => hfn f, ?_⟩
  rw [Oper.semAt_eq _ _ _ (fun c hc => by rw [hc] at hd; simp [notDefer] at hd), hr]
  exact h

theorem listIn_addS {F : Fence} {n : Nat} {P : Program} {ops : Array Oper} {Q : Exit → Act → World → Prop} {a : Act} {w : World} {rest : List Oper} {o : Oper} {t t' : TypeId} {x y : Operand} {l m : List UInt8} (hgd : o.guard = none) (ho : o.op = .binOp .add t x y t') (hfn : ∀ f, F.fn f)
    (hx : a.eval x = .string (BA l)) (hy : a.eval y = .string (BA m)) (hb : l.length + m.length ≤ 9223372036854775807) (h : wpListIn F n P ops Q rest (a.put o.dst (.string (BA (l ++ m)))) w) : wpListIn F n P ops Q (o :: rest) a w := by
  unfold wpListIn
  rw [if_pos (by simp [Region.wanted, hgd])]
  refine ⟨fun f _ => hfn f, ?_⟩
  rw [Oper.semAt_eq _ _ _ (fun c hc => by rw [ho] at hc; cases hc), exec_addS ho hx hy hb w]
  exact h
theorem rdCell_form (x : List UInt8) : ∃ e n, rdCell x = .agg #[.string (BA (rdPay x)), .int .u64 e, .int .u64 n] := by
  unfold rdCell rdPay
  split
  · exact ⟨_, _, rfl⟩
  · exact ⟨0, 0, rfl⟩
theorem rdPay_len (x : List UInt8) : (rdPay x).length ≤ 43 := by
  unfold rdPay
  split
  · rename_i h
    unfold isSec at h
    simp only [Bool.and_eq_true, decide_eq_true_eq] at h
    have := h.1.1.2
    unfold secPay
    simp only [List.length_drop, List.length_take]
    omega
  · simp

def slOut (S : SlS) : List Value := if S.ok && !S.bad && (S.ep != 0) then snapV S.ep S.data else snapV 0 []

theorem slRun_secs (a : Nat) (S : SlS) : ∀ i, (slRun a i S).D.secs = S.D.secs
  | 0 => rfl
  | i + 1 => by
    unfold slRun
    split
    · exact slRun_secs a S i
    · unfold slStep
      split <;> exact slRun_secs a S i

theorem slRun_data (a : Nat) (S : SlS) : ∀ i, (slRun a i S).data.length ≤ S.data.length + 43 * i
  | 0 => by simp [slRun]
  | i + 1 => by
    have ih := slRun_data a S i
    unfold slRun
    split
    · omega
    · unfold slStep
      split
      · simp only
        omega
      · have := rdPay_len ((slRun a i S).D.cur (a + (slRun a i S).n))
        simp only [List.length_append]
        omega

theorem slot_end {B d sb s j k : Nat} {w W X : World} {osl : Value} {rd : Bool} {last : Int} {r : Loop} {S : SlS} {cs : List Value} (hE : SlW B w d sb osl s j k rd last r S W) (hf : Fr B [TSnap] W X) (hfw : Fr B [TDisk, TSlots] w X) (hp : Blk X (w.heap.size + 1) cs TSnap) :
    X.heap[w.heap.size + 8]? = some (.deferred (some [])) ∧ Blk (X.putObj (w.heap.size + 8) (.deferred none)) (w.heap.size + 1) cs TSnap ∧ DiskIn B (X.putObj (w.heap.size + 8) (.deferred none)) d sb osl S.D ∧
      Blk (X.putObj (w.heap.size + 8) (.deferred none)) s (slotsV d 0 k rd S.nw last) TSlots ∧ Fr B [TDisk, TSlots] w (X.putObj (w.heap.size + 8) (.deferred none)) := by
  have hK : X.heap[w.heap.size + 8]? = some (.deferred (some [])) := hf.block _ _ hE.p8 (.inr id)
  have hk : ∀ (k : Nat) (c : Array Value) (t : TypeId), X.heap[k]? = some (.cells c t (0, 0)) → (X.putObj (w.heap.size + 8) (.deferred none)).heap[k]? = some (.cells c t (0, 0)) := fun k c t ho => by
    rw [World.putObj_heap_other]
    · exact ho
    · rintro rfl
      rw [hK] at ho
      cases ho
  refine ⟨hK, hk _ _ _ hp, (hE.pd.fr hf (by decide) (by decide) (by decide)).keep hk, hk _ _ _ (hE.ps.fr hf (by decide)), ?_⟩
  exact ⟨hfw.os, hfw.tape, hfw.output, by simpa using hfw.size, fun k o hk ho => (World.putObj_heap_other (by have := lt_of_get hk; omega)).trans (hfw.block k o hk ho)⟩

set_option maxRecDepth 100000 in
set_option maxHeartbeats 4000000 in
theorem slot_any {B d sb s j k : Nat} {osl : Value} {D : Dk} {w : World} {rd : Bool} {nw last : Int} (hD : DiskIn B w d sb osl D) (hS : Blk w s (slotsV d 0 k rd nw last) TSlots) (hbs : B ≤ s) (hk : k ≤ 64) (hj : j ≤ 1) (hlen : j * k + k ≤ D.secs.length) (_hnw : 0 ≤ nw ∧ nw < 18446744073709551616) :
    Calls Tryz.prog 36 #[dp s, .int .i64 (j : Int)] w fun e w' =>
      e = .returned (.tuple #[.agg (slOut (slRun (j * k) k (slInit D nw))).toArray, .int .i64 (if (slRun (j * k) k (slInit D nw)).bad then 18 else 0)]) ∧
      DiskIn B w' d sb osl (slRun (j * k) k (slInit D nw)).D ∧ Blk w' s (slotsV d 0 k rd (slRun (j * k) k (slInit D nw)).nw last) TSlots ∧ Fr B [TDisk, TSlots] w w' := by
  obtain ⟨S0, hS0⟩ : ∃ S0, slInit D nw = S0 := ⟨_, rfl⟩
  rw [hS0]
  obtain ⟨a, ha⟩ : ∃ a, j * k = a := ⟨_, rfl⟩
  have ha2 : a ≤ 64 := by
    rw [← ha]
    have := Nat.mul_le_mul hj hk
    omega
  rw [ha] at hlen ⊢
  refine (callsIn_wide (n := 9)).1 ?_
  refine callsIn_of_wp_marks Tryz.func36 rfl trivial (wpIn_wide.2 ?_)
  simp only [Tryz.ntmps36, List.size_toArray, List.length_cons, List.length_nil, Nat.reduceAdd, Nat.reduceSub, Array.replicate_succ, Array.replicate_zero, List.push_toArray, List.append_toArray, List.nil_append, List.cons_append]
  go_wp2_with (first
    | (go_at_call 45; refine (sectors_ok s (j : Int) _).mono ?_; rintro e w' ⟨rfl, rfl⟩)
    | go_step3)
  obtain ⟨W0, hW0⟩ : ∃ W0, W0 = ((((((((w.alloc (.cells #[dp s] 60)).alloc (.cells #[.int .u64 0, .string ⟨#[]⟩] 55)).alloc (.cells #[.int .u64 0, .string ⟨#[]⟩] 55)).alloc (.cells #[.bool true] 4)).alloc (.cells #[.int .u64 0] 39)).alloc (.cells #[.int .i64 0] 26)).alloc (.cells #[dp s] TPSlots)).alloc (.cells #[.int .i64 j] 3)) := ⟨_, rfl⟩
  rw [← hW0]
  have hsz : W0.heap.size = w.heap.size + 8 := by rw [hW0]; simp only [World.size_alloc]
  simp only [Nat.add_assoc, Nat.reduceAdd]
  have hHW : ∀ r, SlW B w d sb osl s j k rd last r S0 ((W0.alloc (.deferred (some []))).alloc (.loop r)) := by
    intro r
    have hbel : Below w.heap.size w ((W0.alloc (.deferred (some []))).alloc (.loop r)) := by
      rw [hW0]
      exact Below.alloc (Below.alloc (Below.alloc (Below.alloc (Below.alloc (Below.alloc (Below.alloc (Below.alloc (Below.alloc (Below.alloc (Below.refl _ _) (by first | exact Nat.le_refl _ | (simp only [World.size_alloc]; omega)) _) (by first | exact Nat.le_refl _ | (simp only [World.size_alloc]; omega)) _) (by first | exact Nat.le_refl _ | (simp only [World.size_alloc]; omega)) _) (by first | exact Nat.le_refl _ | (simp only [World.size_alloc]; omega)) _) (by first | exact Nat.le_refl _ | (simp only [World.size_alloc]; omega)) _) (by first | exact Nat.le_refl _ | (simp only [World.size_alloc]; omega)) _) (by first | exact Nat.le_refl _ | (simp only [World.size_alloc]; omega)) _) (by first | exact Nat.le_refl _ | (simp only [World.size_alloc]; omega)) _) (by first | exact Nat.le_refl _ | (simp only [World.size_alloc]; omega)) _) (by first | exact Nat.le_refl _ | (simp only [World.size_alloc]; omega)) _
    have hk : ∀ (k : Nat) (o : Obj), w.heap[k]? = some o → ((W0.alloc (.deferred (some []))).alloc (.loop r)).heap[k]? = some o := fun k o ho => (hbel.block k (lt_of_get ho)).trans ho
    subst hS0
    refine ⟨?_, ?_, ?_, ?_, ?_, ?_, ?_, ?_, ?_, ?_, hk _ _ hS, hD.keep (fun k _ _ => hk k _), Fr.of_below hbel, ⟨_, hS⟩, hbs, by have := hS.lt; omega⟩
    · rw [hW0]
      exact Blk.alloc (Blk.alloc (Blk.alloc (Blk.alloc (Blk.alloc (Blk.alloc (Blk.alloc (Blk.alloc (Blk.alloc (Blk.newAt _ _ _ (by first | rfl | (simp only [World.size_alloc]))) _) _) _) _) _) _) _) _) _
    · rw [hW0]
      exact Blk.alloc (Blk.alloc (Blk.alloc (Blk.alloc (Blk.alloc (Blk.alloc (Blk.alloc (Blk.alloc (Blk.newAt _ _ _ (by first | rfl | (simp only [World.size_alloc]))) _) _) _) _) _) _) _) _
    · rw [hW0]
      exact Blk.alloc (Blk.alloc (Blk.alloc (Blk.alloc (Blk.alloc (Blk.alloc (Blk.alloc (Blk.newAt _ _ _ (by first | rfl | (simp only [World.size_alloc]))) _) _) _) _) _) _) _
    · rw [hW0]
      exact Blk.alloc (Blk.alloc (Blk.alloc (Blk.alloc (Blk.alloc (Blk.alloc (Blk.newAt _ _ _ (by first | rfl | (simp only [World.size_alloc]))) _) _) _) _) _) _
    · rw [hW0]
      exact Blk.alloc (Blk.alloc (Blk.alloc (Blk.alloc (Blk.alloc (Blk.newAt _ _ _ (by first | rfl | (simp only [World.size_alloc]))) _) _) _) _) _
    · rw [hW0]
      exact Blk.alloc (Blk.alloc (Blk.alloc (Blk.alloc (Blk.newAt _ _ _ (by first | rfl | (simp only [World.size_alloc]))) _) _) _) _
    · rw [hW0]
      exact Blk.alloc (Blk.alloc (Blk.alloc (Blk.newAt _ _ _ (by first | rfl | (simp only [World.size_alloc]))) _) _) _
    · rw [hW0]
      exact Blk.alloc (Blk.alloc (Blk.newAt _ _ _ (by first | rfl | (simp only [World.size_alloc]))) _) _
    · have h1 := World.alloc_heap_new W0 (.deferred (some []))
      rw [hsz] at h1
      exact (Below.heap_alloc _ _ _ (by simp; omega)).trans h1
    · have h1 := World.alloc_heap_new (W0.alloc (.deferred (some []))) (.loop r)
      rw [World.size_alloc, hsz] at h1
      exact h1
  clear hW0
  refine range_plain 9 rfl (enters_of Tryz.func53 (by kernel_rfl) rfl) ?_
  intro rec hround
  rw [hsz] at hround ⊢
  simp only [Nat.add_assoc, Nat.reduceAdd, List.append_toArray, List.nil_append, List.cons_append] at hround ⊢
  have hs0 : S0.bad = false := by rw [← hS0]; rfl
  have hs1 : S0.D = D := by rw [← hS0]; rfl
  have hs2 : S0.n = 0 := by rw [← hS0]; rfl
  refine (iter_ok (l := w.heap.size + 9) (m := 8) (s := s) (d := d) (fun i W => (slRun a i S0).bad = false ∧ SlW B w d sb osl s j k rd last (rec .ready none) (slRun a i S0) W)
    (fun W => (slRun a k S0).bad = true ∧ SlW B w d sb osl s j k rd last (rec .done (some (.exit 0))) (slRun a k S0) W) hk ha (by omega) (fun i W _ h => ⟨h.2.p6, h.2.p7, ⟨_, _, _, h.2.ps⟩⟩) ?_ _ ⟨hs0, hHW _⟩).mono ?_
  · rintro i W hi ⟨hnb, hW⟩
    have hsec : (slRun a i S0).D.secs = D.secs := by rw [slRun_secs, hs1]
    have hrt := read_there hW.pd.drew (a + i) (by rw [hsec]; omega)
    have hrun : slRun a (i + 1) S0 = slStep a (slRun a i S0) := by rw [slRun, hnb]; rfl
    have hcl := hW.pd.cur_len (i := a + i) (by rw [hsec]; omega)
    have hn : (slRun a i S0).n = i := by rw [slRun_n a S0 hs0 i hnb, hs2]; omega
    obtain ⟨S, hS1⟩ : ∃ S, slRun a i S0 = S := ⟨_, rfl⟩
    rw [hS1] at hnb hW hsec hrt hrun hcl hn
    refine (show Calls _ _ _ _ _ from (by simpa using hrt)).mono ?_
    rintro e W1 ⟨rfl, hD1, hF1⟩
    have hW1 := hW.drew.disk hD1 hF1
    refine ⟨_, _, rfl, ⟨hW1.p6, hW1.p7, ⟨_, _, _, hW1.ps⟩⟩, ?_⟩
    refine hround 7 W1 _ _ hW1.p9 rfl ?_
    cases hbd : S.D.bad with
    | true =>
      simp only [if_true]
      have hstep : slStep a S = { S with D := S.D.readN.tick, bad := true } := by unfold slStep; rw [if_pos hbd]
      have HST := Lib.hid (hrun.trans hstep)
      have HSP := Lib.hid (slRun_stop a S0 (i + 1) k (by omega) (by rw [HST.out]))
      clear hrun hstep hrt
      gi_wp2
      refine ⟨trivial, ?_⟩
      have hW2 := hW1.put (rec .busy none)
      obtain ⟨W2, hW2e⟩ : ∃ W2, W1.putObj (w.heap.size + 9) (.loop (rec .busy none)) = W2 := ⟨_, rfl⟩
      rw [hW2e] at hW2 ⊢
      have f5 := hW2.p5.free 0
      have c5 := hW2.p5.cell 0
      gi_wp2
      have hW3 := hW2.setB
      have hend := hW3.put (rec .done (some (.exit 0)))
      refine ⟨hW3.p9, .inr ⟨rfl, ?_, ?_⟩⟩
      · rw [HSP.out, HST.out]
      · rw [HSP.out, HST.out]
        exact hend
    | false =>
      simp only [Bool.false_eq_true, if_false]
      obtain ⟨x, hx⟩ : ∃ x, S.D.cur (a + i) = x := ⟨_, rfl⟩
      have hstep : slStep a S = { D := S.D.readN.tick, nw := max S.nw (secEp x), ep := if i = 0 then secEp x else S.ep, ok := S.ok && isWhole x (if i = 0 then secEp x else S.ep) i, data := S.data ++ rdPay x, n := i + 1, bad := false } := by
        unfold slStep
        rw [if_neg (by rw [hbd]; simp)]
        simp only [hn, hx]
      have HST := Lib.hid (hrun.trans hstep)
      rw [hx] at hcl ⊢
      clear hrun hstep hrt
      unfold strV
      gi_wp2
      refine ⟨trivial, ?_⟩
      have hW2 := hW1.put (rec .busy none)
      obtain ⟨W2, hW2e⟩ : ∃ W2, W1.putObj (w.heap.size + 9) (.loop (rec .busy none)) = W2 := ⟨_, rfl⟩
      rw [hW2e] at hW2 ⊢
      have HT := Lib.hid (tag_ok x hcl W2)
      unfold strV at HT
      gi_wp2_with (refine ⟨trivial, ?_⟩; gi_at_call 46; refine (CallsIn.inRound _ (callsIn_wide.2 HT.out)).mono ?_; rintro e w' ⟨rfl, rfl⟩)
      have hW3 := hW2.alloc (.cells #[.string (BA x)] 9)
      obtain ⟨W3, hW3e⟩ : ∃ W3, W2.alloc (.cells #[.string (BA x)] 9) = W3 := ⟨_, rfl⟩
      rw [hW3e] at hW3 ⊢
      refine wpIn_region_planN ⟨fun _ => trivial, rfl, by kernel_rfl⟩ (fun W => W.cell? ⟨w.heap.size, 0, none⟩ = some (dp s) ∧ W.cell? ⟨s, 4, none⟩ = some (.int .u64 S.nw)) [0, 1, 2, 3, 4, 5, 6, 7, 8] [] [9] (by kernel_rfl) (by kernel_rfl) ⟨by have := hW3.p0.cell 0; simpa using this, by have := hW3.ps.cell 4; simpa [slotsV] using this⟩ (fun c a d v w h => by cases d <;> exact h) ?_
      iterate 9
        refine holdS (v := ?_) rfl ?_ ?_
        rotate_left
        · rintro wq ⟨q1, q2⟩
          go_simp
          rfl
        simp only [put_lit, List.set_cons_succ, List.set_cons_zero]
      refine endTIn (C := fun _ => True) (T1 := []) (g1 rfl g0) ?_
      have hW4 := hW3.drew
      obtain ⟨W4, hW4e⟩ : ∃ W4, W3.drew = W4 := ⟨_, rfl⟩
      rw [hW4e] at hW4 ⊢
      have hlt := hW4.lt
      have f1 := hW4.ps.free 4
      have c1 := hW4.ps.cell 4
      have hW5 := hW4.setNw (max S.nw (rq64 (x.drop 48)))
      simp only [slotsV, List.getElem?_cons_zero, List.getElem?_cons_succ] at c1
      refine listIn_skp (w' := W4.setCell ⟨s, 4, none⟩ (.int .u64 (max S.nw (rq64 (x.drop 48))))) (fun _ => trivial) rfl rfl (by go_simp) ?_
      obtain ⟨W5, hW5e⟩ : ∃ W5, W4.setCell ⟨s, 4, none⟩ (.int .u64 (max S.nw (rq64 (x.drop 48)))) = W5 := ⟨_, rfl⟩
      rw [hW5e] at hW5 ⊢
      have c2 := hW5.p4.cell 0
      have f2 := hW5.p2.free 0
      have c3 := hW5.p2.cell 0
      simp only [snapV, List.getElem?_cons_zero, hn] at c2 c3
      obtain ⟨ce, cn, hcell⟩ := rdCell_form x
      have hpl := rdPay_len x
      have hHR := Lib.hid (fun w => read_any x (by omega) w)
      rw [hcell] at hHR
      obtain ⟨pay, hpay⟩ : ∃ pay, rdPay x = pay := ⟨_, rfl⟩
      have hse : secEp x = rq64 (x.drop 48) := rfl
      rw [hpay] at hHR hpl HST
      rw [hse] at HST
      have HPE := Lib.hid hpay
      clear hcell hpay hse
      have hHW := Lib.hid (fun (e n : Int) w => whole_any x (by omega) e n w)
      have hdl : S.data.length ≤ 43 * i := by
        have := slRun_data a S0 i
        rw [hS1, ← hS0] at this
        simpa [slInit] using this
      by_cases hi0 : i = 0
      · cases hok : S.ok
        · rw [hok] at hW5 HST
          gi_wp2_with (first
            | (refine ⟨trivial, ?_⟩; gi_at_call 47; refine (CallsIn.inRound _ (callsIn_wide.2 (hHR.out _))).mono ?_; rintro e W6 ⟨rfl, hb6⟩
               have hW6 := (hW5.setEp (rq64 (x.drop 48))).below hb6
               have hW7 := hW6.alloc (.cells #[.string (BA pay), .int .u64 ce, .int .u64 cn] 104)
               have c7 := hW7.p3.cell 0
               have f7 := hW7.p3.free 0
               have c8 := hW7.p2.cell 0
               have c9 := hW7.p4.cell 0
               have c10 := hW7.p2.cell 1
               have f10 := hW7.p2.free 1
               have f9 := hW7.p4.free 0
               have hsz6 := lt_of_get hW6.p9
               have hq1 : W6.heap.size ≠ w.heap.size + 3 := by omega
               have hq2 : w.heap.size + 3 ≠ W6.heap.size := by omega
               have hN7 := Blk.new W6 [.string (BA pay), .int .u64 ce, .int .u64 cn] 104
               have c11 := hN7.cell 0
               simp only [snapV, List.getElem?_cons_zero, List.getElem?_cons_succ, hn] at c7 c8 c9 c10 c11)
            | (refine ⟨trivial, ?_⟩; gi_at_call 48; refine (CallsIn.inRound _ (callsIn_wide.2 (hHW.out _ _ _))).mono ?_; rintro e W8 ⟨rfl, hb8⟩
               have hW8 := hW7.below hb8
               have hN8 := hN7.below hb8 hN7.lt
               have d7 := hW8.p3.cell 0
               have e7 := hW8.p3.free 0
               have d9 := hW8.p4.cell 0
               have d10 := hW8.p2.cell 1
               have e10 := hW8.p2.free 1
               have e9 := hW8.p4.free 0
               have d11 := hN8.cell 0
               simp only [snapV, List.getElem?_cons_zero, List.getElem?_cons_succ, hn] at d7 d9 d10 d11)
            | (refine listIn_addS (l := S.data) (m := pay) rfl rfl (fun _ => trivial) rfl rfl (by omega) ?_)
            | (refine ⟨(trivial : Fence.wide.fn 48), ?_⟩))
          subst hi0
          have hfin := ((hW7.setOk false).setDt (S.data ++ pay)).setN 1
          have hput := hfin.put (rec .ready none)
          refine ⟨hfin.p9, .inl ⟨rfl, by rw [HST.out], ?_⟩⟩
          rw [HST.out]
          simpa [hnb] using hput
        · rw [hok] at hW5 HST
          gi_wp2_with (first
            | (refine ⟨trivial, ?_⟩; gi_at_call 47; refine (CallsIn.inRound _ (callsIn_wide.2 (hHR.out _))).mono ?_; rintro e W6 ⟨rfl, hb6⟩
               have hW6 := (hW5.setEp (rq64 (x.drop 48))).below hb6
               have hW7 := hW6.alloc (.cells #[.string (BA pay), .int .u64 ce, .int .u64 cn] 104)
               have c7 := hW7.p3.cell 0
               have f7 := hW7.p3.free 0
               have c8 := hW7.p2.cell 0
               have c9 := hW7.p4.cell 0
               have c10 := hW7.p2.cell 1
               have f10 := hW7.p2.free 1
               have f9 := hW7.p4.free 0
               have hsz6 := lt_of_get hW6.p9
               have hq1 : W6.heap.size ≠ w.heap.size + 3 := by omega
               have hq2 : w.heap.size + 3 ≠ W6.heap.size := by omega
               have hN7 := Blk.new W6 [.string (BA pay), .int .u64 ce, .int .u64 cn] 104
               have c11 := hN7.cell 0
               simp only [snapV, List.getElem?_cons_zero, List.getElem?_cons_succ, hn] at c7 c8 c9 c10 c11)
            | (refine ⟨trivial, ?_⟩; gi_at_call 48; refine (CallsIn.inRound _ (callsIn_wide.2 (hHW.out _ _ _))).mono ?_; rintro e W8 ⟨rfl, hb8⟩
               have hW8 := hW7.below hb8
               have hN8 := hN7.below hb8 hN7.lt
               have d7 := hW8.p3.cell 0
               have e7 := hW8.p3.free 0
               have d9 := hW8.p4.cell 0
               have d10 := hW8.p2.cell 1
               have e10 := hW8.p2.free 1
               have e9 := hW8.p4.free 0
               have d11 := hN8.cell 0
               simp only [snapV, List.getElem?_cons_zero, List.getElem?_cons_succ, hn] at d7 d9 d10 d11)
            | (refine listIn_addS (l := S.data) (m := pay) rfl rfl (fun _ => trivial) rfl rfl (by omega) ?_)
            | (refine ⟨(trivial : Fence.wide.fn 48), ?_⟩))
          subst hi0
          have hfin := ((hW8.setOk (isWhole x (rq64 (x.drop 48)) 0)).setDt (S.data ++ pay)).setN 1
          have hput := hfin.put (rec .ready none)
          refine ⟨hfin.p9, .inl ⟨rfl, by rw [HST.out], ?_⟩⟩
          rw [HST.out]
          simpa [hnb] using hput
      · cases hok : S.ok
        · rw [hok] at hW5 HST
          gi_wp2_with (first
            | (refine ⟨trivial, ?_⟩; gi_at_call 47; refine (CallsIn.inRound _ (callsIn_wide.2 (hHR.out _))).mono ?_; rintro e W6 ⟨rfl, hb6⟩
               have hW6 := hW5.below hb6
               have hW7 := hW6.alloc (.cells #[.string (BA pay), .int .u64 ce, .int .u64 cn] 104)
               have c7 := hW7.p3.cell 0
               have f7 := hW7.p3.free 0
               have c8 := hW7.p2.cell 0
               have c9 := hW7.p4.cell 0
               have c10 := hW7.p2.cell 1
               have f10 := hW7.p2.free 1
               have f9 := hW7.p4.free 0
               have hsz6 := lt_of_get hW6.p9
               have hq1 : W6.heap.size ≠ w.heap.size + 3 := by omega
               have hq2 : w.heap.size + 3 ≠ W6.heap.size := by omega
               have hN7 := Blk.new W6 [.string (BA pay), .int .u64 ce, .int .u64 cn] 104
               have c11 := hN7.cell 0
               simp only [snapV, List.getElem?_cons_zero, List.getElem?_cons_succ, hn] at c7 c8 c9 c10 c11)
            | (refine ⟨trivial, ?_⟩; gi_at_call 48; refine (CallsIn.inRound _ (callsIn_wide.2 (hHW.out _ _ _))).mono ?_; rintro e W8 ⟨rfl, hb8⟩
               have hW8 := hW7.below hb8
               have hN8 := hN7.below hb8 hN7.lt
               have d7 := hW8.p3.cell 0
               have e7 := hW8.p3.free 0
               have d9 := hW8.p4.cell 0
               have d10 := hW8.p2.cell 1
               have e10 := hW8.p2.free 1
               have e9 := hW8.p4.free 0
               have d11 := hN8.cell 0
               simp only [snapV, List.getElem?_cons_zero, List.getElem?_cons_succ, hn] at d7 d9 d10 d11)
            | (refine listIn_addS (l := S.data) (m := pay) rfl rfl (fun _ => trivial) rfl rfl (by omega) ?_)
            | (refine ⟨(trivial : Fence.wide.fn 48), ?_⟩))
          have hfin := ((hW7.setOk false).setDt (S.data ++ pay)).setN (i + 1)
          have hput := hfin.put (rec .ready none)
          refine ⟨hfin.p9, .inl ⟨rfl, by rw [HST.out], ?_⟩⟩
          rw [HST.out]
          simpa [hnb, hi0] using hput
        · rw [hok] at hW5 HST
          gi_wp2_with (first
            | (refine ⟨trivial, ?_⟩; gi_at_call 47; refine (CallsIn.inRound _ (callsIn_wide.2 (hHR.out _))).mono ?_; rintro e W6 ⟨rfl, hb6⟩
               have hW6 := hW5.below hb6
               have hW7 := hW6.alloc (.cells #[.string (BA pay), .int .u64 ce, .int .u64 cn] 104)
               have c7 := hW7.p3.cell 0
               have f7 := hW7.p3.free 0
               have c8 := hW7.p2.cell 0
               have c9 := hW7.p4.cell 0
               have c10 := hW7.p2.cell 1
               have f10 := hW7.p2.free 1
               have f9 := hW7.p4.free 0
               have hsz6 := lt_of_get hW6.p9
               have hq1 : W6.heap.size ≠ w.heap.size + 3 := by omega
               have hq2 : w.heap.size + 3 ≠ W6.heap.size := by omega
               have hN7 := Blk.new W6 [.string (BA pay), .int .u64 ce, .int .u64 cn] 104
               have c11 := hN7.cell 0
               simp only [snapV, List.getElem?_cons_zero, List.getElem?_cons_succ, hn] at c7 c8 c9 c10 c11)
            | (refine ⟨trivial, ?_⟩; gi_at_call 48; refine (CallsIn.inRound _ (callsIn_wide.2 (hHW.out _ _ _))).mono ?_; rintro e W8 ⟨rfl, hb8⟩
               have hW8 := hW7.below hb8
               have hN8 := hN7.below hb8 hN7.lt
               have d7 := hW8.p3.cell 0
               have e7 := hW8.p3.free 0
               have d9 := hW8.p4.cell 0
               have d10 := hW8.p2.cell 1
               have e10 := hW8.p2.free 1
               have e9 := hW8.p4.free 0
               have d11 := hN8.cell 0
               simp only [snapV, List.getElem?_cons_zero, List.getElem?_cons_succ, hn] at d7 d9 d10 d11)
            | (refine listIn_addS (l := S.data) (m := pay) rfl rfl (fun _ => trivial) rfl rfl (by omega) ?_)
            | (refine ⟨(trivial : Fence.wide.fn 48), ?_⟩))
          have hfin := ((hW8.setOk (isWhole x S.ep i)).setDt (S.data ++ pay)).setN (i + 1)
          have hput := hfin.put (rec .ready none)
          refine ⟨hfin.p9, .inl ⟨rfl, by rw [HST.out], ?_⟩⟩
          rw [HST.out]
          simpa [hnb, hi0] using hput
  · obtain ⟨S, hS⟩ : ∃ S, slRun a k S0 = S := ⟨_, rfl⟩
    rw [hS]
    rintro e w3 ⟨⟨v, rfl⟩, hJ | hX⟩
    · refine ⟨⟨v, rfl⟩, .inl ⟨hJ.2.p9, ?_⟩⟩
      have hE := hJ.2.put (rec .exhausted none)
      obtain ⟨W9, hW9⟩ : ∃ W9, w3.putObj (w.heap.size + 9) (.loop (rec .exhausted none)) = W9 := ⟨_, rfl⟩
      rw [hW9] at hE ⊢
      have c3 := hE.p3.cell 0
      have c5 := hE.p5.cell 0
      have c20 := hE.p2.cell 0
      have c21 := hE.p2.cell 1
      have c10 := hE.p1.cell 0
      have c11 := hE.p1.cell 1
      have f10 := hE.p1.free 0
      have f11 := hE.p1.free 1
      simp only [snapV, List.getElem?_cons_zero, List.getElem?_cons_succ, hJ.1] at c3 c5 c20 c21 c10 c11
      by_cases hep : S.ep = 0
      · cases hok : S.ok
        · rw [hok] at c3
          rw [hep] at c20
          go_wp2_with go_step3
          go_region
          go_wp2_with go_step3
          simp only [Exit.noGoto]
          have hw := hE.hw
          have he := slot_end hE ((((Fr.refl _ _ _).setB (by omega) hE.p1 (by simp) _).setB (by omega) hE.p1 (by simp) _).drew) (((hE.fr.setNew (by simp) _).setNew (by simp) _).drew) ((hE.p1.set 0 (.int .u64 0)).set 1 (.string ⟨#[]⟩))
          obtain ⟨g1, g2, g3, g4, g5⟩ := he
          have r0 := g2.cell 0
          have r1 := g2.cell 1
          simp only [snapV, List.set_cons_zero, List.set_cons_succ, List.getElem?_cons_zero, List.getElem?_cons_succ] at r0 r1
          refine ⟨by simp, .inl ⟨_, _, rfl, run_takeDeferred g1, ?_⟩⟩
          refine ⟨.tuple #[.agg (slOut S).toArray, .int .i64 (if S.bad then 18 else 0)], ?_, ?_⟩
          · simp [results, Tryz.results36, go_sem, r0, r1]
            simp [slOut, hJ.1, snapV, hok, hep]
            try rfl
          · rw [hS]
            simp only [hJ.1]
            exact ⟨trivial, g3, g4, g5⟩
        · rw [hok] at c3
          rw [hep] at c20
          go_wp2_with go_step3
          go_region
          go_wp2_with go_step3
          simp only [Exit.noGoto]
          have hw := hE.hw
          have he := slot_end hE ((((Fr.refl _ _ _).setB (by omega) hE.p1 (by simp) _).setB (by omega) hE.p1 (by simp) _).drew) (((hE.fr.setNew (by simp) _).setNew (by simp) _).drew) ((hE.p1.set 0 (.int .u64 0)).set 1 (.string ⟨#[]⟩))
          obtain ⟨g1, g2, g3, g4, g5⟩ := he
          have r0 := g2.cell 0
          have r1 := g2.cell 1
          simp only [snapV, List.set_cons_zero, List.set_cons_succ, List.getElem?_cons_zero, List.getElem?_cons_succ] at r0 r1
          refine ⟨by simp, .inl ⟨_, _, rfl, run_takeDeferred g1, ?_⟩⟩
          refine ⟨.tuple #[.agg (slOut S).toArray, .int .i64 (if S.bad then 18 else 0)], ?_, ?_⟩
          · simp [results, Tryz.results36, go_sem, r0, r1]
            simp [slOut, hJ.1, snapV, hok, hep]
            try rfl
          · rw [hS]
            simp only [hJ.1]
            exact ⟨trivial, g3, g4, g5⟩
      · cases hok : S.ok
        · rw [hok] at c3
          go_wp2_with go_step3
          go_region
          go_wp2_with go_step3
          simp only [Exit.noGoto]
          have hw := hE.hw
          have he := slot_end hE ((((Fr.refl _ _ _).setB (by omega) hE.p1 (by simp) _).setB (by omega) hE.p1 (by simp) _).drew) (((hE.fr.setNew (by simp) _).setNew (by simp) _).drew) ((hE.p1.set 0 (.int .u64 0)).set 1 (.string ⟨#[]⟩))
          obtain ⟨g1, g2, g3, g4, g5⟩ := he
          have r0 := g2.cell 0
          have r1 := g2.cell 1
          simp only [snapV, List.set_cons_zero, List.set_cons_succ, List.getElem?_cons_zero, List.getElem?_cons_succ] at r0 r1
          refine ⟨by simp, .inl ⟨_, _, rfl, run_takeDeferred g1, ?_⟩⟩
          refine ⟨.tuple #[.agg (slOut S).toArray, .int .i64 (if S.bad then 18 else 0)], ?_, ?_⟩
          · simp [results, Tryz.results36, go_sem, r0, r1]
            simp [slOut, hJ.1, snapV, hok]
            try rfl
          · rw [hS]
            simp only [hJ.1]
            exact ⟨trivial, g3, g4, g5⟩
        · rw [hok] at c3
          go_wp2_with go_step3
          simp only [Exit.noGoto]
          have hw := hE.hw
          have he := slot_end hE ((((Fr.refl _ _ _).setB (by omega) hE.p1 (by simp) _).setB (by omega) hE.p1 (by simp) _)) (((hE.fr.setNew (by simp) _).setNew (by simp) _)) ((hE.p1.set 0 (.int .u64 S.ep)).set 1 (.string (BA S.data)))
          obtain ⟨g1, g2, g3, g4, g5⟩ := he
          have r0 := g2.cell 0
          have r1 := g2.cell 1
          simp only [snapV, List.set_cons_zero, List.set_cons_succ, List.getElem?_cons_zero, List.getElem?_cons_succ] at r0 r1
          refine ⟨by simp, .inl ⟨_, _, rfl, run_takeDeferred g1, ?_⟩⟩
          refine ⟨.tuple #[.agg (slOut S).toArray, .int .i64 (if S.bad then 18 else 0)], ?_, ?_⟩
          · simp [results, Tryz.results36, go_sem, r0, r1]
            simp [slOut, hJ.1, snapV, hok, hep]
            try rfl
          · rw [hS]
            simp only [hJ.1]
            exact ⟨trivial, g3, g4, g5⟩
    · refine ⟨⟨v, rfl⟩, .inr ⟨.exit 0, hX.2.p9, ?_⟩⟩
      have hE := hX.2.put (rec .exhausted (some (.exit 0)))
      obtain ⟨W9, hW9⟩ : ∃ W9, w3.putObj (w.heap.size + 9) (.loop (rec .exhausted (some (.exit 0)))) = W9 := ⟨_, rfl⟩
      rw [hW9] at hE ⊢
      have c3 := hE.p3.cell 0
      have c5 := hE.p5.cell 0
      have c20 := hE.p2.cell 0
      have c21 := hE.p2.cell 1
      have c10 := hE.p1.cell 0
      have c11 := hE.p1.cell 1
      have f10 := hE.p1.free 0
      have f11 := hE.p1.free 1
      simp only [snapV, List.getElem?_cons_zero, List.getElem?_cons_succ, hX.1] at c3 c5 c20 c21 c10 c11
      cases hok : S.ok
      · rw [hok] at c3
        go_wp2_with go_step3
        go_region
        go_wp2_with go_step3
        simp only [Exit.noGoto]
        have hw := hE.hw
        have he := slot_end hE ((((Fr.refl _ _ _).setB (by omega) hE.p1 (by simp) _).setB (by omega) hE.p1 (by simp) _).drew) (((hE.fr.setNew (by simp) _).setNew (by simp) _).drew) ((hE.p1.set 0 (.int .u64 0)).set 1 (.string ⟨#[]⟩))
        obtain ⟨g1, g2, g3, g4, g5⟩ := he
        have r0 := g2.cell 0
        have r1 := g2.cell 1
        simp only [snapV, List.set_cons_zero, List.set_cons_succ, List.getElem?_cons_zero, List.getElem?_cons_succ] at r0 r1
        refine ⟨by simp, .inl ⟨_, _, rfl, run_takeDeferred g1, ?_⟩⟩
        refine ⟨.tuple #[.agg (slOut S).toArray, .int .i64 (if S.bad then 18 else 0)], ?_, ?_⟩
        · simp [results, Tryz.results36, go_sem, r0, r1]
          simp [slOut, hX.1, snapV, hok]
          try rfl
        · rw [hS]
          simp only [hX.1]
          exact ⟨trivial, g3, g4, g5⟩
      · rw [hok] at c3
        go_wp2_with go_step3
        go_region
        go_wp2_with go_step3
        simp only [Exit.noGoto]
        have hw := hE.hw
        have he := slot_end hE ((((Fr.refl _ _ _).setB (by omega) hE.p1 (by simp) _).setB (by omega) hE.p1 (by simp) _).drew) (((hE.fr.setNew (by simp) _).setNew (by simp) _).drew) ((hE.p1.set 0 (.int .u64 0)).set 1 (.string ⟨#[]⟩))
        obtain ⟨g1, g2, g3, g4, g5⟩ := he
        have r0 := g2.cell 0
        have r1 := g2.cell 1
        simp only [snapV, List.set_cons_zero, List.set_cons_succ, List.getElem?_cons_zero, List.getElem?_cons_succ] at r0 r1
        refine ⟨by simp, .inl ⟨_, _, rfl, run_takeDeferred g1, ?_⟩⟩
        refine ⟨.tuple #[.agg (slOut S).toArray, .int .i64 (if S.bad then 18 else 0)], ?_, ?_⟩
        · simp [results, Tryz.results36, go_sem, r0, r1]
          simp [slOut, hX.1, snapV, hok]
          try rfl
        · rw [hS]
          simp only [hX.1]
          exact ⟨trivial, g3, g4, g5⟩
end Go.Proofs.YtkeamfdceehliaaGreatDoor

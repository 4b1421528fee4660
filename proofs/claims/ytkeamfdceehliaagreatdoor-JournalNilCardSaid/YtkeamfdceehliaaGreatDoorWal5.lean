/- The log: Scan. -/
import Derived.Test.YtkeamfdceehliaaGreatDoorWal4
import Derived.WalkMore
namespace Go.Proofs.YtkeamfdceehliaaGreatDoor
open Go.RowKit
attribute [local go_sem] BA_size BA_extract BA_append BA_toList

def scRun (a : Nat) (e : Int) : Nat → List (List UInt8) → Dk → List (List UInt8) × Int × Dk
  | 0, l, D => (l, 0, D)
  | k + 1, l, D => if (rcVal a e l.length D).2.1 then scRun a e k (l ++ [(rcVal a e l.length D).1]) D.readN.tick else (l, (rcVal a e l.length D).2.2, D.readN.tick)

theorem rcVal_is {a : Nat} {e : Int} {i : Nat} {D : Dk} (h : (rcVal a e i D).2.1 = true) : (rcVal a e i D).2.2 = 0 := by
  unfold rcVal at h ⊢
  split at h
  · cases h
  · rename_i hb
    rw [if_neg hb]
    split at h
    · rename_i hw
      rw [if_pos hw]
    · cases h

theorem scEnd {B d sb b at_ n : Nat} {osl : Value} {D1 : Dk} {w w2 : World} {st : Option (Int × Nat)} {e x : Int} {l : List (List UInt8)} {va : Option Addr} {vcap : Nat} (hL : Blk w b (logV d at_ n st) TLog) (hSc : ScW B w d sb osl b at_ n e l x D1 w2)
    (hown : w2.ownsRow w.heap.size 9 1 (.slice va l.length vcap) l.length (strsV l)) :
    (w2.setCell ⟨b, 3, none⟩ (stV (some (e, l.length)))).ownsRow w.heap.size 9 1 (.slice va l.length vcap) l.length (strsV l) ∧ DiskIn B (w2.setCell ⟨b, 3, none⟩ (stV (some (e, l.length)))) d sb osl D1 ∧
      Blk (w2.setCell ⟨b, 3, none⟩ (stV (some (e, l.length)))) b (logV d at_ n (some (e, l.length))) TLog ∧ Fr B [TDisk, TLog] w (w2.setCell ⟨b, 3, none⟩ (stV (some (e, l.length)))) := by
  have hf : Fr B [TLog] w2 (w2.setCell ⟨b, 3, none⟩ (stV (some (e, l.length)))) := (Fr.refl _ _ _).setB hSc.hb hSc.pl (by simp) _
  refine ⟨owns_fr hown hf (by decide), hSc.pd.fr hf (by decide) (by decide) (by decide), ?_, hSc.fr.setB hSc.hb hL (by simp) _⟩
  have := hSc.pl.set 3 (stV (some (e, l.length)))
  simpa [logV] using this

set_option maxRecDepth 100000 in
set_option maxHeartbeats 4000000 in
theorem walScan_key {B d sb b at_ n : Nat} {osl : Value} {D : Dk} {w : World} {st : Option (Int × Nat)} {e : Int} (hD : DiskIn B w d sb osl D) (hL : Blk w b (logV d at_ n st) TLog) (hbb : B ≤ b) (hlen : at_ + n ≤ D.secs.length) (he : e ≠ 0) (Po : Ending → World → Prop)
    (hPo : ∀ r w', (let R := scRun at_ e n [] D
      ∃ v, r = .returned (.tuple #[v, .int .i64 R.2.1]) ∧ (if R.2.1 = 0 then w'.ownsRow w.heap.size 9 1 v R.1.length (strsV R.1) else v = .slice none 0 0) ∧ DiskIn B w' d sb osl R.2.2 ∧
        Blk w' b (logV d at_ n (if R.2.1 = 0 then some (e, R.1.length) else none)) TLog ∧ Fr B [TDisk, TLog] w w') → Po r w') :
    Calls Tryz.prog 29 #[dp b, .int .u64 e] w Po := by
  replace hPo := Bx.mk hPo
  have hmany := hD.many
  have hblt := hL.lt
  have c3 := hL.cell 3
  have f3 := hL.free 3
  simp only [logV, List.getElem?_cons_zero, List.getElem?_cons_succ] at c3
  have hmf : ∀ (fn : Fn) (first cap : Array Value) (w : World), (Instr.makeFunc fn first cap).run Tryz.prog w = .ok (.func fn first cap) w := fun _ _ _ _ => rfl
  go_enter Tryz.func29, Tryz.ntmps29
  go_wp2_with go_step3
  simp only [Nat.add_assoc, Nat.reduceAdd]
  go_loopw [21] (fun _ wr => ∃ k l D1, ScW B w d sb osl b at_ n e l 0 D1 wr ∧ l.length + k = n ∧ scRun at_ e n [] D = scRun at_ e k l D1 ∧ D1.secs.length = D.secs.length)
    (fun _ wr => n - (match wr.cell? ⟨w.heap.size + 2, 0, none⟩ with | some (.slice _ m _) => m | _ => 0))
  case atStart =>
    have hf : Fr B [TLog] w (((((w.setCell ⟨b, 3, none⟩ (stV none)).alloc (.cells #[dp b] TPLog)).alloc (.cells #[.int .u64 e] 39)).alloc (.cells #[.slice none 0 0] TStrs)).alloc (.cells #[.int .i64 0] 26)) := (((((Fr.refl _ _ _).setB hbb hL (by simp) _).alloc _).alloc _).alloc _).alloc _
    refine ⟨n, [], D, ⟨?_, ?_, ⟨.slice none 0 0, ?_, World.ownsRow_nil _ _ _ _⟩, ?_, ?_, hD.fr hf (by decide) (by decide) (by decide), hf.mono (Nat.le_refl _) (by simp), by omega, hbb, hblt⟩, by simp, rfl, rfl⟩
    · exact Blk.alloc (Blk.alloc (Blk.alloc (Blk.newAt _ _ _ (by simp)) _) _) _
    · exact Blk.alloc (Blk.alloc (Blk.newAt _ _ _ (by simp)) _) _
    · exact Blk.alloc (Blk.newAt _ _ _ (by simp)) _
    · exact Blk.newAt _ _ _ (by simp)
    · have := hL.set 3 (stV none)
      have h2 : Blk (w.setCell ⟨b, 3, none⟩ (stV none)) b (logV d at_ n none) TLog := by simpa [logV] using this
      exact Blk.alloc (Blk.alloc (Blk.alloc (Blk.alloc h2 _) _) _) _
  case round =>
    obtain ⟨k, l, D1, hSc, hlk, hrun, hsec⟩ := hrel
    obtain ⟨v, hb2, hown⟩ := hSc.p2
    have hvs : ∃ a cap, v = .slice a l.length cap := by
      rcases hown.2 with ⟨hv, h0⟩ | ⟨g, cap, cur, hv, _⟩
      · exact ⟨none, 0, by rw [hv, h0]⟩
      · exact ⟨_, _, hv⟩
    obtain ⟨va, vcap, rfl⟩ := hvs
    have a0 := hSc.p0.cell 0
    have a1 := hSc.p1.cell 0
    have a2 := hb2.cell 0
    have a3 := hSc.p3.cell 0
    have a4 := hSc.pl.cell 2
    have a5 := hSc.pl.cell 3
    have g5 := hSc.pl.free 3
    simp only [logV, List.getElem?_cons_zero, List.getElem?_cons_succ] at a0 a1 a2 a3 a4 a5
    cases k with
    | zero =>
      have hln : l.length = n := by omega
      have hlt2 : ¬ (l.length : Int) < (n : Int) := by omega
      subst hln
      have hE := scEnd hL hSc hown
      go_wp2
      go_region
      go_wp2
      obtain ⟨h1, h2, h3, h4⟩ := hE
      refine hPo.out _ _ ?_
      rw [hrun]
      exact ⟨.slice va l.length vcap, rfl, h1, h2.drew, h3, h4.drew⟩
    | succ k =>
      have hlt2 : (l.length : Int) < (n : Int) := by omega
      have hdr : ScW B w d sb osl b at_ n e l 0 D1 wr.drew := ⟨hSc.p0, hSc.p1, ⟨_, hb2, hown⟩, hSc.p3, hSc.pl, hSc.pd.drew, hSc.fr.drew, hSc.hw, hSc.hb, hSc.lt⟩
      have hNx := next_ok hdr (by omega)
      have hrun2 : scRun at_ e (k + 1) l D1 = if (rcVal at_ e l.length D1).2.1 then scRun at_ e k (l ++ [(rcVal at_ e l.length D1).1]) D1.readN.tick else (l, (rcVal at_ e l.length D1).2.2, D1.readN.tick) := rfl
      have his : (rcVal at_ e l.length D1).2.1 = true → (rcVal at_ e l.length D1).2.2 = 0 := rcVal_is
      obtain ⟨V, hV⟩ : ∃ V, rcVal at_ e l.length D1 = V := ⟨_, rfl⟩
      rw [hV] at hNx hrun2 his
      clear hV
      obtain ⟨s, is, x⟩ := V
      have HNx := Lib.hid hNx
      clear hNx
      cases is with
      | true =>
        have hx : x = 0 := his rfl
        subst hx
        simp only [if_true] at HNx
        have HR := Lib.hid (hrun.trans hrun2)
        clear hrun hrun2 his
        go_wp2
        go_region
        go_wp2_with (go_at_call 42; refine HNx.out.mono ?_; rintro r w2 ⟨rfl, hS2⟩)
        go_roundw
        case rel => exact ⟨k, l ++ [s], D1.readN.tick, hS2, by simp; omega, HR.out, hsec⟩
        case measure =>
          obtain ⟨v2, hb3, ho3⟩ := hS2.p2
          have hv2 : ∃ a cap, v2 = .slice a (l ++ [s]).length cap := by
            rcases ho3.2 with ⟨hv, h0⟩ | ⟨g, cap, cur, hv, _⟩
            · exact ⟨none, 0, by rw [hv, h0]⟩
            · exact ⟨_, _, hv⟩
          obtain ⟨va2, vc2, rfl⟩ := hv2
          have z2 := hb3.cell 0
          simp only [List.getElem?_cons_zero] at z2
          rw [z2, a2]
          simp
          omega
      | false =>
        simp only [Bool.false_eq_true, if_false] at HNx
        have HR := Lib.hid (hrun.trans hrun2)
        clear hrun hrun2 his
        by_cases hx : x = 0
        · subst hx
          go_wp2
          go_region
          go_wp2_with (go_at_call 42; refine HNx.out.mono ?_; rintro r w2 ⟨rfl, hS2⟩
                       obtain ⟨v2, hb3, ho3⟩ := hS2.p2
                       have hv2 : ∃ a cap, v2 = .slice a l.length cap := by
                         rcases ho3.2 with ⟨hv, h0⟩ | ⟨g, cap, cur, hv, _⟩
                         · exact ⟨none, 0, by rw [hv, h0]⟩
                         · exact ⟨_, _, hv⟩
                       obtain ⟨va2, vc2, rfl⟩ := hv2
                       have z0 := hS2.p0.cell 0
                       have z1 := hS2.p1.cell 0
                       have z2 := hb3.cell 0
                       have z3 := hS2.p3.cell 0
                       have z5 := hS2.pl.cell 3
                       have y5 := hS2.pl.free 3
                       simp only [logV, List.getElem?_cons_zero, List.getElem?_cons_succ] at z0 z1 z2 z3 z5)
          obtain ⟨h1, h2, h3, h4⟩ := scEnd hL hS2 ho3
          refine hPo.out _ _ ?_
          rw [HR.out]
          exact ⟨.slice va2 l.length vc2, rfl, h1, h2, h3, h4⟩
        · go_wp2
          go_region
          go_wp2_with (go_at_call 42; refine HNx.out.mono ?_; rintro r w2 ⟨rfl, hS2⟩
                       have z3 := hS2.p3.cell 0
                       simp only [List.getElem?_cons_zero] at z3)
          go_region
          go_wp2
          refine hPo.out _ _ ?_
          rw [HR.out]
          refine ⟨.slice none 0 0, rfl, by simp [hx], hS2.pd.drew, ?_, hS2.fr.drew⟩
          simpa [hx] using hS2.pl.drew
end Go.Proofs.YtkeamfdceehliaaGreatDoor

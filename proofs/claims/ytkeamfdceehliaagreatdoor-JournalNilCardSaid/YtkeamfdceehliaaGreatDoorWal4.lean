/- The log: Scan. -/
import Derived.Test.YtkeamfdceehliaaGreatDoorWal3
namespace Go.Proofs.YtkeamfdceehliaaGreatDoor
open Go.RowKit
attribute [local go_sem] BA_size BA_extract BA_append BA_toList

abbrev TPLog : Nat := 57
abbrev TStrs : Nat := 31
structure ScW (B : Nat) (w0 : World) (d sb : Nat) (osl : Value) (b at_ n : Nat) (e : Int) (l : List (List UInt8)) (er : Int) (D : Dk) (W : World) : Prop where
  p0 : Blk W w0.heap.size [dp b] TPLog
  p1 : Blk W (w0.heap.size + 1) [.int .u64 e] 39
  p2 : ∃ v, Blk W (w0.heap.size + 2) [v] TStrs ∧ W.ownsRow w0.heap.size 9 1 v l.length (strsV l)
  p3 : Blk W (w0.heap.size + 3) [.int .i64 er] 26
  pl : Blk W b (logV d at_ n none) TLog
  pd : DiskIn B W d sb osl D
  fr : Fr B [TDisk, TLog] w0 W
  hw : B ≤ w0.heap.size
  hb : B ≤ b
  lt : b < w0.heap.size

theorem owns_fr {w w' : World} {B size n t : Nat} {v : Value} {xs : List Value} {B2 : Nat} {ts : List Nat} (h : w.ownsRow B t size v n xs) (hf : Fr B2 ts w w') (ht : t ∉ ts) : w'.ownsRow B t size v n xs := by
  obtain ⟨h1, h2⟩ := h
  exact ⟨h1, h2.elim .inl (fun ⟨g, cap, cur, hv, hg, hh, r⟩ => .inr ⟨g, cap, cur, hv, hg, hf.get hh ht, r⟩)⟩

set_option maxHeartbeats 2000000 in
theorem next_ok {B d sb b at_ n : Nat} {osl : Value} {D : Dk} {w0 w : World} {e er : Int} {l : List (List UInt8)} (hSc : ScW B w0 d sb osl b at_ n e l er D w) (hlen : at_ + l.length < D.secs.length) :
    Calls Tryz.prog 42 #[dp w0.heap.size, .pointer (some ⟨w0.heap.size + 1, 0, none⟩), .pointer (some ⟨w0.heap.size + 2, 0, none⟩), .pointer (some ⟨w0.heap.size + 3, 0, none⟩)] w fun r w' =>
      r = .returned (.bool (rcVal at_ e l.length D).2.1) ∧ ScW B w0 d sb osl b at_ n e (if (rcVal at_ e l.length D).2.1 then l ++ [(rcVal at_ e l.length D).1] else l) (rcVal at_ e l.length D).2.2 D.readN.tick w' := by
  have hmany := hSc.pd.many
  have hRc := Lib.hid (record_ok (e := e) hSc.pd hSc.pl hlen)
  obtain ⟨V, hV⟩ : ∃ V, rcVal at_ e l.length D = V := ⟨_, rfl⟩
  rw [hV] at hRc ⊢
  clear hV
  obtain ⟨s, is, x⟩ := V
  obtain ⟨v, hb2, hown⟩ := hSc.p2
  have hlt0 := hSc.p3.lt
  have hwB := hSc.hw
  have c0 := hSc.p0.cell 0
  have c1 := hSc.p1.cell 0
  have c2 := hb2.cell 0
  simp only [List.getElem?_cons_zero] at c0 c1 c2
  have hvs : ∃ a cap, v = .slice a l.length cap := by
    rcases hown.2 with ⟨hv, h0⟩ | ⟨g, cap, cur, hv, _⟩
    · exact ⟨none, 0, by rw [hv, h0]⟩
    · exact ⟨_, _, hv⟩
  obtain ⟨va, vcap, rfl⟩ := hvs
  cases is with
  | false =>
    go_enter Tryz.func42, Tryz.ntmps42
    go_wp2_with (go_at_call 43; refine hRc.out.mono ?_; rintro r w1 ⟨rfl, hD1, hF1⟩
                 have g3 := (hSc.p3.fr hF1 (by decide)).cell 0
                 have f3 := (hSc.p3.fr hF1 (by decide)).free 0
                 simp only [List.getElem?_cons_zero] at g3)
    go_ret
    have hf2 : Fr B [26] w1 (w1.setCell ⟨w0.heap.size + 3, 0, none⟩ (.int .i64 x)) := (Fr.refl _ _ _).setB (by omega) (hSc.p3.fr hF1 (by decide)) (by simp) _
    refine ⟨rfl, (hSc.p0.fr hF1 (by decide)).fr hf2 (by decide), (hSc.p1.fr hF1 (by decide)).fr hf2 (by decide), ⟨_, (hb2.fr hF1 (by decide)).fr hf2 (by decide), owns_fr (owns_fr hown hF1 (by decide)) hf2 (by decide)⟩, ?_, (hSc.pl.fr hF1 (by decide)).fr hf2 (by decide), hD1.fr hf2 (by decide) (by decide) (by decide), (hSc.fr.trans (hF1.mono (Nat.le_refl _) (by simp))).setNew (by simp) _, hSc.hw, hSc.hb, hSc.lt⟩
    simpa using (hSc.p3.fr hF1 (by decide)).set 0 (.int .i64 x)
  | true =>
    go_enter Tryz.func42, Tryz.ntmps42
    go_wp2_with (first
      | (go_at_call 43; refine hRc.out.mono ?_; rintro r w1 ⟨rfl, hD1, hF1⟩
         have g3 := (hSc.p3.fr hF1 (by decide)).cell 0
         have f3 := (hSc.p3.fr hF1 (by decide)).free 0
         have g2 := (hb2.fr hF1 (by decide)).cell 0
         simp only [List.getElem?_cons_zero] at g3 g2
         have hf2 : Fr B [26] w1 ((w1.setCell ⟨w0.heap.size + 3, 0, none⟩ (.int .i64 x)).alloc (.cells #[.string (BA s)] 9)) := ((Fr.refl _ _ _).setB (by omega) (hSc.p3.fr hF1 (by decide)) (by simp) _).alloc _
         have hownA := owns_fr (owns_fr hown hF1 (by decide)) hf2 (by decide)
         have hnw := Blk.newAt (w1.setCell ⟨w0.heap.size + 3, 0, none⟩ (.int .i64 x)) [.string (BA s)] 9 (b := w1.heap.size) (by simp)
         have hsz1 := hF1.size)
      | (refine wpList_app1 (m := 1) (news := [.string (BA s)]) rfl rfl undStrs infoStr (by omega) rfl hownA rfl rfl hnw.row1 (by simp [Value.oneCell']) (by unfold maxLen; omega) (by omega) (by simp; omega) ?_
         intro v2 w2 hv2 hg2
         have hfA : Fr B [9] ((w1.setCell ⟨w0.heap.size + 3, 0, none⟩ (.int .i64 x)).alloc (.cells #[.string (BA s)] 9)) w2 := (Fr.refl _ _ _).grown hg2 (fun k hk => by
           obtain ⟨h1, c, h2⟩ := owned_types hownA k hk
           exact .inr ⟨by omega, c, _, by simp, h2⟩)
         have e2 := (((hb2.fr hF1 (by decide)).fr hf2 (by decide)).fr hfA (by decide)).cell 0
         have e3 := (((hb2.fr hF1 (by decide)).fr hf2 (by decide)).fr hfA (by decide)).free 0
         simp only [List.getElem?_cons_zero] at e2
         obtain ⟨g, cap2, rfl, hgB⟩ := owned_slice hv2 (by omega)))
    go_ret
    have hs2 := ((hb2.fr hF1 (by decide)).fr hf2 (by decide)).fr hfA (by decide)
    have hfC : Fr B [TStrs] w2 (w2.setCell ⟨w0.heap.size + 2, 0, none⟩ (.slice (some ⟨g, 0, none⟩) (l.length + 1) cap2)) := (Fr.refl _ _ _).setB (by omega) hs2 (by simp) _
    have hfr1 : Fr B [TDisk, TLog] w0 ((w1.setCell ⟨w0.heap.size + 3, 0, none⟩ (.int .i64 x)).alloc (.cells #[.string (BA s)] 9)) := ((hSc.fr.trans (hF1.mono (Nat.le_refl _) (by simp))).setNew (by simp) _).alloc _
    have hfr2 := (hfr1.grown hg2 (fun k hk => .inl (owned_types hownA k hk).1)).setNew (p := ⟨w0.heap.size + 2, 0, none⟩) (by simp) (.slice (some ⟨g, 0, none⟩) (l.length + 1) cap2)
    have tr : ∀ {b' t : Nat} {cs : List Value}, Blk w b' cs t → t ∉ [TDisk] → t ∉ [26] → t ∉ [9] → t ∉ [TStrs] → Blk (w2.setCell ⟨w0.heap.size + 2, 0, none⟩ (.slice (some ⟨g, 0, none⟩) (l.length + 1) cap2)) b' cs t := fun hb h1 h2 h3 h4 => (((hb.fr hF1 h1).fr hf2 h2).fr hfA h3).fr hfC h4
    refine ⟨rfl, tr hSc.p0 (by decide) (by decide) (by decide) (by decide), tr hSc.p1 (by decide) (by decide) (by decide) (by decide), ⟨.slice (some ⟨g, 0, none⟩) (l.length + 1) cap2, ?_, ?_⟩, ?_, tr hSc.pl (by decide) (by decide) (by decide) (by decide), ((hD1.fr hf2 (by decide) (by decide) (by decide)).fr hfA (by decide) (by decide) (by decide)).fr hfC (by decide) (by decide) (by decide), hfr2, hSc.hw, hSc.hb, hSc.lt⟩
    · simpa using hs2.set 0 (.slice (some ⟨g, 0, none⟩) (l.length + 1) cap2)
    · have := owns_fr hv2 hfC (by decide)
      simpa [strsV, strV] using this
    · have h3 := (hSc.p3.fr hF1 (by decide)).set 0 (.int .i64 x)
      have h4 := ((h3.alloc (.cells #[.string (BA s)] 9)).fr hfA (by decide)).fr hfC (by decide)
      simpa using h4
end Go.Proofs.YtkeamfdceehliaaGreatDoor

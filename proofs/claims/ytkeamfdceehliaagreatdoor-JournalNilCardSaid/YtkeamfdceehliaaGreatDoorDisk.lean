/- The disk's own functions, walked: each answers what its plain twin (DiskM) says. -/
import Derived.Test.YtkeamfdceehliaaGreatDoorBase
import Derived.Test.YtkeamfdceehliaaGreatDoorDiskM
namespace Go.Proofs.YtkeamfdceehliaaGreatDoor
open Go.RowKit

theorem wInt_eq (n : Int) : wInt n = wrap64 n := by unfold wInt wrap64; omega

abbrev TDisk : Nat := 52
abbrev TSec : Nat := 68
abbrev TWr : Nat := 70

def wrV (o : Nat × List UInt8) : List Value := .int .i64 o.1 :: bytesV o.2
def secsV (l : List (List UInt8)) : List Value := l.flatMap bytesV
def opensV (l : List (Nat × List UInt8)) : List Value := l.flatMap wrV

structure DiskIn (B : Nat) (w : World) (d sb : Nat) (osl : Value) (D : Dk) : Prop where
  blk : Blk w d [.slice (some ⟨sb, 0, none⟩) D.secs.length D.secs.length, osl, .int .i64 D.fail, .int .i64 D.reads] TDisk
  secs : Blk w sb (secsV D.secs) TSec
  opens : w.ownsRow B TWr 65 osl D.opens.length (opensV D.opens)
  bd : B ≤ d
  bs : B ≤ sb
  pos : 0 < D.secs.length
  many : D.secs.length ≤ 1024
  len : ∀ s ∈ D.secs, s.length = 64
  olen : ∀ o ∈ D.opens, o.1 < D.secs.length ∧ o.2.length = 64
  ofew : D.opens.length ≤ 4294967296
  failIn : D.fail ≤ 9223372036854775807

def DiskAt (B : Nat) (w : World) (d : Nat) (D : Dk) : Prop := ∃ sb osl, DiskIn B w d sb osl D
abbrev dp (d : Nat) : Value := .pointer (some ⟨d, 0, none⟩)

theorem owns_other {w : World} {B e size n b t : Nat} {v : Value} {xs cs : List Value} (h : w.ownsRow B e size v n xs) (hb : Blk w b cs t) (ht : t ≠ e) (i : Nat) (u : Value) :
    (w.setCell ⟨b, i, none⟩ u).ownsRow B e size v n xs := by
  obtain ⟨h1, h2⟩ := h
  refine ⟨h1, h2.elim .inl (fun ⟨g, cap, cur, hv, hg, hh, r⟩ => .inr ⟨g, cap, cur, hv, hg, ?_, r⟩)⟩
  have hne : g ≠ b := by
    rintro rfl
    unfold Blk at hb
    rw [hb] at hh
    cases hh
    exact ht rfl
  rw [heap_setCell_other _ _ _ _ hne]
  exact hh

theorem len_nil (w : World) : Calls Tryz.prog 35 #[.pointer none] w fun e w' => e = .returned (.int .i64 0) ∧ w = w' := by
  go_enter Tryz.func35, Tryz.ntmps35
  go_wp2
  go_ret
  exact ⟨rfl, rfl⟩

theorem len_in {B d sb : Nat} {osl : Value} {D : Dk} {w : World} (hD : DiskIn B w d sb osl D) :
    Calls Tryz.prog 35 #[dp d] w fun e w' => e = .returned (.int .i64 D.secs.length) ∧ w = w' := by
  have c0 := hD.blk.cell 0
  simp only [List.getElem?_cons_zero] at c0
  go_enter Tryz.func35, Tryz.ntmps35
  go_wp2
  go_ret
  exact ⟨rfl, rfl⟩

theorem there_in {B d sb : Nat} {osl : Value} {D : Dk} {w : World} (hD : DiskIn B w d sb osl D) (i : Int) :
    Calls Tryz.prog 63 #[dp d, .int .i64 i] w fun e w' => e = .returned (.bool (D.there i)) ∧ w = w' := by
  have c0 := hD.blk.cell 0
  simp only [List.getElem?_cons_zero] at c0
  by_cases h1 : 0 ≤ i <;> by_cases h2 : i < D.secs.length
  all_goals
    have H : Hid (D.there i = (decide (0 ≤ i) && decide (i < D.secs.length))) := rfl
    go_enter Tryz.func63, Tryz.ntmps63
    go_wp2
    go_ret
    refine ⟨?_, rfl⟩
    rw [H.out]
    simp [h1, h2]

theorem DiskIn.tick {B d sb : Nat} {osl : Value} {D : Dk} {w : World} (h : DiskIn B w d sb osl D) (_hf : D.fail ≠ 0) :
    DiskIn B (w.setCell ⟨d, 2, none⟩ (.int .i64 (D.fail - 1 : Nat))) d sb osl D.tick := by
  have hne : d ≠ sb := h.blk.ne h.secs (by decide)
  refine ⟨?_, h.secs.other (fun e => hne e.symm) _, ?_, h.bd, h.bs, h.pos, h.many, h.len, h.olen, h.ofew, by have := h.failIn; simp only [Dk.tick]; omega⟩
  · have := h.blk.set 2 (.int .i64 (D.fail - 1 : Nat))
    simpa [Dk.tick] using this
  · exact owns_other h.opens h.blk (by decide) _ _

theorem fails_in {B d sb : Nat} {osl : Value} {D : Dk} {w : World} (hD : DiskIn B w d sb osl D) :
    Calls Tryz.prog 41 #[dp d] w fun e w' => e = .returned (.bool D.bad) ∧ DiskIn B w' d sb osl D.tick ∧ Fr B [TDisk] w w' := by
  have hF := hD.failIn
  have f2 := hD.blk.free 2
  by_cases h0 : D.fail = 0
  · have c2 : w.cell? ⟨d, 2, none⟩ = some (.int .i64 0) := by rw [hD.blk.cell 2]; simp [h0]
    have hD : D.tick = D := by cases D; simp_all [Dk.tick]
    have hb : D.bad = false := by simp [Dk.bad, h0]
    have HD := Lib.hid hD; clear hD
    have HB := Lib.hid hb; clear hb
    have H0 := Lib.hid h0; clear h0
    go_enter Tryz.func41, Tryz.ntmps41
    go_wp2
    go_ret
    refine ⟨retB (by rw [HB.out]), by rw [HD.out]; exact hD, Fr.refl _ _ _⟩
  · obtain ⟨m, hm⟩ : ∃ m, D.fail = m + 1 := ⟨D.fail - 1, by omega⟩
    have c2 : w.cell? ⟨d, 2, none⟩ = some (.int .i64 (m + 1 : Nat)) := by rw [hD.blk.cell 2]; simp [hm]
    have hk := hD.tick h0
    have hs := hD.blk
    have e1 : ((D.fail - 1 : Nat) : Int) = (m : Int) := by omega
    rw [e1] at hk
    have HM := Lib.hid hm; clear hm e1
    have hm2 : m < 9223372036854775807 := by have := HM.out; omega
    clear h0 hF
    by_cases hz : m = 0
    · subst hz
      go_enter Tryz.func41, Tryz.ntmps41
      go_wp2
      go_ret
      refine ⟨retB (by simp [Dk.bad, HM.out]), hk, (Fr.refl _ _ _).setB hD.bd hD.blk (by decide) _⟩
    · have hz1 : (m : Int) ≠ 0 := by omega
      go_enter Tryz.func41, Tryz.ntmps41
      go_wp2
      go_ret
      refine ⟨retB (by simp only [Dk.bad, HM.out]; rw [Bool.eq_iff_iff]; simp), hk, (Fr.refl _ _ _).setB hD.bd hD.blk (by decide) _⟩

theorem reads_in {B d sb : Nat} {osl : Value} {D : Dk} {w : World} (hD : DiskIn B w d sb osl D) :
    Calls Tryz.prog 13 #[dp d] w fun e w' => e = .returned (.int .i64 D.reads) ∧ w = w' := by
  have c3 := hD.blk.cell 3
  simp only [List.getElem?_cons_zero, List.getElem?_cons_succ] at c3
  go_enter Tryz.func13, Tryz.ntmps13
  go_wp2
  go_ret
  exact ⟨rfl, rfl⟩

theorem DiskIn.setFail {B d sb : Nat} {osl : Value} {D : Dk} {w : World} (h : DiskIn B w d sb osl D) (n : Int) (hn : n ≤ 9223372036854775807) :
    DiskIn B (w.setCell ⟨d, 2, none⟩ (.int .i64 (n.toNat : Nat))) d sb osl (D.setFail n) := by
  have hne : d ≠ sb := h.blk.ne h.secs (by decide)
  refine ⟨?_, h.secs.other (fun e => hne e.symm) _, ?_, h.bd, h.bs, h.pos, h.many, h.len, h.olen, h.ofew, by simp only [Dk.setFail]; omega⟩
  · have := h.blk.set 2 (.int .i64 (n.toNat : Nat))
    simpa [Dk.setFail] using this
  · exact owns_other h.opens h.blk (by decide) _ _

theorem fail_in {B d sb : Nat} {osl : Value} {D : Dk} {w : World} (hD : DiskIn B w d sb osl D) (n : Int) (hn : n ≤ 9223372036854775807) :
    Calls Tryz.prog 20 #[dp d, .int .i64 n] w fun e w' => e = .returned (.tuple #[]) ∧ DiskIn B w' d sb osl (D.setFail n) ∧ Fr B [TDisk] w w' := by
  have c2 := hD.blk.cell 2
  simp only [List.getElem?_cons_zero, List.getElem?_cons_succ] at c2
  have f2 := hD.blk.free 2
  have hk := hD.setFail n hn
  by_cases hn0 : n < 0
  · have e : ((n.toNat : Nat) : Int) = 0 := by omega
    rw [e] at hk
    clear e
    go_enter Tryz.func20, Tryz.ntmps20
    go_wp2
    go_end0
    refine ⟨rfl, hk, (Fr.refl _ _ _).setB hD.bd hD.blk (by decide) _⟩
  · have e : ((n.toNat : Nat) : Int) = n := by omega
    rw [e] at hk
    clear e
    go_enter Tryz.func20, Tryz.ntmps20
    go_wp2
    go_end0
    refine ⟨rfl, hk, (Fr.refl _ _ _).setB hD.bd hD.blk (by decide) _⟩

theorem tmod_in (n b : Int) (hb : 1 ≤ b) : -b < n.tmod b ∧ n.tmod b < b := ⟨Int.lt_tmod_of_pos n (by omega), Int.tmod_lt_of_pos n (by omega)⟩

theorem rest_any (n b : Int) (hb : 1 ≤ b) (hb2 : b ≤ 1000000) (w : World) :
    Calls Tryz.prog 40 #[.int .i64 n, .int .i64 b] w fun e w' => e = .returned (.int .i64 (Dk.rest n b)) ∧ w = w' := by
  have H := Lib.hid (tmod_in n b hb)
  go_enter Tryz.func40, Tryz.ntmps40
  go_wp2
  go_ret
  refine ⟨retI ?_, rfl⟩
  have := H.out
  have e : wrap64 (n.tmod b + b) = n.tmod b + b := by unfold wrap64; omega
  rw [e]
  rfl

theorem rest_range (n b : Int) (hb : 1 ≤ b) : 0 ≤ Dk.rest n b ∧ Dk.rest n b < b := by
  have h1 := tmod_in n b hb
  have h2 := tmod_in (n.tmod b + b) b hb
  have h3 : 0 ≤ (n.tmod b + b).tmod b := Int.tmod_nonneg _ (by omega)
  exact ⟨h3, h2.2⟩

theorem left_any (f : Dk.Fate) (w : World) :
    Calls Tryz.prog 27 #[.agg #[.int .i64 f.kind, .int .i64 f.at_]] w fun e w' => e = .returned (.int .i64 (Dk.left f)) ∧ w' = w.alloc (.cells #[.int .i64 f.kind, .int .i64 f.at_] 73) := by
  obtain ⟨k, hk⟩ : ∃ k, Dk.rest f.kind 3 = k := ⟨_, rfl⟩
  have hr := rest_range f.kind 3 (by omega)
  have H : Hid (Dk.left f = if k = 1 then 64 else if k = 2 then Dk.rest f.at_ 65 else 0) := by simp only [Hid, Dk.left, hk]
  rw [hk] at hr
  have hcon : ∀ w1, Calls Tryz.prog 40 #[.int .i64 f.kind, .int .i64 3] w1 fun e w' => e = .returned (.int .i64 k) ∧ w1 = w' := fun w1 => by
    have := rest_any f.kind 3 (by omega) (by omega) w1
    rw [hk] at this; exact this
  have HC := Lib.hid hcon
  clear hcon hk
  have hc : k = 0 ∨ k = 1 ∨ k = 2 := by omega
  rcases hc with rfl | rfl | rfl
  · go_enter Tryz.func27, Tryz.ntmps27
    go_wp2_with (go_at_call 40; refine (HC.out _).mono ?_; rintro e w' ⟨rfl, rfl⟩)
    go_ret
    exact ⟨retI (by rw [H.out]; simp), rfl⟩
  · go_enter Tryz.func27, Tryz.ntmps27
    go_wp2_with (go_at_call 40; refine (HC.out _).mono ?_; rintro e w' ⟨rfl, rfl⟩)
    go_ret
    exact ⟨retI (by rw [H.out]; simp), rfl⟩
  · go_enter Tryz.func27, Tryz.ntmps27
    go_wp2_with fail
    refine (HC.out _).mono ?_
    rintro e w' ⟨rfl, rfl⟩
    go_wp2_with fail
    refine (rest_any f.at_ 65 (by omega) (by omega) _).mono ?_
    rintro e w' ⟨rfl, rfl⟩
    go_wp2_with fail
    go_ret
    exact ⟨retI (by rw [H.out]; simp), rfl⟩

end Go.Proofs.YtkeamfdceehliaaGreatDoor

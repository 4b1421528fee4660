/- The laws' own small functions: short, Same. -/
import Derived.Test.YtkeamfdceehliaaGreatDoorLaw
namespace Go.Proofs.YtkeamfdceehliaaGreatDoor
open Go.RowKit
attribute [local go_sem] BA_size BA_extract BA_append BA_toList

theorem short_any (l : List UInt8) (n : Nat) (_hl : l.length ≤ 9223372036854775807) (_hn : n ≤ 1000) (w : World) :
    Calls Tryz.prog 15 #[.string (BA l), .int .i64 n] w fun r w' => r = .returned (.string (BA (l.take n))) ∧ w = w' := by
  by_cases h : (n : Int) < l.length
  · have hnl : n ≤ l.length := by omega
    go_enter Tryz.func15, Tryz.ntmps15
    go_wp2
    go_ret
    exact ⟨rfl, rfl⟩
  · have ht : Hid (l.take n = l) := List.take_of_length_le (by omega)
    go_enter Tryz.func15, Tryz.ntmps15
    go_wp2
    go_ret
    rw [ht.out]
    exact ⟨rfl, rfl⟩

/-- A slice of strings in memory, as it reads. -/
def StrRow (w : World) (v : Value) (l : List (List UInt8)) : Prop := ∃ a cap, v = .slice a l.length cap ∧ ∀ i s, l[i]? = some s → ∃ g o, a = some ⟨g, o, none⟩ ∧ g < w.heap.size ∧ w.cell? ⟨g, o + i, none⟩ = some (strV s)
theorem StrRow.below {w w' : World} {v : Value} {l : List (List UInt8)} (h : StrRow w v l) (hb : Below w.heap.size w w') : StrRow w' v l := by
  obtain ⟨a, cap, hv, hc⟩ := h
  refine ⟨a, cap, hv, fun i s hi => ?_⟩
  obtain ⟨g, o, ha, hg, hcell⟩ := hc i s hi
  exact ⟨g, o, ha, Nat.lt_of_lt_of_le hg hb.size, (hb.cell (p := ⟨g, o + i, none⟩) hg).trans hcell⟩
theorem StrRow.owns {w : World} {B n : Nat} {v : Value} {l : List (List UInt8)} (h : w.ownsRow B 9 1 v n (strsV l)) : StrRow w v l := by
  have hlt := h.lt
  obtain ⟨hn, a, cap, hv, hc⟩ := owns_cell h
  subst hn
  refine ⟨a, cap, hv, fun i s hi => ?_⟩
  obtain ⟨g, ha, hcell⟩ := hc i s hi
  refine ⟨g, 0, ha, ?_, by simpa using hcell⟩
  subst hv ha
  exact (hlt g rfl).2

structure SameB (w : World) (b : Bool) (e : Ending) (w' : World) : Prop where
  out : e = .returned (.bool b) ∧ Below w.heap.size w w'

theorem same_any (d1 d2 : List UInt8) (v1 v2 : Value) (l1 l2 : List (List UInt8)) (w : World) (h1 : StrRow w v1 l1) (h2 : StrRow w v2 l2) (hl1 : l1.length ≤ 10000) (hl2 : l2.length ≤ 10000) :
    Calls Tryz.prog 19 #[.agg #[.string (BA d1), v1], .agg #[.string (BA d2), v2]] w (SameB w (decide (d1 = d2 ∧ l1 = l2))) := by
  obtain ⟨a1, c1, rfl, hc1⟩ := h1
  obtain ⟨a2, c2, rfl, hc2⟩ := h2
  have hA := (Blk.alloc (Blk.new w [.string (BA d1), .slice a1 l1.length c1] TFound) (.cells #[.string (BA d2), .slice a2 l2.length c2] TFound))
  have hB := Blk.newAt (w.alloc (.cells #[.string (BA d1), .slice a1 l1.length c1] TFound)) [.string (BA d2), .slice a2 l2.length c2] TFound (b := w.heap.size + 1) (by simp)
  have hbA : Below w.heap.size w ((w.alloc (.cells #[.string (BA d1), .slice a1 l1.length c1] TFound)).alloc (.cells #[.string (BA d2), .slice a2 l2.length c2] TFound)) := ((Below.refl _ _).alloc (Nat.le_refl _) _).alloc (by simp) _
  have HC1 := Lib.hid hc1
  have HC2 := Lib.hid hc2
  clear hc1 hc2
  have p0 := hA.cell 0
  have p1 := hA.cell 1
  have q0 := hB.cell 0
  have q1 := hB.cell 1
  simp only [List.getElem?_cons_zero, List.getElem?_cons_succ] at p0 p1 q0 q1
  by_cases hd : d1 = d2
  · subst hd
    by_cases hl : l1.length = l2.length
    · have hlb : ((l1.length : Int) != (l2.length : Int)) = false := by simp [hl]
      obtain ⟨b, hb⟩ : ∃ b, decide (d1 = d1 ∧ l1 = l2) = b := ⟨_, rfl⟩
      rw [hb]
      have HB := Lib.hid hb
      have HL := Lib.hid hl
      clear hb hl
      go_enter Tryz.func19, Tryz.ntmps19
      go_wp2_with fail
      go_loopw [5] (fun i wr => ∃ x : Nat, x ≤ l1.length ∧ i = .int .i64 x ∧ l1.take x = l2.take x ∧ Blk wr w.heap.size [.string (BA d1), .slice a1 l1.length c1] TFound ∧ Blk wr (w.heap.size + 1) [.string (BA d1), .slice a2 l2.length c2] TFound ∧ Below w.heap.size w wr) (fun i _ => l1.length - (intOf i).toNat)
      case atStart => exact ⟨0, by omega, rfl, rfl, hA, hB, hbA⟩
      case round =>
        obtain ⟨x, hx, rfl, hpre, hAr, hBr, hbr⟩ := hrel
        have HP := Lib.hid hpre
        clear hpre p0 p1 q0 q1
        have p1 := hAr.cell 1
        have q1 := hBr.cell 1
        simp only [List.getElem?_cons_zero, List.getElem?_cons_succ] at p1 q1
        by_cases hlt : x < l1.length
        · obtain ⟨s1, hs1⟩ : ∃ s, l1[x]? = some s := ⟨_, List.getElem?_eq_getElem hlt⟩
          have hlt2 : x < l2.length := by have := HL.out; omega
          obtain ⟨s2, hs2⟩ : ∃ s, l2[x]? = some s := ⟨_, List.getElem?_eq_getElem hlt2⟩
          obtain ⟨g1, o1, rfl, hg1, y1⟩ := HC1.out x s1 hs1
          obtain ⟨g2, o2, rfl, hg2, y2⟩ := HC2.out x s2 hs2
          have y1 := (hbr.cell (p := ⟨g1, o1 + x, none⟩) hg1).trans y1
          have y2 := (hbr.cell (p := ⟨g2, o2 + x, none⟩) hg2).trans y2
          unfold strV at y1 y2
          have HS1 := Lib.hid hs1
          have HS2 := Lib.hid hs2
          clear hs1 hs2
          have e1 : l1.take (x + 1) = l1.take x ++ [s1] := by rw [List.take_add_one, HS1.out]; rfl
          have e2 : l2.take (x + 1) = l2.take x ++ [s2] := by rw [List.take_add_one, HS2.out]; rfl
          have E1 := Lib.hid e1
          have E2 := Lib.hid e2
          clear e1 e2
          by_cases hs : s1 = s2
          · subst hs
            go_wp2_with fail
            go_quiet (fail)
            go_wp2
            all_goals
              refine ⟨⟨x + 1, by omega, by go_num, by rw [E1.out, E2.out, HP.out], hAr.drewN _, hBr.drewN _, ?_⟩, by simp [intOf]; omega⟩
              exact ⟨hbr.os, hbr.tape, hbr.output, hbr.size, hbr.block⟩
          · have hbf : b = false := by
              rw [← HB.out]
              apply decide_eq_false
              rintro ⟨_, h⟩
              subst h
              have := HS1.out.symm.trans HS2.out
              exact hs (Option.some.inj this)
            subst hbf
            have hsb : (s1 == s2) = false := beq_eq_false_iff_ne.2 hs
            go_wp2_with fail
            go_quiet (fail)
            go_wp2
            all_goals
              go_ret
              exact ⟨⟨rfl, ⟨hbr.os, hbr.tape, hbr.output, hbr.size, hbr.block⟩⟩⟩
        · have hxe : x = l1.length := by omega
          subst hxe
          have hbt : b = true := by
            rw [← HB.out]
            apply decide_eq_true
            have := HP.out
            rw [List.take_length, HL.out, List.take_length] at this
            exact ⟨by simp, this⟩
          subst hbt
          clear hx
          go_wp2_with fail
          go_ret
          exact ⟨⟨by first | rfl | trivial, hbr⟩⟩
    · have hlb : ((l1.length : Int) != (l2.length : Int)) = true := by simp; omega
      have hdn : decide (d1 = d1 ∧ l1 = l2) = false := by
        apply decide_eq_false
        rintro ⟨_, h⟩
        exact hl (by rw [h])
      rw [hdn]
      clear hl hdn
      go_enter Tryz.func19, Tryz.ntmps19
      go_wp2_with fail
      go_ret
      exact ⟨⟨rfl, hbA⟩⟩
  · have hdn : decide (d1 = d2 ∧ l1 = l2) = false := by
      apply decide_eq_false
      rintro ⟨h, _⟩
      exact hd h
    rw [hdn]
    clear hdn
    go_enter Tryz.func19, Tryz.ntmps19
    go_wp2_with fail
    go_ret
    exact ⟨⟨rfl, hbA⟩⟩
end Go.Proofs.YtkeamfdceehliaaGreatDoor

/- Plain facts: what a journal's disk shows behind writes that were torn. No program in sight. -/
import Derived.Test.YtkeamfdceehliaaGreatDoorInv
namespace Go.Proofs.YtkeamfdceehliaaGreatDoor
open Go.RowKit

/-- Open writes, of each of which so many bytes came there. -/
def tornTo (f : Nat → Nat) (opens : List (Nat × List UInt8)) (secs : List (List UInt8)) : Nat → List (List UInt8)
  | 0 => secs
  | j + 1 => match opens[j]? with
    | some w => (tornTo f opens secs j).set w.1 (Dk.tear (f j) w.2 ((tornTo f opens secs j).getD w.1 []))
    | none => tornTo f opens secs j
theorem crashTo_torn (fs : List Dk.Fate) (opens : List (Nat × List UInt8)) (secs : List (List UInt8)) : ∀ j, (Dk.crashTo fs opens secs j).1 = tornTo (Dk.kept fs) opens secs j
  | 0 => rfl
  | j + 1 => by
    unfold Dk.crashTo tornTo
    cases opens[j]? with
    | none => exact crashTo_torn fs opens secs j
    | some w => simp only; rw [crashTo_torn fs opens secs j]
theorem tornTo_len (f : Nat → Nat) (opens : List (Nat × List UInt8)) (secs : List (List UInt8)) : ∀ j, (tornTo f opens secs j).length = secs.length
  | 0 => rfl
  | j + 1 => by
    unfold tornTo
    cases opens[j]? with
    | none => exact tornTo_len f opens secs j
    | some w => simp only; rw [List.length_set, tornTo_len f opens secs j]
theorem lay_torn (opens : List (Nat × List UInt8)) (secs : List (List UInt8)) (hs : ∀ s ∈ secs, s.length = 64) (ho : ∀ o ∈ opens, o.2.length = 64) :
    ∀ j, j ≤ opens.length → Dk.lay secs (opens.take j) = tornTo (fun _ => 64) opens secs j ∧ ∀ s ∈ tornTo (fun _ => 64) opens secs j, s.length = 64
  | 0, _ => ⟨rfl, hs⟩
  | j + 1, hj => by
    obtain ⟨h1, h2⟩ := lay_torn opens secs hs ho j (by omega)
    obtain ⟨w, hw⟩ : ∃ w, opens[j]? = some w := ⟨_, List.getElem?_eq_getElem (by omega)⟩
    have hwl := ho w (List.mem_of_getElem? hw)
    have ht : Dk.tear 64 w.2 ((tornTo (fun _ => 64) opens secs j).getD w.1 []) = w.2 := by
      unfold Dk.tear
      rw [List.take_of_length_le (by omega), List.drop_eq_nil_of_le, List.append_nil]
      rw [List.getD]
      cases hg : (tornTo (fun _ => 64) opens secs j)[w.1]? with
      | none => simp
      | some s => simp [h2 s (List.mem_of_getElem? hg)]
    have e : tornTo (fun _ => 64) opens secs (j + 1) = (tornTo (fun _ => 64) opens secs j).set w.1 w.2 := by
      show (match opens[j]? with | some w => _ | none => _) = _
      rw [hw]
      simp only
      rw [ht]
    rw [e]
    refine ⟨?_, fun s hs => ?_⟩
    · rw [List.take_add_one, hw, ← h1]
      simp [Dk.lay, List.foldl_append]
    · rcases List.mem_or_eq_of_mem_set hs with h | h
      · exact h2 s h
      · rw [h]; exact hwl
theorem lay_all (opens : List (Nat × List UInt8)) (secs : List (List UInt8)) (hs : ∀ s ∈ secs, s.length = 64) (ho : ∀ o ∈ opens, o.2.length = 64) : Dk.lay secs opens = tornTo (fun _ => 64) opens secs opens.length := by
  have := (lay_torn opens secs hs ho opens.length (Nat.le_refl _)).1
  rwa [List.take_length] at this

/-- A snapshot's writes, the first c of them. -/
def wrs (a : Nat) (e : Int) (data : List UInt8) (c : Nat) : List (Nat × List UInt8) := (List.range c).map fun i => (a + i, puSec data e i)
theorem wrs_len (a : Nat) (e : Int) (data : List UInt8) (c : Nat) : (wrs a e data c).length = c := by simp [wrs]
theorem wrs_succ (a : Nat) (e : Int) (data : List UInt8) (c : Nat) : wrs a e data (c + 1) = wrs a e data c ++ [(a + c, puSec data e c)] := by simp [wrs, List.range_succ]
theorem wrs_get (a : Nat) (e : Int) (data : List UInt8) (c j : Nat) (h : j < c) : (wrs a e data c)[j]? = some (a + j, puSec data e j) := by simp [wrs, h]
theorem wrs_mem (a : Nat) (e : Int) (data : List UInt8) (c : Nat) : ∀ o ∈ wrs a e data c, o.2.length = 64 ∧ o.1 < a + c := by
  intro o ho
  unfold wrs at ho
  rw [List.mem_map] at ho
  obtain ⟨i, hi, rfl⟩ := ho
  rw [List.mem_range] at hi
  exact ⟨mkSec_len _ _ _ (puPay_len data i), by simp; omega⟩
theorem getD_set (l : List (List UInt8)) (i p : Nat) (v : List UInt8) (hi : i < l.length) : (l.set i v).getD p [] = if p = i then v else l.getD p [] := by
  rw [List.getD, List.getD, List.getElem?_set]
  by_cases h : p = i
  · subst h
    simp [hi]
  · rw [if_neg (fun e => h e.symm), if_neg h]
theorem torn_get (f : Nat → Nat) (a : Nat) (e : Int) (data : List UInt8) (c : Nat) (secs : List (List UInt8)) (ha : a + c ≤ secs.length) (p : Nat) : ∀ j, j ≤ c →
    (tornTo f (wrs a e data c) secs j).getD p [] = if a ≤ p ∧ p < a + j then Dk.tear (f (p - a)) (puSec data e (p - a)) (secs.getD p []) else secs.getD p []
  | 0, _ => by rw [if_neg (by omega)]; rfl
  | j + 1, hj => by
    have ih := torn_get f a e data c secs ha p j (by omega)
    have ihj := torn_get f a e data c secs ha (a + j) j (by omega)
    rw [if_neg (by omega)] at ihj
    unfold tornTo
    rw [wrs_get a e data c j (by omega)]
    simp only
    rw [getD_set _ _ _ _ (by rw [tornTo_len]; omega), ihj]
    by_cases hp : p = a + j
    · subst hp
      rw [if_pos rfl, if_pos (by omega), show a + j - a = j by omega]
    · rw [if_neg hp, ih]
      by_cases h2 : a ≤ p ∧ p < a + j
      · rw [if_pos h2, if_pos (by omega)]
      · rw [if_neg h2, if_neg (by omega)]

variable {k n E e j : Nat} {secs : List (List UInt8)} {data : List UInt8} {ops : List (List UInt8)}

/-- A snapshot that was torn: what was is there, or the new one is. -/
theorem Inv.snapTorn (h : Inv k n secs E e j data ops) (hE : E < 250) {data2 : List UInt8} (hd : data2.length ≤ 43 * k) {secs' : List (List UInt8)} (hlen : secs'.length = secs.length)
    (hkeep : ∀ p, (p < (1 - j) * k ∨ (1 - j) * k + k ≤ p) → secs'.getD p [] = secs.getD p [])
    (H : ∀ i, i < k → (∀ e0 x0, e0 ≤ E → (x0 = i ∨ x0 = 0) → Tg (secs.getD ((1 - j) * k + i) []) e0 x0 → Tg (secs'.getD ((1 - j) * k + i) []) e0 x0) ∨ secs'.getD ((1 - j) * k + i) [] = puSec data2 (E + 1 : Nat) i ∨ (i ≠ 0 ∧ Tg (secs'.getD ((1 - j) * k + i) []) (E + 1) 0)) :
    ((∃ i, i < k ∧ secs'.getD ((1 - j) * k + i) [] ≠ puSec data2 (E + 1 : Nat) i) ∧ ∃ E', E' ≤ E + 1 ∧ E ≤ E' ∧ Inv k n secs' E' e j data ops) ∨ ((∀ i, i < k → secs'.getD ((1 - j) * k + i) [] = puSec data2 (E + 1 : Nat) i) ∧ Inv k n secs' (E + 1) (E + 1) (1 - j) data2 []) := by
  classical
  have hk := h.k1
  have hk2 := h.k2
  have hn := h.n2
  have hj := h.j1
  have he := h.e1
  have heE := h.eE
  have hapart : ∀ i, i < k → (j * k + i < (1 - j) * k ∨ (1 - j) * k + k ≤ j * k + i) := by
    intro i hi
    have : j = 0 ∨ j = 1 := by omega
    rcases this with rfl | rfl <;> simp <;> omega
  have hlogp : ∀ i, (1 - j) * k + k ≤ 2 * k + i := by
    intro i
    have : j = 0 ∨ j = 1 := by omega
    rcases this with rfl | rfl <;> simp <;> omega
  have hkc : ∀ i, i < k → secs'.getD (j * k + i) [] = secs.getD (j * k + i) [] := fun i hi => hkeep _ (hapart i hi)
  have hkl : ∀ i, secs'.getD (2 * k + i) [] = secs.getD (2 * k + i) [] := fun i => hkeep _ (.inr (hlogp i))
  have hjj : ∀ jj, jj ≤ 1 → jj = j ∨ jj = 1 - j := by intro jj h1; omega
  have hc1 : ∀ i, i < k → ∃ e0 x0, e0 ≤ E ∧ (x0 = i ∨ x0 = 0) ∧ Tg (secs.getD ((1 - j) * k + i) []) e0 x0 := fun i hi => h.slot (1 - j) i (by omega) hi
  have hlog : ∀ i, i < n → ∃ e' x, e' ≤ e ∧ (x = i ∨ x = 0) ∧ Tg (secs'.getD (2 * k + i) []) e' x := by
    intro i hi
    rw [hkl i]
    exact h.log i hi
  by_cases hall : ∀ i, i < k → secs'.getD ((1 - j) * k + i) [] = puSec data2 (E + 1 : Nat) i
  · right
    refine ⟨hall, hk, hk2, hn, by rw [hlen, h.len], by omega, by omega, Nat.le_refl _, by omega, ?_, ?_, hall, hd, ?_, ?_, by simp, ?_, ?_⟩
    · intro jj i h1 hi
      rcases hjj jj h1 with rfl | rfl
      · obtain ⟨e', x, a, b, c⟩ := h.slot jj i h1 hi
        exact ⟨e', x, by omega, b, by rw [hkc i hi]; exact c⟩
      · exact ⟨E + 1, i, by omega, .inl rfl, by rw [hall i hi]; exact puSec_tg _ _ _⟩
    · intro i hi
      obtain ⟨e', x, a, b, c⟩ := hlog i hi
      exact ⟨e', x, by omega, b, c⟩
    · intro e' h1 h2 hh
      have := hh 0 (by omega)
      rw [show 1 - (1 - j) = j by omega, hkc 0 (by omega), h.cur 0 (by omega)] at this
      have := (this.inj (puSec_tg data e 0) (by omega) (by omega) (by omega) (by omega)).1
      omega
    · exact ⟨1 - j, 0, 0, by omega, by omega, Nat.le_refl _, by rw [hall 0 (by omega)]; exact puSec_tg _ _ _⟩
    · intro i s hs
      simp at hs
    · intro i _ hi ht
      obtain ⟨e', x, a, b, c⟩ := hlog i hi
      have := (ht.inj c (by omega) (by omega) (by omega) (by omega)).1
      omega
  · left
    refine ⟨?_, ?_⟩
    · rcases Classical.em (∃ i, i < k ∧ secs'.getD ((1 - j) * k + i) [] ≠ puSec data2 (E + 1 : Nat) i) with hc | hc
      · exact hc
      · exfalso
        apply hall
        intro i hi
        rcases Classical.em (secs'.getD ((1 - j) * k + i) [] = puSec data2 (E + 1 : Nat) i) with h1 | h1
        · exact h1
        · exact absurd ⟨i, hi, h1⟩ hc
    obtain ⟨E', hE'⟩ : ∃ E', E' = if ∃ i x, i < k ∧ x ≤ i ∧ Tg (secs'.getD ((1 - j) * k + i) []) (E + 1) x then E + 1 else E := ⟨_, rfl⟩
    have hEE : E ≤ E' ∧ E' ≤ E + 1 := by rw [hE']; split <;> omega
    have hno : ∀ i x, i < k → x ≤ i → Tg (secs'.getD ((1 - j) * k + i) []) (E + 1) x → E' = E + 1 := by
      intro i x hi hx ht
      rw [hE', if_pos ⟨i, x, hi, hx, ht⟩]
    refine ⟨E', hEE.2, hEE.1, hk, hk2, hn, by rw [hlen, h.len], hj, he, by omega, by omega, ?_, hlog, ?_, h.dlen, ?_, ?_, h.olen, ?_, ?_⟩
    · intro jj i h1 hi
      rcases hjj jj h1 with rfl | rfl
      · obtain ⟨e', x, a, b, c⟩ := h.slot jj i h1 hi
        exact ⟨e', x, by omega, b, by rw [hkc i hi]; exact c⟩
      · rcases H i hi with h2 | h2 | ⟨h2, h3⟩
        · obtain ⟨e0, x0, a, b, c⟩ := hc1 i hi
          exact ⟨e0, x0, by omega, b, h2 e0 x0 a b c⟩
        · have ht : Tg (secs'.getD ((1 - j) * k + i) []) (E + 1) i := by rw [h2]; exact puSec_tg _ _ _
          exact ⟨E + 1, i, by have := hno i i hi (Nat.le_refl _) ht; omega, .inl rfl, ht⟩
        · exact ⟨E + 1, 0, by have := hno i 0 hi (by omega) h3; omega, .inr rfl, h3⟩
    · intro i hi
      rw [hkc i hi]
      exact h.cur i hi
    · intro e' h1 h2 hh
      by_cases heq : e' = E + 1
      · apply hall
        intro i hi
        have ht := hh i hi
        rcases H i hi with h2 | h2 | ⟨h2, h3⟩
        · obtain ⟨e0, x0, a, b, c⟩ := hc1 i hi
          have := ((h2 e0 x0 a b c).inj ht (by omega) (by omega) (by omega) (by omega)).1
          omega
        · exact h2
        · have := (h3.inj ht (by omega) (by omega) (by omega) (by omega)).2
          omega
      · refine h.other e' h1 (by omega) (fun i hi => ?_)
        have ht := hh i hi
        rcases H i hi with h2 | h2 | ⟨h2, h3⟩
        · obtain ⟨e0, x0, a, b, c⟩ := hc1 i hi
          obtain ⟨rfl, rfl⟩ := (h2 e0 x0 a b c).inj ht (by omega) (by omega) (by omega) (by omega)
          exact c
        · rw [h2] at ht
          have := ((puSec_tg data2 (E + 1) i).inj ht (by omega) (by omega) (by omega) (by omega)).1
          omega
        · have := (h3.inj ht (by omega) (by omega) (by omega) (by omega)).1
          omega
    · by_cases hex : ∃ i x, i < k ∧ x ≤ i ∧ Tg (secs'.getD ((1 - j) * k + i) []) (E + 1) x
      · obtain ⟨i, x, hi, hx, ht⟩ := hex
        rw [hno i x hi hx ht]
        exact ⟨1 - j, i, x, by omega, hi, hx, ht⟩
      · rw [hE', if_neg hex]
        obtain ⟨jj, i, x, h1, hi, hx, ht⟩ := h.top
        rcases hjj jj h1 with rfl | rfl
        · exact ⟨jj, i, x, h1, hi, hx, by rw [hkc i hi]; exact ht⟩
        · rcases H i hi with h2 | h2 | ⟨h2, h3⟩
          · obtain ⟨e0, x0, a, b, c⟩ := hc1 i hi
            obtain ⟨rfl, rfl⟩ := c.inj ht (by omega) (by omega) (by omega) (by omega)
            exact ⟨1 - j, i, _, h1, hi, hx, h2 _ _ a b c⟩
          · exact absurd ⟨i, i, hi, Nat.le_refl _, by rw [h2]; exact puSec_tg _ _ _⟩ hex
          · exact absurd ⟨i, 0, hi, by omega, h3⟩ hex
    · intro i s hs
      rw [hkl i]
      exact h.recs i s hs
    · intro i a b
      rw [hkl i]
      exact h.rest i a b

/-- A record that was torn: what was is there, or the new one is too. -/
theorem Inv.appTorn (h : Inv k n secs E e j data ops) (hm : ops.length < n) {s : List UInt8} (hs : s.length ≤ 43) {secs' : List (List UInt8)} (hlen : secs'.length = secs.length)
    (hkeep : ∀ p, p ≠ 2 * k + ops.length → secs'.getD p [] = secs.getD p [])
    (H : (∀ e0 x0, e0 ≤ E → (x0 = ops.length ∨ x0 = 0) → Tg (secs.getD (2 * k + ops.length) []) e0 x0 → Tg (secs'.getD (2 * k + ops.length) []) e0 x0) ∨ secs'.getD (2 * k + ops.length) [] = mkSec s e ops.length ∨ (ops.length ≠ 0 ∧ Tg (secs'.getD (2 * k + ops.length) []) e 0)) :
    (secs'.getD (2 * k + ops.length) [] ≠ mkSec s e ops.length ∧ Inv k n secs' E e j data ops) ∨ (secs'.getD (2 * k + ops.length) [] = mkSec s e ops.length ∧ Inv k n secs' E e j data (ops ++ [s])) := by
  have hk := h.k1
  have hk2 := h.k2
  have hn := h.n2
  have hj := h.j1
  have he := h.e1
  have heE := h.eE
  have hEb := h.Eb
  have hsl : ∀ jj i, jj ≤ 1 → i < k → secs'.getD (jj * k + i) [] = secs.getD (jj * k + i) [] := by
    intro jj i h1 hi
    apply hkeep
    have : jj = 0 ∨ jj = 1 := by omega
    rcases this with rfl | rfl <;> simp <;> omega
  have hlk : ∀ i, i ≠ ops.length → secs'.getD (2 * k + i) [] = secs.getD (2 * k + i) [] := fun i hi => hkeep _ (by omega)
  have hlog : ∀ i, i < n → ∃ e' x, e' ≤ e ∧ (x = i ∨ x = 0) ∧ Tg (secs'.getD (2 * k + i) []) e' x := by
    intro i hi
    by_cases him : i = ops.length
    · subst him
      rcases H with h2 | h2 | ⟨h2, h3⟩
      · obtain ⟨e0, x0, a, b, c⟩ := h.log _ hi
        exact ⟨e0, x0, a, b, h2 e0 x0 (by omega) b c⟩
      · exact ⟨e, _, Nat.le_refl _, .inl rfl, by rw [h2]; exact Tg.mk' s e _ hs⟩
      · exact ⟨e, 0, Nat.le_refl _, .inr rfl, h3⟩
    · rw [hlk i him]
      exact h.log i hi
  have hslot : ∀ jj i, jj ≤ 1 → i < k → ∃ e' x, e' ≤ E ∧ (x = i ∨ x = 0) ∧ Tg (secs'.getD (jj * k + i) []) e' x := by
    intro jj i h1 hi
    rw [hsl jj i h1 hi]
    exact h.slot jj i h1 hi
  have hcur : ∀ i, i < k → secs'.getD (j * k + i) [] = puSec data e i := by
    intro i hi
    rw [hsl j i hj hi]
    exact h.cur i hi
  have hother : ∀ e', e ≤ e' → e' ≤ E → ¬ ∀ i, i < k → Tg (secs'.getD ((1 - j) * k + i) []) e' i := by
    intro e' h1 h2 hh
    refine h.other e' h1 h2 (fun i hi => ?_)
    rw [← hsl (1 - j) i (by omega) hi]
    exact hh i hi
  have htop : ∃ jj i x, jj ≤ 1 ∧ i < k ∧ x ≤ i ∧ Tg (secs'.getD (jj * k + i) []) E x := by
    obtain ⟨jj, i, x, h1, hi, hx, ht⟩ := h.top
    exact ⟨jj, i, x, h1, hi, hx, by rw [hsl jj i h1 hi]; exact ht⟩
  by_cases hnew : secs'.getD (2 * k + ops.length) [] = mkSec s e ops.length
  · right
    refine ⟨hnew, hk, hk2, hn, by rw [hlen, h.len], hj, he, heE, hEb, hslot, hlog, hcur, h.dlen, hother, htop, by simp; omega, ?_, ?_⟩
    · intro i t ht
      by_cases him : i = ops.length
      · subst him
        simp at ht
        subst ht
        exact ⟨hs, hnew⟩
      · rw [hlk i him]
        have hlt : i < ops.length := by
          have := (List.getElem?_eq_some_iff.1 ht).1
          simp at this
          omega
        rw [List.getElem?_append_left hlt] at ht
        exact h.recs i t ht
    · intro i h1 hi
      simp at h1
      rw [hlk i (by omega)]
      exact h.rest i (by omega) hi
  · left
    refine ⟨hnew, hk, hk2, hn, by rw [hlen, h.len], hj, he, heE, hEb, hslot, hlog, hcur, h.dlen, hother, htop, h.olen, ?_, ?_⟩
    · intro i t ht
      have hlt : i < ops.length := (List.getElem?_eq_some_iff.1 ht).1
      rw [hlk i (by omega)]
      exact h.recs i t ht
    · intro i h1 hi ht
      by_cases him : i = ops.length
      · subst him
        rcases H with h2 | h2 | ⟨h2, h3⟩
        · obtain ⟨e0, x0, a, b, c⟩ := h.log _ hi
          obtain ⟨rfl, rfl⟩ := (h2 e0 x0 (by omega) b c).inj ht (by omega) (by omega) (by omega) (by omega)
          exact h.rest _ (Nat.le_refl _) hi c
        · exact hnew h2
        · exact h2 (h3.inj ht (by omega) (by omega) (by omega) (by omega)).2.symm
      · rw [hlk i him] at ht
        exact h.rest i h1 hi ht
end Go.Proofs.YtkeamfdceehliaaGreatDoor

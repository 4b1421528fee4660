/- Plain facts: what a journal's writes leave of the disk, faults and all. No program in sight. -/
import Derived.Test.YtkeamfdceehliaaGreatDoorInv2
import Derived.Test.YtkeamfdceehliaaGreatDoorJour6
namespace Go.Proofs.YtkeamfdceehliaaGreatDoor
open Go.RowKit

/-- All sectors are of 64 bytes. -/
def Sec64 (secs : List (List UInt8)) : Prop := ∀ s ∈ secs, s.length = 64

/-- What puts leaves: how many writes came through, and how near the fault is. -/
theorem puRun_form (a : Nat) (e : Int) (data : List UInt8) (D : Dk) : ∀ i, ∃ c f, c ≤ i ∧ (puRun a e data D i).1 = { D with opens := D.opens ++ wrs a e data c, fail := f } ∧ ((puRun a e data D i).2 = false → c = i) ∧ (D.fail = 0 → f = 0 ∧ (puRun a e data D i).2 = false) ∧ f ≤ D.fail
  | 0 => ⟨0, D.fail, Nat.le_refl _, by simp [puRun, wrs], fun _ => rfl, fun h => ⟨h, rfl⟩, Nat.le_refl _⟩
  | i + 1 => by
    obtain ⟨c, f, hc, hD, h1, h2, h3⟩ := puRun_form a e data D i
    unfold puRun
    simp only
    cases hb : (puRun a e data D i).2 with
    | true =>
      simp only [if_true]
      exact ⟨c, f, by omega, hD, (fun h => by rw [hb] at h; cases h), (fun h => by have := (h2 h).2; rw [hb] at this; cases this), h3⟩
    | false =>
      have hci := h1 hb
      simp only [Bool.false_eq_true, if_false]
      rw [hD]
      by_cases hf : f = 1
      · subst hf
        refine ⟨c, 0, by omega, by simp [Dk.bad, Dk.tick], by simp [Dk.bad], fun h => by have := (h2 h).1; omega, by omega⟩
      · have hbd : ({ D with opens := D.opens ++ wrs a e data c, fail := f } : Dk).bad = false := by simp [Dk.bad, hf]
        rw [hbd]
        simp only [Bool.false_eq_true, if_false]
        refine ⟨i + 1, f - 1, Nat.le_refl _, ?_, fun _ => rfl, fun h => ⟨by have := (h2 h).1; omega, trivial⟩, by omega⟩
        rw [hci, wrs_succ]
        simp [Dk.tick]

theorem puAll_form (a k : Nat) (e : Int) (data : List UInt8) (D : Dk) (ho : D.opens = []) :
    ((puAll a k e data D).1 = 18 ∧ D.fail ≠ 0 ∧ ∃ c f, c ≤ k ∧ f ≤ D.fail ∧ (puAll a k e data D).2 = { D with opens := wrs a e data c, fail := f }) ∨
    ((puAll a k e data D).1 = 0 ∧ ∃ f, (D.fail = 0 → f = 0) ∧ f ≤ D.fail ∧ (puAll a k e data D).2 = { D with secs := Dk.lay D.secs (wrs a e data k), opens := [], fail := f }) := by
  obtain ⟨c, f, hc, hD, h1, h2, h3⟩ := puRun_form a e data D k
  rw [ho, List.nil_append] at hD
  unfold puAll
  simp only
  cases hb : (puRun a e data D k).2 with
  | true =>
    left
    simp only [if_true]
    refine ⟨trivial, fun h => ?_, c, f, hc, h3, hD⟩
    have := (h2 h).2
    rw [hb] at this
    cases this
  | false =>
    have hck := h1 hb
    subst hck
    simp only [Bool.false_eq_true, if_false]
    rw [hD]
    unfold Dk.flush
    by_cases hf : f = 1
    · left
      subst hf
      rw [if_pos (by simp [Dk.bad])]
      exact ⟨rfl, fun h => by have := (h2 h).1; omega, c, 0, Nat.le_refl _, by omega, by simp [Dk.tick]⟩
    · right
      rw [if_neg (by simp [Dk.bad, hf])]
      exact ⟨rfl, f - 1, fun h => by have := (h2 h).1; omega, by omega, by simp [Dk.tick]⟩

theorem lgAll_form (a : Nat) (x : List UInt8) (D : Dk) (ho : D.opens = []) :
    ((lgAll a x D).1 = 18 ∧ D.fail ≠ 0 ∧ ∃ f, f ≤ D.fail ∧ ((lgAll a x D).2 = { D with opens := [], fail := f } ∨ (lgAll a x D).2 = { D with opens := [(a, x)], fail := f })) ∨
    ((lgAll a x D).1 = 0 ∧ ∃ f, (D.fail = 0 → f = 0) ∧ f ≤ D.fail ∧ (lgAll a x D).2 = { D with secs := D.secs.set a x, opens := [], fail := f }) := by
  unfold lgAll
  by_cases h1 : D.fail = 1
  · left
    rw [if_pos (by simp [Dk.bad, h1])]
    exact ⟨rfl, by omega, 0, by omega, .inl (by simp [Dk.tick, h1, ho])⟩
  · rw [if_neg (by simp [Dk.bad, h1])]
    unfold Dk.flush
    by_cases h2 : D.fail = 2
    · left
      rw [if_pos (by simp [Dk.bad, Dk.tick, h2])]
      exact ⟨rfl, by omega, 0, by omega, .inr (by simp [Dk.tick, ho, h2])⟩
    · right
      rw [if_neg (by simp [Dk.bad, Dk.tick]; omega)]
      exact ⟨rfl, D.fail - 1 - 1, fun h => by omega, by omega, by simp [Dk.tick, ho, Dk.lay]⟩

variable {k n E e j : Nat} {secs : List (List UInt8)} {data : List UInt8} {ops : List (List UInt8)}

theorem wrJ_eq (h : j ≤ 1) : wrJ (j : Int) = 1 - j := by
  unfold wrJ
  have : j = 0 ∨ j = 1 := by omega
  rcases this with rfl | rfl <;> simp

/-- However a snapshot's writes come there. -/
theorem Inv.snapAny (h : Inv k n secs E e j data ops) (hE : E < 250) {data2 : List UInt8} (hd : data2.length ≤ 43 * k) (c : Nat) (hc : c ≤ k) (f : Nat → Nat) :
    (∃ E', E' ≤ E + 1 ∧ E ≤ E' ∧ Inv k n (tornTo f (wrs ((1 - j) * k) (E + 1 : Nat) data2 c) secs c) E' e j data ops) ∨ (c = k ∧ Inv k n (tornTo f (wrs ((1 - j) * k) (E + 1 : Nat) data2 c) secs c) (E + 1) (E + 1) (1 - j) data2 []) := by
  have hk := h.k1
  have hk2 := h.k2
  have hj := h.j1
  have hlen := h.len
  have ha : (1 - j) * k + c ≤ secs.length := by
    have : j = 0 ∨ j = 1 := by omega
    rcases this with rfl | rfl <;> simp <;> omega
  have hget := fun p => torn_get f ((1 - j) * k) (E + 1 : Nat) data2 c secs ha p c (Nat.le_refl _)
  have H : ∀ i, i < k → (∀ e0 x0, e0 ≤ E → (x0 = i ∨ x0 = 0) → Tg (secs.getD ((1 - j) * k + i) []) e0 x0 → Tg ((tornTo f (wrs ((1 - j) * k) (E + 1 : Nat) data2 c) secs c).getD ((1 - j) * k + i) []) e0 x0) ∨ (tornTo f (wrs ((1 - j) * k) (E + 1 : Nat) data2 c) secs c).getD ((1 - j) * k + i) [] = puSec data2 (E + 1 : Nat) i ∨ (i ≠ 0 ∧ Tg ((tornTo f (wrs ((1 - j) * k) (E + 1 : Nat) data2 c) secs c).getD ((1 - j) * k + i) []) (E + 1) 0) := by
    intro i hi
    rw [hget]
    by_cases hic : i < c
    · rw [if_pos (by omega), show (1 - j) * k + i - (1 - j) * k = i by omega]
      obtain ⟨e0, x0, he0, hx0, ht0⟩ := h.slot (1 - j) i (by omega) hi
      rcases tear_tag (f i) (puPay_len data2 i) (e := E + 1) (i := i) (by omega) (by omega) (by omega) hx0 ht0 with h1 | h1 | h1
      · left
        intro e1 x1 he1 hx1 ht1
        obtain ⟨rfl, rfl⟩ := ht1.inj ht0 (by omega) (by omega) (by omega) (by omega)
        exact h1
      · exact .inr (.inl h1)
      · exact .inr (.inr h1)
    · rw [if_neg (by omega)]
      left
      intro e1 x1 _ _ ht1
      exact ht1
  rcases h.snapTorn hE hd (secs' := tornTo f (wrs ((1 - j) * k) (E + 1 : Nat) data2 c) secs c) (tornTo_len _ _ _ _) (fun p hp => by rw [hget, if_neg (by omega)]) H with ⟨_, h1⟩ | ⟨h1, h2⟩
  · exact .inl h1
  · by_cases hck : c = k
    · exact .inr ⟨hck, h2⟩
    · exfalso
      have h3 := h1 c (by omega)
      rw [hget, if_neg (by omega)] at h3
      obtain ⟨e0, x0, he0, hx0, ht0⟩ := h.slot (1 - j) c (by omega) (by omega)
      rw [h3] at ht0
      have := ((puSec_tg data2 (E + 1) c).inj ht0 (by omega) (by omega) (by omega) (by omega)).1
      omega
/-- Where all of it came there, the new snapshot is there. -/
theorem Inv.snapDone (h : Inv k n secs E e j data ops) (hE : E < 250) {data2 : List UInt8} (hd : data2.length ≤ 43 * k) (h64 : Sec64 secs) :
    Inv k n (Dk.lay secs (wrs ((1 - j) * k) (E + 1 : Nat) data2 k)) (E + 1) (E + 1) (1 - j) data2 [] := by
  have hk := h.k1
  have hj := h.j1
  have hlen := h.len
  have ha : (1 - j) * k + k ≤ secs.length := by
    have : j = 0 ∨ j = 1 := by omega
    rcases this with rfl | rfl <;> simp <;> omega
  rw [lay_all _ _ h64 (fun o ho => (wrs_mem _ _ _ _ o ho).1), wrs_len]
  have hget := fun p => torn_get (fun _ => 64) ((1 - j) * k) (E + 1 : Nat) data2 k secs ha p k (Nat.le_refl _)
  have hnew : ∀ i, i < k → (tornTo (fun _ => 64) (wrs ((1 - j) * k) (E + 1 : Nat) data2 k) secs k).getD ((1 - j) * k + i) [] = puSec data2 (E + 1 : Nat) i := by
    intro i hi
    obtain ⟨e0, x0, he0, hx0, ht0⟩ := h.slot (1 - j) i (by omega) hi
    rw [hget, if_pos (by omega), show (1 - j) * k + i - (1 - j) * k = i by omega]
    unfold Dk.tear
    rw [List.take_of_length_le (by have := (puSec_tg data2 (E + 1) i).len; omega), List.drop_eq_nil_of_le (by rw [ht0.len]; omega), List.append_nil]
  rcases h.snapTorn hE hd (secs' := tornTo (fun _ => 64) (wrs ((1 - j) * k) (E + 1 : Nat) data2 k) secs k) (tornTo_len _ _ _ _) (fun p hp => by rw [hget, if_neg (by omega)]) (fun i hi => .inr (.inl (hnew i hi))) with ⟨⟨i, hi, h1⟩, _⟩ | ⟨_, h2⟩
  · exact absurd (hnew i hi) h1
  · exact h2

/-- However a record's write comes there. -/
theorem Inv.appAny (h : Inv k n secs E e j data ops) (hm : ops.length < n) {s : List UInt8} (hs : s.length ≤ 43) (f : Nat → Nat) :
    Inv k n (tornTo f [(2 * k + ops.length, mkSec s e ops.length)] secs 1) E e j data ops ∨ Inv k n (tornTo f [(2 * k + ops.length, mkSec s e ops.length)] secs 1) E e j data (ops ++ [s]) := by
  have hlen := h.len
  have hE := h.Eb
  have heE := h.eE
  have hn := h.n2
  have he : tornTo f [(2 * k + ops.length, mkSec s e ops.length)] secs 1 = secs.set (2 * k + ops.length) (Dk.tear (f 0) (mkSec s e ops.length) (secs.getD (2 * k + ops.length) [])) := rfl
  rw [he]
  obtain ⟨e0, x0, he0, hx0, ht0⟩ := h.log ops.length hm
  have H : (∀ e0 x0, e0 ≤ E → (x0 = ops.length ∨ x0 = 0) → Tg (secs.getD (2 * k + ops.length) []) e0 x0 → Tg ((secs.set (2 * k + ops.length) (Dk.tear (f 0) (mkSec s e ops.length) (secs.getD (2 * k + ops.length) []))).getD (2 * k + ops.length) []) e0 x0) ∨ (secs.set (2 * k + ops.length) (Dk.tear (f 0) (mkSec s e ops.length) (secs.getD (2 * k + ops.length) []))).getD (2 * k + ops.length) [] = mkSec s e ops.length ∨ (ops.length ≠ 0 ∧ Tg ((secs.set (2 * k + ops.length) (Dk.tear (f 0) (mkSec s e ops.length) (secs.getD (2 * k + ops.length) []))).getD (2 * k + ops.length) []) e 0) := by
    rw [getD_set _ _ _ _ (by omega), if_pos rfl]
    rcases tear_tag (f 0) hs (e := e) (i := ops.length) (by omega) (by omega) (by omega) hx0 ht0 with h1 | h1 | h1
    · left
      intro e1 x1 he1 hx1 ht1
      obtain ⟨rfl, rfl⟩ := ht1.inj ht0 (by omega) (by omega) (by omega) (by omega)
      exact h1
    · exact .inr (.inl h1)
    · exact .inr (.inr h1)
  rcases h.appTorn hm hs (secs' := secs.set (2 * k + ops.length) (Dk.tear (f 0) (mkSec s e ops.length) (secs.getD (2 * k + ops.length) []))) (by simp) (fun p hp => by rw [getD_set _ _ _ _ (by omega), if_neg hp]) H with h1 | h1
  · exact .inl h1.2
  · exact .inr h1.2
theorem Inv.appDone (h : Inv k n secs E e j data ops) (hm : ops.length < n) {s : List UInt8} (hs : s.length ≤ 43) :
    Inv k n (secs.set (2 * k + ops.length) (mkSec s e ops.length)) E e j data (ops ++ [s]) := by
  have hlen := h.len
  have hnew : (secs.set (2 * k + ops.length) (mkSec s e ops.length)).getD (2 * k + ops.length) [] = mkSec s e ops.length := by rw [getD_set _ _ _ _ (by omega), if_pos rfl]
  rcases h.appTorn hm hs (secs' := secs.set (2 * k + ops.length) (mkSec s e ops.length)) (by simp) (fun p hp => by rw [getD_set _ _ _ _ (by omega), if_neg hp]) (.inr (.inl hnew)) with h1 | h1
  · exact absurd hnew h1.1
  · exact h1.2

/-! An empty disk. -/
theorem zsec_ep : secEp Dk.zsec = 0 := by decide +kernel
theorem zget (m i : Nat) (hi : i < m) : (List.replicate m Dk.zsec).getD i [] = Dk.zsec := by simp [List.getD, hi]
theorem zero_sl (k n a : Nat) (D : Dk) (hs : D.secs = List.replicate (2 * k + n) Dk.zsec) (hk : 1 ≤ k) (ha : a + k ≤ 2 * k) : slVal (slForm a D 0 k) = (0, []) ∧ nwTo a D.secs 0 k = 0 := by
  constructor
  · unfold slVal slForm
    simp only
    rw [if_neg (by omega : ¬ k = 0), hs, zget _ _ (by omega), zsec_ep, if_neg (by simp)]
  · apply Int.le_antisymm
    · exact nwTo_le _ _ _ _ (Int.le_refl _) k (fun i hi => by rw [hs, zget _ _ (by omega), zsec_ep]; exact Int.le_refl _)
    · exact nwTo_mono _ _ _ _
theorem zero_read (k n : Nat) (D : Dk) (hs : D.secs = List.replicate (2 * k + n) Dk.zsec) (hk : 1 ≤ k) (hf : D.fail = 0) (ho : D.opens = []) :
    rdAll k D = { D := readsN (2 * k) D, nw := 0, out := (0, []), last := -1, bad := false } := by
  have h1 := readsN_same k D
  have e0 : rdRun k D 1 = { D := readsN k D, nw := 0, out := (0, []), last := -1, bad := false } := by
    show (if (rdRun k D 0).bad then _ else rdStep k 0 (rdRun k D 0)) = _
    rw [if_neg (by simp [rdRun, rdInit])]
    show rdStep k 0 (rdInit D) = _
    have hS : slRun (0 * k) k (slInit (rdInit D).D (rdInit D).nw) = slForm (0 * k) D 0 k := slRun_form _ _ _ hf ho _
    have hz := zero_sl k n (0 * k) D hs hk (by omega)
    unfold rdStep
    simp only [hS]
    rw [if_neg (by simp [slForm])]
    have ht : rdTake (rdInit D) (slForm (0 * k) D 0 k) = false := by unfold rdTake; rw [hz.1]; rfl
    simp only [ht, Bool.false_eq_true, if_false]
    have hD : (slForm (0 * k) D 0 k).D = readsN k D := rfl
    have hN : (slForm (0 * k) D 0 k).nw = 0 := hz.2
    rw [hD, hN]
    rfl
  show (if (rdRun k D 1).bad then _ else rdStep k 1 (rdRun k D 1)) = _
  rw [e0, if_neg (by simp)]
  have hz := zero_sl k n (1 * k) (readsN k D) (by rw [h1.1, hs]) hk (by omega)
  unfold rdStep
  simp only [slRun_form _ _ _ (h1.2.2 hf) (by rw [h1.2.1, ho] : (readsN k D).opens = [])]
  rw [if_neg (by simp [slForm])]
  have ht : rdTake { D := readsN k D, nw := 0, out := (0, []), last := -1, bad := false } (slForm (1 * k) (readsN k D) 0 k) = false := by unfold rdTake; rw [hz.1]; rfl
  simp only [ht, Bool.false_eq_true, if_false]
  have hD : (slForm (1 * k) (readsN k D) 0 k).D = readsN (2 * k) D := by
    simp only [slForm]
    rw [readsN_add]
    congr 1
    omega
  have hN : (slForm (1 * k) (readsN k D) 0 k).nw = 0 := hz.2
  rw [hD, hN]

/-- The first snapshot of an empty disk. -/
theorem Inv.first (k n : Nat) (hk : 1 ≤ k) (hk2 : k ≤ 64) (hn : n ≤ 200) (data : List UInt8) (hd : data.length ≤ 43 * k) :
    Inv k n (Dk.lay (List.replicate (2 * k + n) Dk.zsec) (wrs (0 * k) 1 data k)) 1 1 0 data [] := by
  have h64 : Sec64 (List.replicate (2 * k + n) Dk.zsec) := fun s hs => by rw [(List.mem_replicate.1 hs).2]; rfl
  rw [lay_all _ _ h64 (fun o ho => (wrs_mem _ _ _ _ o ho).1), wrs_len, Nat.zero_mul]
  have hget := fun p => torn_get (fun _ => 64) 0 1 data k (List.replicate (2 * k + n) Dk.zsec) (by simp; omega) p k (Nat.le_refl _)
  have hnew : ∀ i, i < k → (tornTo (fun _ => 64) (wrs 0 1 data k) (List.replicate (2 * k + n) Dk.zsec) k).getD i [] = puSec data (1 : Nat) i := by
    intro i hi
    rw [hget, if_pos (by omega), Nat.sub_zero]
    unfold Dk.tear
    rw [zget _ _ (by omega), List.take_of_length_le (by have := (puSec_tg data 1 i).len; simp at this ⊢; omega), List.drop_eq_nil_of_le (by decide), List.append_nil]
    rfl
  have hold : ∀ i, k ≤ i → i < 2 * k + n → (tornTo (fun _ => 64) (wrs 0 1 data k) (List.replicate (2 * k + n) Dk.zsec) k).getD i [] = Dk.zsec := by
    intro i h1 h2
    rw [hget, if_neg (by omega), zget _ _ h2]
  refine ⟨hk, hk2, hn, by rw [tornTo_len]; simp, by omega, by omega, by omega, by omega, ?_, ?_, ?_, hd, ?_, ?_, by simp, by simp, ?_⟩
  · intro jj i hjj hi
    have : jj = 0 ∨ jj = 1 := by omega
    rcases this with rfl | rfl
    · exact ⟨1, i, by omega, .inl rfl, by rw [Nat.zero_mul, Nat.zero_add, hnew i hi]; exact puSec_tg _ _ _⟩
    · exact ⟨0, 0, by omega, .inr rfl, by rw [hold _ (by omega) (by omega)]; exact Tg.zero⟩
  · intro i hi
    exact ⟨0, 0, by omega, .inr rfl, by rw [hold _ (by omega) (by omega)]; exact Tg.zero⟩
  · intro i hi
    rw [Nat.zero_mul, Nat.zero_add]
    exact hnew i hi
  · intro e' h1 h2 hh
    have := hh 0 (by omega)
    rw [hold _ (by omega) (by omega)] at this
    have := (this.inj Tg.zero (by omega) (by omega) (by omega) (by omega)).1
    omega
  · exact ⟨0, 0, 0, by omega, by omega, by omega, by rw [Nat.zero_mul, Nat.zero_add, hnew 0 (by omega)]; exact puSec_tg _ _ _⟩
  · intro i _ hi ht
    rw [hold _ (by omega) (by omega)] at ht
    have := (ht.inj Tg.zero (by omega) (by omega) (by omega) (by omega)).1
    omega
end Go.Proofs.YtkeamfdceehliaaGreatDoor

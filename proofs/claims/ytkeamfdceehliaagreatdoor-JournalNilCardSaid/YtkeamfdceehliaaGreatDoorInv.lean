/- Plain facts: what a journal's disk shows, and what it shows when it is read. No program in sight. -/
import Derived.Test.YtkeamfdceehliaaGreatDoorSec
import Derived.Test.YtkeamfdceehliaaGreatDoorWal5
namespace Go.Proofs.YtkeamfdceehliaaGreatDoor
open Go.RowKit

/-! A text's parts are the text. -/
theorem chunksN_get : ∀ (k : Nat) (s : List UInt8) (i : Nat), s.length ≤ k → (chunksN k s).getD i [] = (s.drop (43 * i)).take 43
  | 0, s, i, h => by
    have : s = [] := List.length_eq_zero_iff.1 (by omega)
    subst this
    cases i <;> simp [chunksN]
  | k + 1, s, i, h => by
    unfold chunksN
    split
    · rename_i hs
      cases i with
      | zero => simp [List.take_of_length_le hs]
      | succ i => simp [List.drop_eq_nil_of_le (by omega : s.length ≤ 43 * (i + 1))]
    · rename_i hs
      cases i with
      | zero => simp
      | succ i =>
        rw [List.getD_cons_succ, chunksN_get k (s.drop 43) i (by simp; omega), List.drop_drop]
        congr 2
        omega
theorem puPay_eq (data : List UInt8) (i : Nat) : puPay data i = (data.drop (43 * i)).take 43 := chunksN_get _ _ _ (Nat.le_refl _)
theorem puSec_tg (data : List UInt8) (e i : Nat) : Tg (puSec data e i) e i := Tg.mk' _ e i (puPay_len data i)

/-! Reading, while nothing fails. -/
def readsN : Nat → Dk → Dk
  | 0, D => D
  | m + 1, D => (readsN m D).readN.tick
theorem readsN_same (m : Nat) (D : Dk) : (readsN m D).secs = D.secs ∧ (readsN m D).opens = D.opens ∧ (D.fail = 0 → (readsN m D).fail = 0) := by
  induction m with
  | zero => exact ⟨rfl, rfl, fun h => h⟩
  | succ m ih => exact ⟨ih.1, ih.2.1, fun h => by have := ih.2.2 h; simp [readsN, Dk.tick, Dk.readN, this]⟩
theorem readsN_add (a b : Nat) (D : Dk) : readsN a (readsN b D) = readsN (b + a) D := by
  induction a with
  | zero => rfl
  | succ a ih => show (readsN a (readsN b D)).readN.tick = _; rw [ih]; rfl
theorem readsN_count (m : Nat) (D : Dk) (h0 : 0 ≤ D.reads) (h1 : D.reads ≤ 1000000) (hm : m ≤ 1000000) : (readsN m D).reads = D.reads + m := by
  induction m with
  | zero => simp [readsN]
  | succ m ih =>
    have := ih (by omega)
    show wInt ((readsN m D).reads + 1) = _
    rw [this]
    unfold wInt
    omega
theorem bad0 {D : Dk} (h : D.fail = 0) : D.bad = false := by simp [Dk.bad, h]
theorem cur0 {D : Dk} (h : D.opens = []) (i : Nat) : D.cur i = D.secs.getD i [] := by simp [Dk.cur, Dk.look, h]

def nwTo (a : Nat) (secs : List (List UInt8)) (nw : Int) : Nat → Int
  | 0 => nw
  | i + 1 => max (nwTo a secs nw i) (secEp (secs.getD (a + i) []))
def okTo (a : Nat) (secs : List (List UInt8)) : Nat → Bool
  | 0 => true
  | i + 1 => okTo a secs i && isWhole (secs.getD (a + i) []) (secEp (secs.getD a [])) i
def dtTo (a : Nat) (secs : List (List UInt8)) : Nat → List UInt8
  | 0 => []
  | i + 1 => dtTo a secs i ++ rdPay (secs.getD (a + i) [])
def slForm (a : Nat) (D : Dk) (nw : Int) (i : Nat) : SlS :=
  { D := readsN i D, nw := nwTo a D.secs nw i, ep := if i = 0 then 0 else secEp (D.secs.getD a []), ok := okTo a D.secs i, data := dtTo a D.secs i, n := i, bad := false }
theorem slRun_form (a : Nat) (D : Dk) (nw : Int) (hf : D.fail = 0) (ho : D.opens = []) : ∀ i, slRun a i (slInit D nw) = slForm a D nw i
  | 0 => rfl
  | i + 1 => by
    unfold slRun
    rw [slRun_form a D nw hf ho i]
    have h := readsN_same i D
    have hb : (readsN i D).bad = false := bad0 (h.2.2 hf)
    have hc : ∀ m, (readsN i D).cur m = D.secs.getD m [] := fun m => by rw [cur0 (by rw [h.2.1, ho]), h.1]
    rw [if_neg (by simp [slForm])]
    unfold slStep
    simp only [slForm, hb, hc, Bool.false_eq_true, if_false]
    by_cases hi : i = 0
    · subst hi
      simp [nwTo, okTo, dtTo, readsN]
    · simp [nwTo, okTo, dtTo, readsN, hi]
theorem okTo_all (a : Nat) (secs : List (List UInt8)) : ∀ k, okTo a secs k = true → ∀ i, i < k → isWhole (secs.getD (a + i) []) (secEp (secs.getD a [])) i = true
  | 0, _, i, hi => by omega
  | k + 1, h, i, hi => by
    simp only [okTo, Bool.and_eq_true] at h
    by_cases e : i = k
    · subst e; exact h.2
    · exact okTo_all a secs k h.1 i (by omega)
theorem okTo_mk (a : Nat) (secs : List (List UInt8)) : ∀ k, (∀ i, i < k → isWhole (secs.getD (a + i) []) (secEp (secs.getD a [])) i = true) → okTo a secs k = true
  | 0, _ => rfl
  | k + 1, h => by
    simp only [okTo, Bool.and_eq_true]
    exact ⟨okTo_mk a secs k (fun i hi => h i (by omega)), h k (by omega)⟩
theorem nwTo_le (a : Nat) (secs : List (List UInt8)) (nw : Int) (E : Int) (h0 : nw ≤ E) : ∀ k, (∀ i, i < k → secEp (secs.getD (a + i) []) ≤ E) → nwTo a secs nw k ≤ E
  | 0, _ => h0
  | k + 1, h => by
    have h1 := nwTo_le a secs nw E h0 k (fun i hi => h i (by omega))
    have h2 := h k (by omega)
    simp only [nwTo]
    omega
theorem nwTo_mono (a : Nat) (secs : List (List UInt8)) (nw : Int) : ∀ k, nw ≤ nwTo a secs nw k
  | 0 => Int.le_refl _
  | k + 1 => by have := nwTo_mono a secs nw k; simp only [nwTo]; omega
theorem nwTo_ge (a : Nat) (secs : List (List UInt8)) (nw : Int) : ∀ k i, i < k → secEp (secs.getD (a + i) []) ≤ nwTo a secs nw k
  | 0, i, hi => by omega
  | k + 1, i, hi => by
    simp only [nwTo]
    by_cases e : i = k
    · subst e; omega
    · have := nwTo_ge a secs nw k i (by omega); omega
theorem rdPay_mk (p : List UInt8) (e n : Int) (hp : p.length ≤ 43) : rdPay (mkSec p e n) = p := by
  unfold rdPay
  rw [isSec_mk p e n hp, secPay_mk p e n hp]
  rfl
theorem dtTo_cur (a : Nat) (secs : List (List UInt8)) (data : List UInt8) (e : Int) : ∀ k, (∀ i, i < k → secs.getD (a + i) [] = puSec data e i) → dtTo a secs k = data.take (43 * k)
  | 0, _ => by simp [dtTo]
  | k + 1, h => by
    simp only [dtTo]
    rw [dtTo_cur a secs data e k (fun i hi => h i (by omega)), h k (by omega)]
    unfold puSec
    rw [rdPay_mk _ _ _ (puPay_len data k), puPay_eq, show 43 * (k + 1) = 43 * k + 43 by omega, List.take_add]

/-- What a journal's disk shows: slot j holds the snapshot 'data' of epoch e, behind it the records 'ops'; E is the newest epoch that any sector's end says. -/
structure Inv (k n : Nat) (secs : List (List UInt8)) (E e j : Nat) (data : List UInt8) (ops : List (List UInt8)) : Prop where
  k1 : 1 ≤ k
  k2 : k ≤ 64
  n2 : n ≤ 200
  len : secs.length = 2 * k + n
  j1 : j ≤ 1
  e1 : 1 ≤ e
  eE : e ≤ E
  Eb : E ≤ 250
  slot : ∀ jj i, jj ≤ 1 → i < k → ∃ e' x, e' ≤ E ∧ (x = i ∨ x = 0) ∧ Tg (secs.getD (jj * k + i) []) e' x
  log : ∀ i, i < n → ∃ e' x, e' ≤ e ∧ (x = i ∨ x = 0) ∧ Tg (secs.getD (2 * k + i) []) e' x
  cur : ∀ i, i < k → secs.getD (j * k + i) [] = puSec data e i
  dlen : data.length ≤ 43 * k
  other : ∀ e', e ≤ e' → e' ≤ E → ¬ ∀ i, i < k → Tg (secs.getD ((1 - j) * k + i) []) e' i
  top : ∃ jj i x, jj ≤ 1 ∧ i < k ∧ x ≤ i ∧ Tg (secs.getD (jj * k + i) []) E x
  olen : ops.length ≤ n
  recs : ∀ i s, ops[i]? = some s → s.length ≤ 43 ∧ secs.getD (2 * k + i) [] = mkSec s e i
  rest : ∀ i, ops.length ≤ i → i < n → ¬ Tg (secs.getD (2 * k + i) []) e i

variable {k n E e j : Nat} {secs : List (List UInt8)} {data : List UInt8} {ops : List (List UInt8)}

theorem Inv.epLe (h : Inv k n secs E e j data ops) {jj i : Nat} (hj : jj ≤ 1) (hi : i < k) : secEp (secs.getD (jj * k + i) []) ≤ E := by
  obtain ⟨e', x, he, hx, ht⟩ := h.slot jj i hj hi
  have := h.Eb
  rw [ht.ep (by omega)]
  omega
theorem Inv.curOk (h : Inv k n secs E e j data ops) : okTo (j * k) secs k = true := by
  have hk := h.k2
  have he := h.Eb
  have heE := h.eE
  apply okTo_mk
  intro i hi
  have h0 := h.cur 0 (by have := h.k1; omega)
  rw [Nat.add_zero] at h0
  rw [h.cur i hi, h0]
  unfold puSec
  rw [secEp_mk _ _ _ (puPay_len data 0) (by omega) (by omega)]
  exact isWhole_mk _ _ _ (puPay_len data i) (by omega) (by omega) (by omega) (by omega)
theorem Inv.curEp (h : Inv k n secs E e j data ops) : secEp (secs.getD (j * k) []) = e := by
  have h0 := h.cur 0 (by have := h.k1; omega)
  have he := h.Eb
  have heE := h.eE
  rw [Nat.add_zero] at h0
  rw [h0]
  unfold puSec
  rw [secEp_mk _ _ _ (puPay_len data 0) (by omega) (by omega)]
theorem Inv.curVal (h : Inv k n secs E e j data ops) (D : Dk) (hs : D.secs = secs) (nw : Int) : slVal (slForm (j * k) D nw k) = ((e : Int), data) := by
  have hk := h.k1
  have he := h.e1
  unfold slVal slForm
  simp only [hs, h.curOk, h.curEp]
  rw [if_neg (by omega : ¬ k = 0), dtTo_cur _ _ data e k h.cur, List.take_of_length_le h.dlen]
  rw [if_pos]
  simp
  omega
theorem Inv.otherVal (h : Inv k n secs E e j data ops) (D : Dk) (hs : D.secs = secs) (nw : Int) : (slVal (slForm ((1 - j) * k) D nw k)).1 < e := by
  have hk := h.k1
  have hk2 := h.k2
  have he := h.e1
  have hE := h.Eb
  unfold slVal
  split
  · rename_i hc
    simp only [slForm, Bool.and_eq_true, hs] at hc ⊢
    rw [if_neg (by omega : ¬ k = 0)] at hc ⊢
    obtain ⟨e0, x0, he0, hx0, ht0⟩ := h.slot (1 - j) 0 (by omega) (by omega)
    rw [Nat.add_zero] at ht0
    have hep := ht0.ep (by omega)
    rw [hep]
    by_cases hlt : e ≤ e0
    · exfalso
      refine h.other e0 hlt he0 (fun i hi => ?_)
      have hw := okTo_all _ _ _ hc.1.1 i hi
      rw [hep] at hw
      obtain ⟨e', x, he', hx, ht⟩ := h.slot (1 - j) i (by omega) hi
      obtain ⟨rfl, rfl⟩ := ht.whole (by omega) (by omega) hw
      exact ht
    · omega
  · show (0 : Int) < e
    omega

/-- What reading the slots tells. -/
theorem Inv.read (h : Inv k n secs E e j data ops) (D : Dk) (hs : D.secs = secs) (hf : D.fail = 0) (ho : D.opens = []) :
    rdAll k D = { D := readsN (2 * k) D, nw := E, out := ((e : Int), data), last := j, bad := false } := by
  have hj := h.j1
  have he := h.e1
  have h1 := readsN_same k D
  have hnw : nwTo (1 * k) secs (nwTo (0 * k) secs 0 k) k = E := by
    apply Int.le_antisymm
    · exact nwTo_le _ _ _ _ (nwTo_le _ _ _ _ (by omega) k (fun i hi => h.epLe (by omega) hi)) k (fun i hi => h.epLe (by omega) hi)
    · obtain ⟨jj, i, x, hjj, hi, hx, ht⟩ := h.top
      have hb := h.Eb
      have hep := ht.ep (by omega)
      have : jj = 0 ∨ jj = 1 := by omega
      rcases this with rfl | rfl
      · have a := nwTo_ge (0 * k) secs 0 k i hi
        have b := nwTo_mono (1 * k) secs (nwTo (0 * k) secs 0 k) k
        omega
      · have a := nwTo_ge (1 * k) secs (nwTo (0 * k) secs 0 k) k i hi
        omega
  have e0 : rdRun k D 1 = { D := readsN k D, nw := nwTo (0 * k) secs 0 k, out := if j = 0 then ((e : Int), data) else slVal (slForm (0 * k) D 0 k), last := if j = 0 then 0 else (if rdTake (rdInit D) (slForm (0 * k) D 0 k) then 0 else -1), bad := false } := by
    show (if (rdRun k D 0).bad then _ else rdStep k 0 (rdRun k D 0)) = _
    rw [if_neg (by simp [rdRun, rdInit])]
    show rdStep k 0 (rdInit D) = _
    have hS : slRun (0 * k) k (slInit (rdInit D).D (rdInit D).nw) = slForm (0 * k) D 0 k := slRun_form _ _ _ hf ho _
    unfold rdStep
    simp only [hS]
    rw [if_neg (by simp [slForm])]
    by_cases hj0 : j = 0
    · subst hj0
      have hv := h.curVal D hs 0
      have ht : rdTake (rdInit D) (slForm (0 * k) D 0 k) = true := by
        unfold rdTake
        rw [hv]
        have hi0 : (rdInit D).out.1 = 0 := rfl
        simp
        omega
      simp only [ht, hv, if_true]
      simp [slForm, hs]
    · simp only [if_neg hj0]
      congr 1
      · simp [slForm, hs]
      · unfold rdTake
        split
        · rfl
        · rename_i hc
          simp at hc
          by_cases hz : (slVal (slForm 0 D 0 k)).1 = 0
          · simp only [Nat.zero_mul]
            unfold slVal at hz ⊢
            split
            · rename_i hc2
              rw [if_pos hc2] at hz
              simp only [Bool.and_eq_true, bne_iff_ne] at hc2
              exact absurd hz hc2.2
            · rfl
          · have := hc hz
            have hi0 : (rdInit D).out.1 = 0 := rfl
            rw [hi0] at this
            exfalso
            unfold slVal at this
            split at this
            · simp only [slForm] at this
              split at this
              · omega
              · have := (secEp_range (D.secs.getD 0 [])).1
                omega
            · simp at this
  show (if (rdRun k D 1).bad then _ else rdStep k 1 (rdRun k D 1)) = _
  rw [e0, if_neg (by simp)]
  unfold rdStep
  simp only [slRun_form _ _ _ (h1.2.2 hf) (by rw [h1.2.1, ho] : (readsN k D).opens = [])]
  rw [if_neg (by simp [slForm])]
  have hD : (slForm (1 * k) (readsN k D) (nwTo (0 * k) secs 0 k) k).D = readsN (2 * k) D := by
    simp only [slForm]
    rw [readsN_add]
    congr 1
    omega
  have hN : (slForm (1 * k) (readsN k D) (nwTo (0 * k) secs 0 k) k).nw = E := by
    simp only [slForm, h1.1, hs]
    exact hnw
  rw [hD, hN]
  by_cases hj0 : j = 0
  · subst hj0
    have hv := h.otherVal (readsN k D) (by rw [h1.1, hs]) (nwTo (0 * k) secs 0 k)
    simp only [Nat.sub_zero] at hv
    have ht : rdTake { D := readsN k D, nw := nwTo (0 * k) secs 0 k, out := ((e : Int), data), last := 0, bad := false } (slForm (1 * k) (readsN k D) (nwTo (0 * k) secs 0 k) k) = false := by
      unfold rdTake
      rw [Bool.and_eq_false_iff]
      right
      exact decide_eq_false (by show ¬ ((e : Int) ≤ _); omega)
    simp only [ht, if_true, Bool.false_eq_true, if_false]
    rfl
  · have hj1 : j = 1 := by omega
    subst hj1
    have hv := h.curVal (readsN k D) (by rw [h1.1, hs]) (nwTo (0 * k) secs 0 k)
    have hv0 := h.otherVal D hs 0
    simp only [Nat.sub_self] at hv0
    simp only [if_neg hj0]
    have ht : ∀ l, rdTake { D := readsN k D, nw := nwTo (0 * k) secs 0 k, out := slVal (slForm (0 * k) D 0 k), last := l, bad := false } (slForm (1 * k) (readsN k D) (nwTo (0 * k) secs 0 k) k) = true := by
      intro l
      unfold rdTake
      rw [hv]
      simp only [Bool.and_eq_true, bne_iff_ne, decide_eq_true_eq]
      exact ⟨by omega, by omega⟩
    simp only [ht, hv, if_true]

/-- What reading the log tells. -/
theorem Inv.scanTo (h : Inv k n secs E e j data ops) : ∀ (m : Nat) (i : Nat) (D : Dk), D.secs = secs → D.fail = 0 → D.opens = [] → i + m = n → i ≤ ops.length →
    ∃ r, r ≤ m ∧ (i + m = n → ops.length ≤ i + r) ∧ scRun (2 * k) e m (ops.take i) D = (ops, 0, readsN r D)
  | 0, i, D, hs, hf, ho, hm, hi => by
    have := h.olen
    exact ⟨0, by omega, fun _ => by omega, by rw [List.take_of_length_le (by omega)]; rfl⟩
  | m + 1, i, D, hs, hf, ho, hm, hi => by
    have hE := h.Eb
    have heE := h.eE
    have hn := h.n2
    have htl : (ops.take i).length = i := by simp; omega
    unfold scRun
    rw [htl]
    unfold rcVal
    rw [bad0 hf, cur0 ho, hs]
    simp only [Bool.false_eq_true, if_false]
    by_cases hlt : i < ops.length
    · obtain ⟨s, hsi⟩ : ∃ s, ops[i]? = some s := ⟨_, List.getElem?_eq_getElem hlt⟩
      obtain ⟨hsl, hsec⟩ := h.recs i s hsi
      rw [hsec, isWhole_mk s e i hsl (by omega) (by omega) (by omega) (by omega)]
      simp only [if_true]
      rw [secPay_mk s e i hsl]
      have ht : ops.take i ++ [s] = ops.take (i + 1) := by rw [List.take_add_one, hsi]; rfl
      rw [ht]
      have hD1 := readsN_same 1 D
      obtain ⟨r, hr, hr2, hh⟩ := Inv.scanTo h m (i + 1) (readsN 1 D) (by rw [hD1.1, hs]) (hD1.2.2 hf) (by rw [hD1.2.1, ho]) (by omega) (by omega)
      refine ⟨r + 1, by omega, fun _ => by have := hr2 (by omega); omega, ?_⟩
      show scRun (2 * k) e m (ops.take (i + 1)) (readsN 1 D) = _
      rw [hh, readsN_add]
      congr 3
      omega
    · have hieq : i = ops.length := by omega
      have hno : isWhole (secs.getD (2 * k + i) []) e i = false := by
        cases hw : isWhole (secs.getD (2 * k + i) []) e i with
        | false => rfl
        | true =>
          exfalso
          obtain ⟨e', x, he', hx, ht⟩ := h.log i (by omega)
          obtain ⟨rfl, rfl⟩ := ht.whole (by omega) (by omega) hw
          exact h.rest _ (by omega) (by omega) ht
      rw [hno]
      simp only [Bool.false_eq_true, if_false]
      refine ⟨1, by omega, fun _ => by omega, ?_⟩
      rw [List.take_of_length_le (by omega)]
      rfl
theorem Inv.scan (h : Inv k n secs E e j data ops) (D : Dk) (hs : D.secs = secs) (hf : D.fail = 0) (ho : D.opens = []) :
    ∃ r, r ≤ n ∧ scRun (2 * k) e n [] D = (ops, 0, readsN r D) := by
  obtain ⟨r, hr, _, hh⟩ := h.scanTo n 0 D hs hf ho (by omega) (by omega)
  exact ⟨r, hr, by simpa using hh⟩
end Go.Proofs.YtkeamfdceehliaaGreatDoor

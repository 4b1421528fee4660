/- Plain facts on sectors: what was made is read; what a torn one may be. -/
import Derived.Test.YtkeamfdceehliaaGreatDoorSlots7
namespace Go.Proofs.YtkeamfdceehliaaGreatDoor
open Go.RowKit

theorem rq_add (n : Int) (b : UInt8) (h0 : 0 ≤ n) (h1 : n < 72057594037927936) : rq n b = n * 256 + b.toNat := by
  unfold rq
  have hb := b.toNat_lt
  obtain ⟨k, rfl⟩ := Int.eq_ofNat_of_zero_le h0
  rw [IntKind.wrap_u64, IntKind.wrap_u64]
  have e1 : (k : Int) * 256 % 18446744073709551616 = ((k * 256 : Nat) : Int) := by omega
  have e2 : (b.toNat : Int) % 18446744073709551616 = ((b.toNat : Nat) : Int) := by omega
  rw [e1, e2, u64_or_nat _ _ (by omega) (by omega)]
  have := Nat.shiftLeft_add_eq_or_of_lt (i := 8) (b := b.toNat) (by omega) k
  rw [Nat.shiftLeft_eq] at this
  rw [show k * 256 = k * 2 ^ 8 by rfl, ← this]
  omega
theorem be64_eq (n : Int) : be64 n = [u8i (n / 72057594037927936), u8i (n / 281474976710656), u8i (n / 1099511627776), u8i (n / 4294967296), u8i (n / 16777216), u8i (n / 65536), u8i (n / 256), u8i n] := by
  simp [be64, part64, List.range_succ]
theorem be64_len (n : Int) : (be64 n).length = 8 := part64_len n 8
theorem rq64_be (n : Int) (h0 : 0 ≤ n) (h1 : n < 18446744073709551616) (l : List UInt8) : rq64 (be64 n ++ l) = n := by
  unfold rq64
  rw [be64_eq]
  simp only [List.cons_append, List.nil_append, List.take_succ_cons, List.take_zero, List.foldl_cons, List.foldl_nil]
  have e1 : rq 0 (u8i (n / 72057594037927936)) = n / 72057594037927936 := by rw [rq_add _ _ (by omega) (by omega), u8i_nat]; omega
  have e2 : rq (n / 72057594037927936) (u8i (n / 281474976710656)) = n / 281474976710656 := by rw [rq_add _ _ (by omega) (by omega), u8i_nat]; omega
  have e3 : rq (n / 281474976710656) (u8i (n / 1099511627776)) = n / 1099511627776 := by rw [rq_add _ _ (by omega) (by omega), u8i_nat]; omega
  have e4 : rq (n / 1099511627776) (u8i (n / 4294967296)) = n / 4294967296 := by rw [rq_add _ _ (by omega) (by omega), u8i_nat]; omega
  have e5 : rq (n / 4294967296) (u8i (n / 16777216)) = n / 16777216 := by rw [rq_add _ _ (by omega) (by omega), u8i_nat]; omega
  have e6 : rq (n / 16777216) (u8i (n / 65536)) = n / 65536 := by rw [rq_add _ _ (by omega) (by omega), u8i_nat]; omega
  have e7 : rq (n / 65536) (u8i (n / 256)) = n / 256 := by rw [rq_add _ _ (by omega) (by omega), u8i_nat]; omega
  have e8 : rq (n / 256) (u8i n) = n := by rw [rq_add _ _ (by omega) (by omega), u8i_nat]; omega
  rw [e1, e2, e3, e4, e5, e6, e7, e8]
theorem rq64_be' (n : Int) (h0 : 0 ≤ n) (h1 : n < 18446744073709551616) : rq64 (be64 n) = n := by
  have := rq64_be n h0 h1 []
  rwa [List.append_nil] at this

theorem mkSec_cons (p : List UInt8) (e n : Int) : mkSec p e n = u8i p.length :: (be32 (sumS (p ++ (be64 e ++ be64 n))) ++ (p ++ (List.replicate (43 - p.length) 0 ++ (be64 e ++ be64 n)))) := by
  simp [mkSec]
theorem mkSec_front (p : List UInt8) (e n : Int) (hp : p.length ≤ 43) : ∃ A : List UInt8, A.length = 48 ∧ mkSec p e n = A ++ (be64 e ++ be64 n) :=
  ⟨(([u8i p.length] ++ be32 (sumS (p ++ (be64 e ++ be64 n)))) ++ p) ++ List.replicate (43 - p.length) 0, by simp [be32]; omega, rfl⟩
theorem mkSec_tag (p : List UInt8) (e n : Int) (hp : p.length ≤ 43) : (mkSec p e n).drop 48 = be64 e ++ be64 n := by
  obtain ⟨A, hA, h⟩ := mkSec_front p e n hp
  rw [h, ← hA, List.drop_left]
theorem secLen_mk (p : List UInt8) (e n : Int) (hp : p.length ≤ 43) : secLen (mkSec p e n) = p.length := by
  unfold secLen
  rw [mkSec_cons]
  have := u8i_nat (p.length : Int)
  simp only [List.getD_cons_zero]
  omega
theorem secPay_mk (p : List UInt8) (e n : Int) (hp : p.length ≤ 43) : secPay (mkSec p e n) = p := by
  unfold secPay
  rw [secLen_mk p e n hp, mkSec_cons, List.drop_take, show 5 + p.length - 5 = p.length by omega]
  simp [be32]
theorem isSec_mk (p : List UInt8) (e n : Int) (hp : p.length ≤ 43) : isSec (mkSec p e n) = true := by
  have hs := sumS_range (p ++ (be64 e ++ be64 n))
  unfold isSec
  rw [secLen_mk p e n hp, secPay_mk p e n hp, mkSec_tag p e n hp, mkSec_len p e n hp]
  have h1 : rd32 ((mkSec p e n).drop 1) = sumS (p ++ (be64 e ++ be64 n)) := by
    rw [mkSec_cons, List.drop_succ_cons, List.drop_zero, rd32_be _ hs.1 hs.2]
  have h2 : allZero (((mkSec p e n).take 48).drop (5 + p.length)) = true := by
    have h3 : ((mkSec p e n).take 48).drop (5 + p.length) = List.replicate (43 - p.length) 0 := by
      have h4 : mkSec p e n = (u8i p.length :: (be32 (sumS (p ++ (be64 e ++ be64 n))) ++ p)) ++ (List.replicate (43 - p.length) 0 ++ (be64 e ++ be64 n)) := by simp [mkSec]
      rw [List.drop_take, h4, List.drop_left' (by simp [be32]; omega), List.take_left' (by simp; omega)]
    rw [h3]
    simp [allZero]
  rw [h1, h2]
  simp [hp]
theorem secEp_mk (p : List UInt8) (e n : Int) (hp : p.length ≤ 43) (h0 : 0 ≤ e) (h1 : e < 18446744073709551616) : secEp (mkSec p e n) = e := by
  unfold secEp
  rw [mkSec_tag p e n hp, rq64_be e h0 h1]
theorem secNo_mk (p : List UInt8) (e n : Int) (hp : p.length ≤ 43) (h0 : 0 ≤ n) (h1 : n < 18446744073709551616) : secNo (mkSec p e n) = n := by
  unfold secNo
  rw [show (56 : Nat) = 48 + 8 from rfl, ← List.drop_drop, mkSec_tag p e n hp, List.drop_left' (be64_len e), rq64_be' n h0 h1]
theorem isWhole_mk (p : List UInt8) (e n : Int) (hp : p.length ≤ 43) (h0 : 0 ≤ e) (h1 : e < 18446744073709551616) (h2 : 0 ≤ n) (h3 : n < 18446744073709551616) : isWhole (mkSec p e n) e n = true := by
  unfold isWhole
  rw [isSec_mk p e n hp, secEp_mk p e n hp h0 h1, secNo_mk p e n hp h2 h3]
  simp

/-- A sector whose end says (e, x). -/
structure Tg (s : List UInt8) (e x : Nat) : Prop where
  len : s.length = 64
  tag : s.drop 48 = be64 e ++ be64 x
theorem Tg.mk' (p : List UInt8) (e x : Nat) (hp : p.length ≤ 43) : Tg (mkSec p e x) e x := ⟨mkSec_len p e x hp, mkSec_tag p e x hp⟩
theorem Tg.zero : Tg Dk.zsec 0 0 := ⟨rfl, by decide⟩
theorem Tg.ep {s : List UInt8} {e x : Nat} (h : Tg s e x) (he : e < 1000000) : secEp s = e := by
  unfold secEp
  rw [h.tag, rq64_be _ (by omega) (by omega)]
theorem Tg.no {s : List UInt8} {e x : Nat} (h : Tg s e x) (hx : x < 1000000) : secNo s = x := by
  unfold secNo
  rw [show (56 : Nat) = 48 + 8 from rfl, ← List.drop_drop, h.tag, List.drop_left' (be64_len e), rq64_be' _ (by omega) (by omega)]
theorem Tg.inj {s : List UInt8} {e x e' x' : Nat} (h : Tg s e x) (h' : Tg s e' x') (he : e < 1000000) (he' : e' < 1000000) (hx : x < 1000000) (hx' : x' < 1000000) : e = e' ∧ x = x' := by
  have a := h.ep he
  rw [h'.ep he'] at a
  have b := h.no hx
  rw [h'.no hx'] at b
  omega
theorem Tg.whole {s : List UInt8} {e x : Nat} {E N : Nat} (h : Tg s e x) (he : e < 1000000) (hx : x < 1000000) (hw : isWhole s E N = true) : e = E ∧ x = N := by
  unfold isWhole at hw
  rw [h.ep he, h.no hx] at hw
  simp at hw
  omega
theorem be64_small (e : Nat) (he : e < 256) : be64 e = [0, 0, 0, 0, 0, 0, 0, u8i e] := by
  rw [be64_eq]
  have z : ∀ d : Int, 256 ≤ d → u8i ((e : Int) / d) = 0 := by
    intro d hd
    have : (e : Int) / d = 0 := Int.ediv_eq_zero_of_lt (by omega) (by omega)
    rw [this]
    rfl
  rw [z _ (by decide), z _ (by decide), z _ (by decide), z _ (by decide), z _ (by decide), z _ (by decide), z _ (by decide)]

theorem tear_get (n : Nat) (new old : List UInt8) (hl : new.length = old.length) (i : Nat) : (Dk.tear n new old)[i]? = if i < n then new[i]? else old[i]? := by
  unfold Dk.tear
  rw [List.getElem?_append, List.length_take]
  by_cases h : i < n
  · rw [if_pos h]
    by_cases h2 : i < new.length
    · rw [if_pos (by omega), List.getElem?_take, if_pos h]
    · rw [if_neg (by omega), List.getElem?_drop, List.getElem?_eq_none (by omega), List.getElem?_eq_none (by omega)]
  · rw [if_neg h, if_neg (by omega), List.getElem?_drop]
    by_cases h2 : n ≤ new.length
    · congr 1
      omega
    · rw [List.getElem?_eq_none (by omega), List.getElem?_eq_none (by omega)]
theorem tear_drop (m n : Nat) (new old : List UInt8) (hl : new.length = old.length) : (Dk.tear n new old).drop m = Dk.tear (n - m) (new.drop m) (old.drop m) := by
  apply List.ext_getElem?
  intro i
  rw [List.getElem?_drop, tear_get _ _ _ hl, tear_get _ _ _ (by simp [hl]), List.getElem?_drop, List.getElem?_drop]
  by_cases h : m + i < n
  · rw [if_pos h, if_pos (by omega)]
  · rw [if_neg h, if_neg (by omega)]
theorem tear_len (n : Nat) (new old : List UInt8) (hl : new.length = old.length) : (Dk.tear n new old).length = old.length := by
  unfold Dk.tear
  simp
  omega
theorem tear16 (m : Nat) (e i e0 x0 : Nat) (he : e < 256) (hi : i < 256) (he0 : e0 < 256) (hx0 : x0 = i ∨ x0 = 0) :
    Dk.tear m (be64 e ++ be64 i) (be64 e0 ++ be64 x0) = be64 e0 ++ be64 x0 ∨ (8 ≤ m ∧ Dk.tear m (be64 e ++ be64 i) (be64 e0 ++ be64 x0) = be64 e ++ be64 i) ∨ (8 ≤ m ∧ m < 16 ∧ x0 = 0 ∧ Dk.tear m (be64 e ++ be64 i) (be64 e0 ++ be64 x0) = be64 e ++ be64 (0 : Nat)) := by
  have hx : x0 < 256 := by omega
  rw [be64_small e he, be64_small i hi, be64_small e0 he0, be64_small x0 hx, be64_small 0 (by omega)]
  unfold Dk.tear
  by_cases h16 : 16 ≤ m
  · right; left
    refine ⟨by omega, ?_⟩
    rw [List.take_of_length_le (by simpa using h16), List.drop_eq_nil_of_le (by simpa using h16)]
    simp
  · by_cases h8 : 8 ≤ m
    · rcases hx0 with rfl | rfl
      · right; left
        refine ⟨h8, ?_⟩
        have : m = 8 ∨ m = 9 ∨ m = 10 ∨ m = 11 ∨ m = 12 ∨ m = 13 ∨ m = 14 ∨ m = 15 := by omega
        rcases this with rfl | rfl | rfl | rfl | rfl | rfl | rfl | rfl <;> simp
      · right; right
        refine ⟨h8, by omega, rfl, ?_⟩
        have : m = 8 ∨ m = 9 ∨ m = 10 ∨ m = 11 ∨ m = 12 ∨ m = 13 ∨ m = 14 ∨ m = 15 := by omega
        rcases this with rfl | rfl | rfl | rfl | rfl | rfl | rfl | rfl <;> simp
    · left
      have : m = 0 ∨ m = 1 ∨ m = 2 ∨ m = 3 ∨ m = 4 ∨ m = 5 ∨ m = 6 ∨ m = 7 := by omega
      rcases this with rfl | rfl | rfl | rfl | rfl | rfl | rfl | rfl <;> simp
/-- What a torn write leaves: the old end; all of the new one; or the new epoch over the number 0. -/
theorem tear_tag {old p : List UInt8} {e i e0 x0 : Nat} (n : Nat) (hp : p.length ≤ 43) (he : e < 256) (hi : i < 256) (he0 : e0 < 256) (hx0 : x0 = i ∨ x0 = 0) (ho : Tg old e0 x0) :
    Tg (Dk.tear n (mkSec p e i) old) e0 x0 ∨ Dk.tear n (mkSec p e i) old = mkSec p e i ∨ (i ≠ 0 ∧ Tg (Dk.tear n (mkSec p e i) old) e 0) := by
  have hlm := mkSec_len p e i hp
  have hll : (mkSec p e i).length = old.length := by rw [hlm, ho.len]
  have hl : (Dk.tear n (mkSec p e i) old).length = 64 := by rw [tear_len _ _ _ hll, ho.len]
  have hd := tear_drop 48 n (mkSec p e i) old hll
  rw [mkSec_tag p e i hp, ho.tag] at hd
  have full : 8 ≤ n - 48 → x0 = i → Dk.tear n (mkSec p e i) old = mkSec p e i := by
    intro h8 hx
    subst hx
    unfold Dk.tear
    have h1 : old.drop 56 = (mkSec p e x0).drop 56 := by
      rw [show (56 : Nat) = 48 + 8 from rfl, ← List.drop_drop, ← List.drop_drop, ho.tag, mkSec_tag p e x0 hp, List.drop_left' (be64_len _), List.drop_left' (be64_len _)]
    have h2 : old.drop n = (mkSec p e x0).drop n := by
      rw [show n = 56 + (n - 56) by omega, ← List.drop_drop, ← List.drop_drop, h1]
    rw [h2, List.take_append_drop]
  rcases tear16 (n - 48) e i e0 x0 he hi he0 hx0 with h | ⟨h8, h⟩ | ⟨h8, h16, hx, h⟩
  · left; exact ⟨hl, by rw [hd, h]⟩
  · right; left
    by_cases hn : 64 ≤ n
    · unfold Dk.tear
      rw [List.take_of_length_le (by omega), List.drop_eq_nil_of_le (by rw [ho.len]; omega), List.append_nil]
    · rcases hx0 with hx | hx
      · exact full h8 hx
      · by_cases hi0 : i = 0
        · exact full h8 (by omega)
        · exfalso
          have g := hd
          rw [h] at g
          have t1 : Tg (Dk.tear n (mkSec p e i) old) e i := ⟨hl, g⟩
          have hb : (Dk.tear n (mkSec p e i) old).drop 63 = old.drop 63 := by
            rw [tear_drop 63 n _ _ hll, show n - 63 = 0 by omega]
            rfl
          have hb2 : (Dk.tear n (mkSec p e i) old).drop 63 = [u8i i] := by
            rw [show (63 : Nat) = 48 + 15 from rfl, ← List.drop_drop, g, be64_small e he, be64_small i hi]
            rfl
          have hb3 : old.drop 63 = [u8i 0] := by
            rw [show (63 : Nat) = 48 + 15 from rfl, ← List.drop_drop, ho.tag, hx, be64_small e0 he0, be64_small 0 (by omega)]
            rfl
          rw [hb2, hb3] at hb
          have := u8i_nat (i : Int)
          have h0 := u8i_nat (0 : Int)
          simp at hb
          rw [hb] at this
          omega
  · by_cases hi0 : i = 0
    · right; left; exact full h8 (by omega)
    · right; right; exact ⟨hi0, hl, by rw [hd, h]⟩
end Go.Proofs.YtkeamfdceehliaaGreatDoor

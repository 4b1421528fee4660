/- Frames (package frame), walked: a sector's cell. -/
import Derived.Test.YtkeamfdceehliaaGreatDoorFrame3
namespace Go.Proofs.YtkeamfdceehliaaGreatDoor
open Go.RowKit
attribute [local go_sem] BA_size BA_extract BA_append BA_toList

def allZero (l : List UInt8) : Bool := l.all (· == 0)
def secLen (s : List UInt8) : Nat := (s.getD 0 0).toNat
def secPay (s : List UInt8) : List UInt8 := (s.take (5 + secLen s)).drop 5
def secEp (s : List UInt8) : Int := rq64 (s.drop 48)
def secNo (s : List UInt8) : Int := rq64 (s.drop 56)
/-- Is it a cell's sector? -/
def isSec (s : List UInt8) : Bool :=
  decide (s.length = 64) && decide (secLen s ≤ 43) && (sumS (secPay s ++ s.drop 48) == rd32 (s.drop 1)) && allZero ((s.take 48).drop (5 + secLen s))
abbrev cellV (p : List UInt8) (e n : Int) : Value := .agg #[.string (BA p), .int .u64 e, .int .u64 n]
abbrev cell0 : Value := cellV [] 0 0

theorem read_len (s : List UInt8) (hs : s.length ≠ 64) (hm : s.length ≤ 140737488355328) (w : World) :
    Calls Tryz.prog 47 #[.string (BA s)] w fun e w' => e = .returned (.tuple #[cell0, .bool false]) ∧ Below w.heap.size w w' := by
  have HT := Lib.hid (fun w0 => tag_no s hs hm w0)
  unfold strV at HT
  go_enter Tryz.func47, Tryz.ntmps47
  go_wp2_with (go_at_call 46; refine (HT.out _).mono ?_; rintro r w1 ⟨rfl, rfl⟩)
  refine bodyPost_ret (v := .tuple #[cell0, .bool false]) (by simp [results, Tryz.results47, go_sem]; rfl) rfl ⟨rfl, ?_⟩
  exact ((Below.refl _ _).alloc (Nat.le_refl _) _).alloc (by simp) _

set_option maxRecDepth 100000 in
theorem read_big (s : List UInt8) (hs : s.length = 64) (hb : 43 < secLen s) (w : World) :
    Calls Tryz.prog 47 #[.string (BA s)] w fun e w' => e = .returned (.tuple #[cell0, .bool false]) ∧ Below w.heap.size w w' := by
  have HT := Lib.hid (fun w0 => tag_ok s hs w0)
  unfold strV at HT
  obtain ⟨b0, hb0⟩ : ∃ b0, s[0]? = some b0 := ⟨_, List.getElem?_eq_getElem (by omega)⟩
  have hk : (43 : Int) < b0.toNat := by
    have : secLen s = b0.toNat := by unfold secLen; rw [List.getD, hb0]; rfl
    omega
  have hx0 := BA_at s 0 b0 hb0
  clear hb0
  go_enter Tryz.func47, Tryz.ntmps47
  go_wp2_with (first
    | (go_at_call 46; refine (HT.out _).mono ?_; rintro r w1 ⟨rfl, rfl⟩))
  refine bodyPost_ret (v := .tuple #[cell0, .bool false]) (by simp [results, Tryz.results47, go_sem]; rfl) rfl ⟨rfl, ?_⟩
  exact ((Below.refl _ _).alloc (Nat.le_refl _) _).alloc (by simp) _

theorem dropWhile_nil {p : UInt8 → Bool} {l : List UInt8} : l.dropWhile p = [] ↔ ∀ b ∈ l, p b = true := by
  induction l with
  | nil => simp
  | cons x l ih =>
    rw [List.dropWhile_cons]
    split
    · rename_i h
      rw [ih]
      simp [h]
    · rename_i h
      simp [h]
theorem mem_takeWhile {p : UInt8 → Bool} {l : List UInt8} {b : UInt8} (h : b ∈ l.takeWhile p) : p b = true := by
  induction l with
  | nil => cases h
  | cons x l ih =>
    rw [List.takeWhile_cons] at h
    split at h
    · rename_i hx
      rcases List.mem_cons.1 h with rfl | h
      · exact hx
      · exact ih h
    · cases h
theorem trim_zero (l : List UInt8) : (Lib.trimB l 0 = []) ↔ allZero l = true := by
  unfold Lib.trimB
  constructor
  · intro h
    unfold Lib.trimLeftB at h
    have h1 := dropWhile_nil.1 h
    unfold allZero
    rw [List.all_eq_true]
    intro b hb
    by_cases hz : b = 0
    · simp [hz]
    · exfalso
      have hm : b ∈ Lib.trimRightB l 0 := by
        unfold Lib.trimRightB
        rw [List.mem_reverse]
        have hr : b ∈ l.reverse := by simpa using hb
        rw [← List.takeWhile_append_dropWhile (p := (· == 0)) (l := l.reverse)] at hr
        rcases List.mem_append.1 hr with h2 | h2
        · have := mem_takeWhile h2
          simp at this
          exact absurd this hz
        · exact h2
      have := h1 b hm
      simp at this
      exact hz this
  · intro h
    unfold allZero at h
    rw [List.all_eq_true] at h
    have : Lib.trimRightB l 0 = [] := by
      unfold Lib.trimRightB
      rw [List.reverse_eq_nil_iff, dropWhile_nil]
      intro b hb
      exact h b (by simpa using hb)
    rw [this]
    rfl

theorem trim_ok (l : List UInt8) (hl : l.length ≤ 64) (w : World) :
    Calls Tryz.prog 58 #[.string (BA l), .string ⟨#[0]⟩] w fun e w' => e = .returned (.string (BA (Lib.trimB l 0))) ∧ (w' = w ∨ w' = w.drew) :=
  Tryz.strings_Trim_one (BA l) 0 (by decide) w (by show l.length ≤ _; omega)

/-- What Read tells. -/
def rdCell (s : List UInt8) : Value := if isSec s then cellV (secPay s) (secEp s) (secNo s) else cell0

set_option maxRecDepth 100000 in
set_option maxHeartbeats 2000000 in
theorem read_mid (s : List UInt8) (hs : s.length = 64) (hb : secLen s ≤ 43) (w : World) :
    Calls Tryz.prog 47 #[.string (BA s)] w fun e w' => e = .returned (.tuple #[rdCell s, .bool (isSec s)]) ∧ Below w.heap.size w w' := by
  have HT := Lib.hid (fun w0 => tag_ok s hs w0)
  unfold strV at HT
  obtain ⟨b0, hb0⟩ : ∃ b0, s[0]? = some b0 := ⟨_, List.getElem?_eq_getElem (by omega)⟩
  have hse : secLen s = b0.toNat := by unfold secLen; rw [List.getD, hb0]; rfl
  obtain ⟨k, hkk⟩ : ∃ k : Nat, b0.toNat = k := ⟨_, rfl⟩
  rw [hkk] at hse
  have hk : (k : Int) ≤ 43 := by omega
  have hk43 : k ≤ 43 := by omega
  have HSE := Lib.hid hse
  have hx0 := BA_at s 0 b0 hb0
  obtain ⟨en, hen⟩ : ∃ en : Nat, 5 + (k : Int) = en := ⟨5 + k, by omega⟩
  have hen5 : en = 5 + k := by omega
  have HEN := Lib.hid hen5
  have henI : (en : Int) ≤ 48 := by omega
  have hen2 : en ≤ 48 := by omega
  have HS := Lib.hid hs
  clear hb0 hen5 hse hb hs
  have HP : Hid ((s.take en).drop 5 = secPay s) := by
    show _ = _
    unfold secPay
    rw [HSE.out, HEN.out]
  have hsz : s.length = 64 := HS.out
  have HCR := Lib.hid (fun w0 => cread_ok s.tail (by simp; omega) w0)
  unfold strV at HCR
  have hen3 : en ≤ s.length := by omega
  go_enter Tryz.func47, Tryz.ntmps47
  go_wp2_with (first
    | (go_at_call 46; refine (HT.out _).mono ?_; rintro r w1 ⟨rfl, rfl⟩)
    | (go_at_call 55; refine (HCR.out _).mono ?_; rintro r w1 ⟨rfl, rfl⟩)
    | (refine wpList_sliceS (l := s) (lo := 5) (hi := en) rfl rfl rfl rfl rfl undStr (by have := HEN.out; omega) hen3 ?_; rw [HP.out])
    | (refine wpList_sliceF (l := s) (lo := 1) rfl rfl rfl rfl undStr (by omega) ?_))
  have hc8 : Blk (((w.alloc (.cells #[.string ⟨#[]⟩, .int .u64 0, .int .u64 0] TCell)).alloc (.cells #[.string (BA s)] 9)).alloc (.cells #[.string (BA (secPay s)), .int .u64 (rq64 (List.drop 48 s)), .int .u64 (rq64 (List.drop 56 s))] TCell)) (w.heap.size + 2) [.string (BA (secPay s)), .int .u64 (rq64 (List.drop 48 s)), .int .u64 (rq64 (List.drop 56 s))] TCell := Blk.newAt _ _ _ (by simp)
  have hc2 : Blk (((w.alloc (.cells #[.string ⟨#[]⟩, .int .u64 0, .int .u64 0] TCell)).alloc (.cells #[.string (BA s)] 9)).alloc (.cells #[.string (BA (secPay s)), .int .u64 (rq64 (List.drop 48 s)), .int .u64 (rq64 (List.drop 56 s))] TCell)) w.heap.size [.string ⟨#[]⟩, .int .u64 0, .int .u64 0] TCell := ((Blk.newAt w [.string ⟨#[]⟩, .int .u64 0, .int .u64 0] TCell rfl).alloc _).alloc _
  have hbw : Below w.heap.size w (((w.alloc (.cells #[.string ⟨#[]⟩, .int .u64 0, .int .u64 0] TCell)).alloc (.cells #[.string (BA s)] 9)).alloc (.cells #[.string (BA (secPay s)), .int .u64 (rq64 (List.drop 48 s)), .int .u64 (rq64 (List.drop 56 s))] TCell)) := (((Below.refl w.heap.size w).alloc (Nat.le_refl _) _).alloc (by simp) _).alloc (by simp; omega) _
  obtain ⟨W, hW⟩ : ∃ W, W = ((w.alloc (.cells #[.string ⟨#[]⟩, .int .u64 0, .int .u64 0] TCell)).alloc (.cells #[.string (BA s)] 9)).alloc (.cells #[.string (BA (secPay s)), .int .u64 (rq64 (List.drop 48 s)), .int .u64 (rq64 (List.drop 56 s))] TCell) := ⟨_, rfl⟩
  rw [← hW] at hc8 hc2 hbw ⊢
  clear hW
  have hplen : Hid ((secPay s).length = k) := by
    show _ = _
    rw [← HP.out]
    simp [HS.out]
    have := HEN.out
    omega
  refine wp_region_planN (fun w' => Blk w' (w.heap.size + 2) [.string (BA (secPay s)), .int .u64 (rq64 (List.drop 48 s)), .int .u64 (rq64 (List.drop 56 s))] TCell ∧ Blk w' w.heap.size [.string ⟨#[]⟩, .int .u64 0, .int .u64 0] TCell) [1, 3, 4, 6] [2, 5] [0, 7, 8, 9, 10, 11] [12, 13, 14, 15] (by kernel_rfl) (by kernel_rfl) ⟨hc8.drew, hc2.drew⟩ (fun c a d v w h => by cases d <;> exact h) ?_
  iterate 2
    refine pureS (v := ?_) rfl ?_ ?_
    rotate_left
    · intro wq
      go_simp
      rfl
    simp only [put_lit, List.set_cons_succ, List.set_cons_zero]
  refine pureS (v := .string (BA (s.drop 48))) rfl (fun wq => exec_sliceF (lo := 48) rfl rfl rfl undStr (by omega) wq) ?_
  simp only [put_lit, List.set_cons_succ, List.set_cons_zero]
  refine pureS (v := ?_) rfl ?_ ?_
  rotate_left
  · intro wq
    go_simp
    rfl
  simp only [put_lit, List.set_cons_succ, List.set_cons_zero]
  refine holdS (v := .string (BA (secPay s))) rfl ?_ ?_
  · rintro wq ⟨hq, _⟩
    have c0q := hq.cell 0
    simp only [List.getElem?_cons_zero] at c0q
    go_simp
  simp only [put_lit, List.set_cons_succ, List.set_cons_zero]
  refine holdS (v := .string (BA (secPay s ++ s.drop 48))) rfl (fun wq _ => exec_addS rfl rfl rfl (by have := hplen.out; simp; omega) wq) ?_
  simp only [put_lit, List.set_cons_succ, List.set_cons_zero]
  refine oneC (j := 0) (rem' := [7, 8, 9, 10, 11]) (f := 56) (args := #[]) ⟨by kernel_rfl, by kernel_rfl⟩ rfl ?_ ?_
  · go_simp
  refine (new_tab _).mono ?_
  rintro r w2 ⟨rfl, rfl⟩
  refine ⟨_, rfl, ⟨hc8.drew.alloc _, hc2.drew.alloc _⟩, ?_⟩
  simp only [put_lit, List.set_cons_succ, List.set_cons_zero]
  have HRI := Lib.hid (right_ok (W.drew.heap.size) W.drew.heap.size (secPay s ++ s.drop 48) (rd32 s.tail) (by have := hplen.out; simp; omega) (W.drew.alloc (.cells (fresh z256).toArray TTab)) (Blk.newAt _ _ _ rfl) (Nat.le_refl _))
  unfold strV at HRI
  refine oneC (j := 7) (rem' := [8, 9, 10, 11]) (f := 57) (args := #[.pointer (some ⟨W.drew.heap.size, 0, none⟩), .string (BA (secPay s ++ s.drop 48)), .int .u32 (rd32 s.tail)]) ⟨by kernel_rfl, by kernel_rfl⟩ rfl ?_ ?_
  · go_simp
  refine HRI.out.mono ?_
  rintro r w3 ⟨rfl, hF3⟩
  have hC3 : Blk w3 (w.heap.size + 2) [.string (BA (secPay s)), .int .u64 (rq64 (List.drop 48 s)), .int .u64 (rq64 (List.drop 56 s))] TCell ∧ Blk w3 w.heap.size [.string ⟨#[]⟩, .int .u64 0, .int .u64 0] TCell := ⟨(hc8.drew.alloc _).fr hF3 (by decide), (hc2.drew.alloc _).fr hF3 (by decide)⟩
  have hBB : Hid (Below w.heap.size w w3) := ((hbw.drew).alloc (by have := hbw.size; exact this) _).trans ((hF3.below).mono (by have := hbw.size; have h2 : W.drew.heap.size = W.heap.size := rfl; rw [World.size_alloc]; omega))
  refine ⟨_, rfl, hC3, ?_⟩
  simp only [put_lit, List.set_cons_succ, List.set_cons_zero]
  have hR : Hid (rdCell s = if isSec s then cellV (secPay s) (secEp s) (secNo s) else cell0) := rfl
  cases hcr : (sumS (secPay s ++ s.drop 48) == rd32 s.tail) with
  | false =>
    have hI : Hid (isSec s = false) := by
      show _ = _
      unfold isSec
      rw [List.drop_one, hcr]
      simp
    refine oneS (j := 8) (rem' := [9, 10, 11]) (v := .bool true) ⟨by kernel_rfl, by kernel_rfl⟩ rfl (by go_simp) hC3 ?_
    simp only [put_lit, List.set_cons_succ, List.set_cons_zero]
    refine oneS (j := 9) (rem' := [10, 11]) (v := .bool true) ⟨by kernel_rfl, by kernel_rfl⟩ rfl (by go_simp) hC3 ?_
    simp only [put_lit, List.set_cons_succ, List.set_cons_zero]
    have q0 := hC3.2.cell 0
    simp only [List.getElem?_cons_zero] at q0
    have q1 := hC3.2.cell 1
    simp only [List.getElem?_cons_zero, List.getElem?_cons_succ] at q1
    have q2 := hC3.2.cell 2
    simp only [List.getElem?_cons_zero, List.getElem?_cons_succ] at q2
    have z0 := hC3.2.free 0
    have z1 := hC3.2.free 1
    have z2 := hC3.2.free 2
    refine wpT_all (rs := [10, 11]) (by kernel_rfl) ?_
    intro j hj
    simp only [List.mem_cons, List.not_mem_nil, or_false] at hj
    rcases hj with rfl | rfl
    · refine wpOp_skip rfl rfl ⟨hC3, ?_⟩
      simp only [put_lit, List.set_cons_succ, List.set_cons_zero]
      refine wpT_all (rs := [11]) (by kernel_rfl) ?_
      intro j hj
      obtain rfl : j = 11 := by simpa using hj
      refine wpOp_skip rfl rfl ⟨hC3, ?_⟩
      simp only [put_lit, List.set_cons_succ, List.set_cons_zero]
      refine endT (g1 rfl (g1 rfl (g1 rfl (g1 rfl g0)))) ?_
      go_wp2_with fail
      refine bodyPost_ret (v := .tuple #[cell0, .bool false]) (by simp [results, Tryz.results47, go_sem, q0, q1, q2]; rfl) rfl ⟨?_, ?_⟩
      · rw [hR.out, hI.out]; rfl
      · exact ((hBB.out.setCell (p := ⟨w.heap.size, 0, none⟩) (Nat.le_refl _) _).setCell (p := ⟨w.heap.size, 1, none⟩) (Nat.le_refl _) _).setCell (p := ⟨w.heap.size, 2, none⟩) (Nat.le_refl _) _
    · refine wpOp_skip rfl rfl ⟨hC3, ?_⟩
      simp only [put_lit, List.set_cons_succ, List.set_cons_zero]
      refine wpT_all (rs := [10]) (by kernel_rfl) ?_
      intro j hj
      obtain rfl : j = 10 := by simpa using hj
      refine wpOp_skip rfl rfl ⟨hC3, ?_⟩
      simp only [put_lit, List.set_cons_succ, List.set_cons_zero]
      refine endT (g1 rfl (g1 rfl (g1 rfl (g1 rfl g0)))) ?_
      go_wp2_with fail
      refine bodyPost_ret (v := .tuple #[cell0, .bool false]) (by simp [results, Tryz.results47, go_sem, q0, q1, q2]; rfl) rfl ⟨?_, ?_⟩
      · rw [hR.out, hI.out]; rfl
      · exact ((hBB.out.setCell (p := ⟨w.heap.size, 0, none⟩) (Nat.le_refl _) _).setCell (p := ⟨w.heap.size, 1, none⟩) (Nat.le_refl _) _).setCell (p := ⟨w.heap.size, 2, none⟩) (Nat.le_refl _) _
  | true =>
    have q0 := hC3.2.cell 0
    simp only [List.getElem?_cons_zero] at q0
    have q1 := hC3.2.cell 1
    simp only [List.getElem?_cons_zero, List.getElem?_cons_succ] at q1
    have q2 := hC3.2.cell 2
    simp only [List.getElem?_cons_zero, List.getElem?_cons_succ] at q2
    have z0 := hC3.2.free 0
    have z1 := hC3.2.free 1
    have z2 := hC3.2.free 2
    have p0 := hC3.1.cell 0
    simp only [List.getElem?_cons_zero] at p0
    have p1 := hC3.1.cell 1
    simp only [List.getElem?_cons_zero, List.getElem?_cons_succ] at p1
    have p2 := hC3.1.cell 2
    simp only [List.getElem?_cons_zero, List.getElem?_cons_succ] at p2
    have HTR := Lib.hid (fun w0 => trim_ok ((s.take 48).drop en) (by simp; omega) w0)
    have hmid : Hid (en ≤ 48 ∧ 48 ≤ s.length) := ⟨hen2, by omega⟩
    have hI : Hid (isSec s = allZero ((s.take 48).drop en)) := by
      show _ = _
      unfold isSec
      rw [List.drop_one, hcr, HSE.out, HS.out, HEN.out]
      simp [hk43]
    refine oneS (j := 8) (rem' := [9, 10, 11]) (v := .bool false) ⟨by kernel_rfl, by kernel_rfl⟩ rfl (by go_simp) hC3 ?_
    simp only [put_lit, List.set_cons_succ, List.set_cons_zero]
    refine oneS (j := 9) (rem' := [10, 11]) (v := .bool false) ⟨by kernel_rfl, by kernel_rfl⟩ rfl (by go_simp) hC3 ?_
    simp only [put_lit, List.set_cons_succ, List.set_cons_zero]
    refine wpT_all (rs := [10, 11]) (by kernel_rfl) ?_
    intro j hj
    simp only [List.mem_cons, List.not_mem_nil, or_false] at hj
    rcases hj with rfl | rfl
    · refine wpOp_want (v := .string (BA s)) rfl rfl (by go_simp) ⟨hC3, ?_⟩
      simp only [put_lit, List.set_cons_succ, List.set_cons_zero]
      refine wpT_all (rs := [11]) (by kernel_rfl) ?_
      intro j hj
      obtain rfl : j = 11 := by simpa using hj
      refine wpOp_want (v := .int .i64 en) rfl rfl (by go_simp) ⟨hC3, ?_⟩
      simp only [put_lit, List.set_cons_succ, List.set_cons_zero]
      refine endT (g1 rfl (g1 rfl (g1 rfl (g1 rfl g0)))) ?_
      refine wpList_gv rfl (exec_sliceS (lo := en) (hi := 48) rfl rfl rfl rfl undStr hmid.out.1 hmid.out.2 w3) ?_
      simp only [put_lit, List.set_cons_succ, List.set_cons_zero]
      refine wpList_ge (f := 58) (args := #[.string (BA ((s.take 48).drop en)), .string ⟨#[0]⟩]) rfl (by go_simp) ?_
      refine (HTR.out _).mono ?_
      rintro r w4 ⟨rfl, hw4⟩
      refine ⟨_, rfl, ?_⟩
      simp only [put_lit, List.set_cons_succ, List.set_cons_zero]
      have h4 : ∀ p, w4.cell? p = w3.cell? p ∧ w4.frozen? p = w3.frozen? p := by rcases hw4 with rfl | rfl <;> exact fun _ => ⟨rfl, rfl⟩
      have hB4 : Hid (Below w.heap.size w w4) := by
        rcases hw4 with rfl | rfl
        · exact hBB.out
        · exact hBB.out.drew
      rw [← (h4 _).1] at q0 q1 q2 p0 p1 p2
      rw [← (h4 _).2] at z0 z1 z2
      clear h4 hw4
      cases haz : allZero ((s.take 48).drop en) with
      | true =>
        have htr := (trim_zero ((s.take 48).drop en)).2 haz
        have hII : Hid (isSec s = true) := by show _ = _; rw [hI.out, haz]
        clear haz hBB hC3
        rw [htr]
        go_wp2_with fail
        refine bodyPost_ret (v := .tuple #[cellV (secPay s) (rq64 (s.drop 48)) (rq64 (s.drop 56)), .bool true]) (by simp [results, Tryz.results47, go_sem, q0, q1, q2]) rfl ⟨?_, ?_⟩
        · rw [hR.out, hII.out]; rfl
        · exact ((hB4.out.setCell (p := ⟨w.heap.size, 0, none⟩) (Nat.le_refl _) _).setCell (p := ⟨w.heap.size, 1, none⟩) (Nat.le_refl _) _).setCell (p := ⟨w.heap.size, 2, none⟩) (Nat.le_refl _) _
      | false =>
        obtain ⟨c1, l1, htr⟩ : ∃ c1 l1, Lib.trimB ((s.take 48).drop en) 0 = c1 :: l1 := by
          cases ht : Lib.trimB ((s.take 48).drop en) 0 with
          | nil => rw [(trim_zero _).1 ht] at haz; cases haz
          | cons c1 l1 => exact ⟨c1, l1, rfl⟩
        have hII : Hid (isSec s = false) := by show _ = _; rw [hI.out, haz]
        clear haz hBB hC3
        rw [htr]
        go_wp2_with fail
        refine bodyPost_ret (v := .tuple #[cell0, .bool false]) (by simp [results, Tryz.results47, go_sem, q0, q1, q2]; rfl) rfl ⟨?_, ?_⟩
        · rw [hR.out, hII.out]; rfl
        · exact ((hB4.out.setCell (p := ⟨w.heap.size, 0, none⟩) (Nat.le_refl _) _).setCell (p := ⟨w.heap.size, 1, none⟩) (Nat.le_refl _) _).setCell (p := ⟨w.heap.size, 2, none⟩) (Nat.le_refl _) _
    · refine wpOp_want (v := .int .i64 en) rfl rfl (by go_simp) ⟨hC3, ?_⟩
      simp only [put_lit, List.set_cons_succ, List.set_cons_zero]
      refine wpT_all (rs := [10]) (by kernel_rfl) ?_
      intro j hj
      obtain rfl : j = 10 := by simpa using hj
      refine wpOp_want (v := .string (BA s)) rfl rfl (by go_simp) ⟨hC3, ?_⟩
      simp only [put_lit, List.set_cons_succ, List.set_cons_zero]
      refine endT (g1 rfl (g1 rfl (g1 rfl (g1 rfl g0)))) ?_
      refine wpList_gv rfl (exec_sliceS (lo := en) (hi := 48) rfl rfl rfl rfl undStr hmid.out.1 hmid.out.2 w3) ?_
      simp only [put_lit, List.set_cons_succ, List.set_cons_zero]
      refine wpList_ge (f := 58) (args := #[.string (BA ((s.take 48).drop en)), .string ⟨#[0]⟩]) rfl (by go_simp) ?_
      refine (HTR.out _).mono ?_
      rintro r w4 ⟨rfl, hw4⟩
      refine ⟨_, rfl, ?_⟩
      simp only [put_lit, List.set_cons_succ, List.set_cons_zero]
      have h4 : ∀ p, w4.cell? p = w3.cell? p ∧ w4.frozen? p = w3.frozen? p := by rcases hw4 with rfl | rfl <;> exact fun _ => ⟨rfl, rfl⟩
      have hB4 : Hid (Below w.heap.size w w4) := by
        rcases hw4 with rfl | rfl
        · exact hBB.out
        · exact hBB.out.drew
      rw [← (h4 _).1] at q0 q1 q2 p0 p1 p2
      rw [← (h4 _).2] at z0 z1 z2
      clear h4 hw4
      cases haz : allZero ((s.take 48).drop en) with
      | true =>
        have htr := (trim_zero ((s.take 48).drop en)).2 haz
        have hII : Hid (isSec s = true) := by show _ = _; rw [hI.out, haz]
        clear haz hBB hC3
        rw [htr]
        go_wp2_with fail
        refine bodyPost_ret (v := .tuple #[cellV (secPay s) (rq64 (s.drop 48)) (rq64 (s.drop 56)), .bool true]) (by simp [results, Tryz.results47, go_sem, q0, q1, q2]) rfl ⟨?_, ?_⟩
        · rw [hR.out, hII.out]; rfl
        · exact ((hB4.out.setCell (p := ⟨w.heap.size, 0, none⟩) (Nat.le_refl _) _).setCell (p := ⟨w.heap.size, 1, none⟩) (Nat.le_refl _) _).setCell (p := ⟨w.heap.size, 2, none⟩) (Nat.le_refl _) _
      | false =>
        obtain ⟨c1, l1, htr⟩ : ∃ c1 l1, Lib.trimB ((s.take 48).drop en) 0 = c1 :: l1 := by
          cases ht : Lib.trimB ((s.take 48).drop en) 0 with
          | nil => rw [(trim_zero _).1 ht] at haz; cases haz
          | cons c1 l1 => exact ⟨c1, l1, rfl⟩
        have hII : Hid (isSec s = false) := by show _ = _; rw [hI.out, haz]
        clear haz hBB hC3
        rw [htr]
        go_wp2_with fail
        refine bodyPost_ret (v := .tuple #[cell0, .bool false]) (by simp [results, Tryz.results47, go_sem, q0, q1, q2]; rfl) rfl ⟨?_, ?_⟩
        · rw [hR.out, hII.out]; rfl
        · exact ((hB4.out.setCell (p := ⟨w.heap.size, 0, none⟩) (Nat.le_refl _) _).setCell (p := ⟨w.heap.size, 1, none⟩) (Nat.le_refl _) _).setCell (p := ⟨w.heap.size, 2, none⟩) (Nat.le_refl _) _
end Go.Proofs.YtkeamfdceehliaaGreatDoor

/- A table's sum (package crc), walked. -/
import Derived.Test.YtkeamfdceehliaaGreatDoorCrc
namespace Go.Proofs.YtkeamfdceehliaaGreatDoor
open Go.RowKit

abbrev zero256 : List Value := List.replicate 256 (.int .u32 0)
abbrev fresh (zs : List Value) : List Value := .int .u32 0 :: .int .i32 0 :: .int .u32 0 :: zs
abbrev done (zs : List Value) : List Value := .int .u32 1 :: .int .i32 0 :: .int .u32 0 :: zs

set_option maxRecDepth 100000 in
set_option maxHeartbeats 1600000 in
theorem slow_any (B c : Nat) (zs : List Value) (hz : zs.length = 256) (w : World) (hB : Blk w c (fresh zs) TTab) (hBc : B ≤ c) :
    Calls Tryz.prog 95 #[.pointer (some ⟨c, 0, none⟩), .func (.func 85) #[.pointer (some ⟨c, 0, none⟩)] #[]] w fun e w' => e = .returned (.tuple #[]) ∧ Blk w' c (done (tabs 256)) TTab ∧ Fr B [TTab] w w' := by
  have h0 := hB.cell 0
  simp only [List.getElem?_cons_zero] at h0
  have h1 := hB.cell 1
  simp only [List.getElem?_cons_zero, List.getElem?_cons_succ] at h1
  have f1 := hB.free 1
  have hl := run_call_load (P := Tryz.prog) Tryz.func101 (by kernel_rfl) (by kernel_rfl) (by kernel_rfl) .u32 (by kernel_rfl) (w := w.setCell ⟨c, 1, none⟩ (.int .i32 1)) (a := ⟨c, 0, none⟩) (x := 0) ((World.cell?_setCell_other _ ⟨c, 1, none⟩ ⟨c, 0, none⟩ _ (by simp)).trans h0)
  have hnot : ∀ (x : Bool) (w : World), (Op.unary .not (.bool x)).run Tryz.prog w = .ok (.bool (!x)) w := fun _ _ => rfl
  have hb1 := hB.set 1 (.int .i32 1)
  simp only [List.set_cons_succ, List.set_cons_zero] at hb1
  have HB1 := Lib.hid hb1
  have HZ := Lib.hid hz
  clear hb1 hz
  go_enter_defers Tryz.func95, Tryz.ntmps95
  go_wp2_with (first
    | (go_at_call 102; refine (lock_free ⟨c, 1, none⟩ _ (by go_simp) (by go_simp)).mono ?_; rintro e w' ⟨rfl, rfl⟩)
    | (go_at_call 94; go_in)
    | (go_at_call 85; refine (fill_ok B c _ _ _ zs HZ.out _ HB1.out hBc).mono ?_; rintro e w1 ⟨rfl, hB1, hF1⟩))
  refine leaves_cons (f := 104) (args := #[.pointer (some ⟨c, 0, none⟩), .bool true]) (by simp) (by simp [go_sem]) ?_
  have k0 := hB1.cell 0
  simp only [List.getElem?_cons_zero] at k0
  refine (store_deferred ⟨c, 0, none⟩ (.int .u32 0) .returning _ k0 (hB1.free 0)).mono ?_
  rintro e u' w'' ⟨rfl, rfl, rfl⟩
  have hb2 := hB1.drew.set 0 (.int .u32 1)
  simp only [List.set_cons_zero] at hb2
  have k1 := hb2.cell 1
  simp only [List.getElem?_cons_zero, List.getElem?_cons_succ] at k1
  refine leaves_cons (f := 103) (args := #[.pointer (some ⟨c, 1, none⟩)]) (by simp [settle]) (by simp [go_sem]) ?_
  refine (unlock_deferred ⟨c, 1, none⟩ _ _ k1 (hb2.free 1)).mono ?_
  rintro e u' w'' ⟨rfl, rfl, rfl⟩
  have hb3 := hb2.set 1 (.int .i32 0)
  simp only [List.set_cons_succ, List.set_cons_zero] at hb3
  have hFin : Fr B [TTab] w ((w1.drew.setCell ⟨c, 0, none⟩ (.int .u32 1)).setCell ⟨c, 1, none⟩ (.int .i32 0)) := (((((Fr.refl B [TTab] w).setB hBc hB (by decide) _).trans hF1).drew).setB hBc hB (by decide) _).setB hBc hB (by decide) _
  simp [Leaves, settle, results, Tryz.results95]
  exact ⟨hb3, hFin⟩

set_option maxRecDepth 100000 in
theorem do_first (B c : Nat) (zs : List Value) (hz : zs.length = 256) (w : World) (hB : Blk w c (fresh zs) TTab) (hBc : B ≤ c) :
    Calls Tryz.prog 84 #[.pointer (some ⟨c, 0, none⟩), .func (.func 85) #[.pointer (some ⟨c, 0, none⟩)] #[]] w fun e w' => e = .returned (.tuple #[]) ∧ Blk w' c (done (tabs 256)) TTab ∧ Fr B [TTab] w w' := by
  have h0 := hB.cell 0
  simp only [List.getElem?_cons_zero] at h0
  have hl := run_call_load (P := Tryz.prog) Tryz.func101 (by kernel_rfl) (by kernel_rfl) (by kernel_rfl) .u32 (by kernel_rfl) h0
  have hnot : ∀ (x : Bool) (w : World), (Op.unary .not (.bool x)).run Tryz.prog w = .ok (.bool (!x)) w := fun _ _ => rfl
  have HS := Lib.hid (slow_any B c zs hz w hB hBc)
  clear hz
  go_enter Tryz.func84, Tryz.ntmps84
  go_wp2_with (first
    | (go_at_call 95; refine HS.out.mono ?_; rintro e w1 ⟨rfl, hB1, hF1⟩)
    | (go_at_call 94; go_in))
  go_end0
  exact ⟨rfl, hB1, hF1⟩

/-! A sum, as the code goes: the table's places are tabV's. -/
def stepM (n : Int) (b : UInt8) : Int := bits .xor .u32 (tabV (bits .xor .u8 (IntKind.u8.wrap n) b.toNat).toNat) (n / 256)
def moreM (n : Int) (l : List UInt8) : Int := l.foldl stepM n

def z256 : List Value := List.replicate 256 (.int .u32 0)
theorem z256_len : z256.length = 256 := List.length_replicate
set_option maxRecDepth 100000 in
theorem build_tab (w : World) : (Instr.build TTab #[]).run Tryz.prog w = .ok (.agg (fresh z256).toArray) w := by kernel_rfl

theorem new_tab (w : World) : Calls Tryz.prog 56 #[] w fun e w' => e = .returned (.pointer (some ⟨w.heap.size, 0, none⟩)) ∧ w' = w.alloc (.cells (fresh z256).toArray TTab) := by
  go_enter Tryz.func56, Tryz.ntmps56
  go_wp2_with (first
    | (refine wpList_build0 (ty := TTab) rfl rfl (build_tab _) ?_)
    | (refine wpList_box (ty := TTab) (vs := fresh z256) rfl rfl rfl ?_))
  go_ret
  exact ⟨rfl, rfl⟩

theorem stepM_range (n : Int) (b : UInt8) : 0 ≤ stepM n b ∧ stepM n b < 4294967296 := bits_u32 _ _ _
theorem moreM_range (l : List UInt8) : ∀ n, 0 ≤ n → n < 4294967296 → 0 ≤ moreM n l ∧ moreM n l < 4294967296 := by
  unfold moreM
  induction l with
  | nil => intro n h0 h1; exact ⟨h0, h1⟩
  | cons b l ih => intro n h0 h1; rw [List.foldl_cons]; exact ih _ (stepM_range n b).1 (stepM_range n b).2
theorem moreM_succ (n : Int) (l : List UInt8) (j : Nat) (b : UInt8) (h : l[j]? = some b) : moreM n (l.take (j + 1)) = stepM (moreM n (l.take j)) b := by
  unfold moreM
  rw [List.take_add_one, h]
  simp
theorem bits_u8 (op : BinOp) (x y : Int) : 0 ≤ bits op .u8 x y ∧ bits op .u8 x y < 256 := by
  unfold bits
  rw [IntKind.wrap_u8']
  omega

def notU (n : Int) : Int := bits .xor .u32 IntKind.u32.max n
def moreS (sum : Int) (l : List UInt8) : Int := notU (moreM (notU sum) l)
def sumS (l : List UInt8) : Int := moreS 0 l
theorem notU_range (n : Int) : 0 ≤ notU n ∧ notU n < 4294967296 := bits_u32 _ _ _
theorem sumS_range (l : List UInt8) : 0 ≤ sumS l ∧ sumS l < 4294967296 := notU_range _

theorem tabs_at (x0 x1 x2 : Value) (i : Nat) (hi : i < 256) : (x0 :: x1 :: x2 :: tabs 256)[3 + i]? = some (.int .u32 (tabV i)) := by
  rw [show 3 + i = i + 1 + 1 + 1 by omega]
  simp only [List.getElem?_cons_succ]
  simp [tabs, hi]

set_option maxRecDepth 100000 in
set_option maxHeartbeats 1600000 in
theorem more_ok (B c : Nat) (sum : Int) (l : List UInt8) (hl : l.length ≤ 140737488355328) (w : World) (hB : Blk w c (fresh z256) TTab) (hBc : B ≤ c) :
    Calls Tryz.prog 73 #[.pointer (some ⟨c, 0, none⟩), .int .u32 sum, strV l] w fun e w' => e = .returned (.int .u32 (moreS sum l)) ∧ Fr B [TTab] w w' := by
  have HD := Lib.hid (do_first B c z256 z256_len w hB hBc)
  have hmf : ∀ (fn : Fn) (first cap : Array Value) (w : World), (Instr.makeFunc fn first cap).run Tryz.prog w = .ok (.func fn first cap) w := fun _ _ _ _ => rfl
  have hsz : (BA l).size = l.length := rfl
  obtain ⟨q, hq⟩ : ∃ q, bits .xor .u32 IntKind.u32.max sum = q := ⟨_, rfl⟩
  have hqr : 0 ≤ q ∧ q < 4294967296 := by rw [← hq]; exact bits_u32 _ _ _
  have hqe : Hid (moreS sum l = bits .xor .u32 IntKind.u32.max (moreM q l)) := by
    show _ = _
    unfold moreS notU
    rw [hq]
  unfold strV
  go_enter Tryz.func73, Tryz.ntmps73
  go_wp2_with (go_at_call 84; refine HD.out.mono ?_; rintro e w1 ⟨rfl, hB1, hF1⟩)
  have HQ := Lib.hid hq
  clear hq
  go_loopw [7, 21] (fun n i wr => ∃ j : Nat, j ≤ l.length ∧ i = .int .i64 j ∧ n = .int .u32 (moreM q (l.take j)) ∧ Blk wr c (done (tabs 256)) TTab ∧ Fr B [TTab] w wr) (fun _ i _ => l.length - (intOf i).toNat)
  case atStart => exact ⟨0, by omega, rfl, rfl, hB1, hF1⟩
  case round =>
    obtain ⟨j, hj, rfl, rfl, hBr, hFr⟩ := hrel
    have hr := moreM_range (l.take j) q hqr.1 hqr.2
    obtain ⟨n, hn⟩ : ∃ n, moreM q (l.take j) = n := ⟨_, rfl⟩
    rw [hn] at hr ⊢
    have HN := Lib.hid hn
    clear hn
    obtain ⟨hn0, hn1⟩ := hr
    by_cases hlt : j < l.length
    · obtain ⟨b, hb⟩ : ∃ b, l[j]? = some b := ⟨_, List.getElem?_eq_getElem hlt⟩
      have HSU := Lib.hid (moreM_succ q l j b hb)
      have HBb := Lib.hid hb
      clear hb
      obtain ⟨ix, hix⟩ : ∃ ix, bits .xor .u8 (IntKind.u8.wrap n) b.toNat = ix := ⟨_, rfl⟩
      have hixr : 0 ≤ ix ∧ ix < 256 := by rw [← hix]; exact bits_u8 _ _ _
      obtain ⟨hix0, hix1⟩ := hixr
      obtain ⟨k, rfl⟩ := Int.eq_ofNat_of_zero_le hix0
      have hcell := hBr.cell (3 + k)
      rw [tabs_at _ _ _ k (by omega)] at hcell
      have hst : Hid (stepM n b = bits .xor .u32 (tabV k) (n / 256)) := by
        show _ = _
        unfold stepM
        rw [hix]
        rfl
      have htr := tabV_range k (by omega)
      have hk0 : (k : Int) < 256 := hix1
      go_wp2_with fail
      refine wp_region_planN (fun w' => w' = wr.drew) [0, 1, 2, 3, 4] [5, 6, 7, 8, 9, 10, 11, 12, 13, 14] [] [] (by kernel_rfl) (by kernel_rfl) rfl (fun c a d v w h => by cases d <;> exact h) ?_
      iterate 5
        refine pureS (v := ?_) rfl ?_ ?_
        rotate_left
        · intro wq
          go_simp
          rfl
        simp only [put_lit, List.set_cons_succ, List.set_cons_zero]
      refine holdS (v := .int .u8 b.toNat) rfl (fun wq hq => exec_index_BA rfl rfl rfl HBb.out (by kernel_rfl) wq) ?_
      simp only [put_lit, List.set_cons_succ, List.set_cons_zero]
      iterate 9
        refine holdS (v := ?_) rfl ?_ ?_
        rotate_left
        · rintro wq rfl
          go_simp
          rfl
        simp only [put_lit, List.set_cons_succ, List.set_cons_zero]
      refine endT (C := fun _ => True) (T1 := []) g0 ?_
      go_wp2_with fail
      refine ⟨⟨j + 1, by omega, by go_num, ?_, hBr.drew, hFr.drew⟩, by simp [intOf]; omega⟩
      rw [HSU.out, HN.out, hst.out]
    · have hje : j = l.length := by omega
      subst hje
      have hfin : Hid (moreM q l = n) := by
        show _ = _
        have := HN.out
        rwa [List.take_length] at this
      go_wp2_with fail
      go_ret
      refine ⟨retI ?_, hFr⟩
      rw [hqe.out, hfin.out]

theorem sum_ok (B c : Nat) (l : List UInt8) (hl : l.length ≤ 140737488355328) (w : World) (hB : Blk w c (fresh z256) TTab) (hBc : B ≤ c) :
    Calls Tryz.prog 60 #[.pointer (some ⟨c, 0, none⟩), strV l] w fun e w' => e = .returned (.int .u32 (sumS l)) ∧ Fr B [TTab] w w' := by
  have H := Lib.hid (more_ok B c 0 l hl w hB hBc)
  go_enter Tryz.func60, Tryz.ntmps60
  go_wp2_with (go_at_call 73; refine H.out.mono ?_; rintro e w1 ⟨rfl, hF1⟩)
  go_ret
  exact ⟨rfl, hF1⟩

theorem right_ok (B c : Nat) (l : List UInt8) (sum : Int) (hl : l.length ≤ 140737488355328) (w : World) (hB : Blk w c (fresh z256) TTab) (hBc : B ≤ c) :
    Calls Tryz.prog 57 #[.pointer (some ⟨c, 0, none⟩), strV l, .int .u32 sum] w fun e w' => e = .returned (.bool (sumS l == sum)) ∧ Fr B [TTab] w w' := by
  have H := Lib.hid (sum_ok B c l hl w hB hBc)
  go_enter Tryz.func57, Tryz.ntmps57
  go_wp2_with (go_at_call 60; refine H.out.mono ?_; rintro e w1 ⟨rfl, hF1⟩)
  go_ret
  exact ⟨rfl, hF1⟩

end Go.Proofs.YtkeamfdceehliaaGreatDoor

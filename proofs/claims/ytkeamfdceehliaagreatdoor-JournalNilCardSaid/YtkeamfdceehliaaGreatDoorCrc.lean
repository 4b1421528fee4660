/- Sums of texts (package crc), walked: the table, made once; a sum; its bytes. -/
import Derived.Test.YtkeamfdceehliaaGreatDoorArr
import Derived.WalkMore
import Derived.Defers
import Derived.Laws.Pointers
import Derived.Laws.LoneSync
import Derived.RegionTactic
import Derived.RegionCalls
import Derived.ChangeAlike
namespace Go.Proofs.YtkeamfdceehliaaGreatDoor
open Go.RowKit

abbrev TTab : Nat := 138

def stepC (n : Int) : Int := if bits .and .u32 n 1 == 0 then n / 2 else bits .xor .u32 (n / 2) 3988292384
def iterC : Nat → Int → Int
  | 0, n => n
  | m + 1, n => stepC (iterC m n)
def tabV (b : Nat) : Int := iterC 8 b
def tabs (n : Nat) : List Value := (List.range n).map fun b => .int .u32 (tabV b)

theorem bits_u32 (op : BinOp) (x y : Int) : 0 ≤ bits op .u32 x y ∧ bits op .u32 x y < 4294967296 := by
  unfold bits
  rw [IntKind.wrap_u32']
  omega
theorem stepC_range (n : Int) (h0 : 0 ≤ n) (h1 : n < 4294967296) : 0 ≤ stepC n ∧ stepC n < 4294967296 := by
  unfold stepC
  split
  · omega
  · exact bits_u32 _ _ _
theorem iterC_range (n : Int) (h0 : 0 ≤ n) (h1 : n < 4294967296) : ∀ m, 0 ≤ iterC m n ∧ iterC m n < 4294967296
  | 0 => ⟨h0, h1⟩
  | m + 1 => by
    have ih := iterC_range n h0 h1 m
    exact stepC_range _ ih.1 ih.2
theorem tabV_range (b : Nat) (hb : b < 256) : 0 ≤ tabV b ∧ tabV b < 4294967296 := iterC_range _ (by omega) (by omega) 8

theorem tab_set (x0 x1 x2 : Value) (zs : List Value) (b : Nat) (v : Value) (hz : zs.length = 256) (hb : b < 256) (hv : v = .int .u32 (tabV b)) :
    (x0 :: x1 :: x2 :: (tabs b ++ zs.drop b)).set (3 + b) v = x0 :: x1 :: x2 :: (tabs (b + 1) ++ zs.drop (b + 1)) := by
  subst hv
  rw [show 3 + b = b + 1 + 1 + 1 by omega]
  simp only [List.set_cons_succ]
  have hl : (tabs b).length = b := by simp [tabs]
  rw [List.set_append_right _ _ (by omega), hl, Nat.sub_self]
  rw [List.drop_eq_getElem_cons (by omega : b < zs.length), List.set_cons_zero]
  have : tabs (b + 1) = tabs b ++ [.int .u32 (tabV b)] := by simp [tabs, List.range_succ]
  rw [this]
  simp

set_option maxRecDepth 100000 in
theorem fill_ok (B c : Nat) (x0 x1 x2 : Value) (zs : List Value) (hz : zs.length = 256) (w : World) (hB : Blk w c (x0 :: x1 :: x2 :: zs) TTab) (hBc : B ≤ c) :
    Calls Tryz.prog 85 #[.pointer (some ⟨c, 0, none⟩)] w fun e w' => e = .returned (.tuple #[]) ∧ Blk w' c (x0 :: x1 :: x2 :: tabs 256) TTab ∧ Fr B [TTab] w w' := by
  have HB0 : Hid (Blk w c (x0 :: x1 :: x2 :: (tabs 0 ++ zs.drop 0)) TTab) := hB
  have HZ := Lib.hid hz
  clear hz
  go_enter Tryz.func85, Tryz.ntmps85
  go_wp2_with go_step3
  go_loopw [4] (fun i wr => ∃ b : Nat, b ≤ 256 ∧ i = .int .i64 b ∧ Blk wr c (x0 :: x1 :: x2 :: (tabs b ++ zs.drop b)) TTab ∧ Fr B [TTab] w wr) (fun i _ => 256 - (intOf i).toNat)
  case atStart => exact ⟨0, by omega, rfl, HB0.out, Fr.refl _ _ _⟩
  case round =>
    obtain ⟨b, hb, rfl, hBr, hFr⟩ := hrel
    by_cases hlt : b < 256
    · go_wp2_with go_step3
      go_loop [3, 9] (fun n i => ∃ m : Nat, m ≤ 8 ∧ i = .int .i64 m ∧ n = .int .u32 (iterC m b)) (fun _ i => 8 - (intOf i).toNat)
      case atStart => exact ⟨0, by omega, rfl, rfl⟩
      case round =>
        obtain ⟨m, hm, rfl, rfl⟩ := hrel
        have hr := iterC_range (b : Int) (by omega) (by omega) m
        obtain ⟨q, hq⟩ : ∃ q, iterC m b = q := ⟨_, rfl⟩
        have HS : Hid (iterC (m + 1) b = if bits .and .u32 q 1 == 0 then q / 2 else bits .xor .u32 (q / 2) 3988292384) := by
          show _ = _
          rw [← hq]
          rfl
        rw [hq] at hr ⊢
        have HQ := Lib.hid hq
        clear hq
        obtain ⟨hq0, hq1⟩ := hr
        by_cases hmlt : m < 8
        · cases hbit : (bits BinOp.and .u32 q 1 == 0) with
          | true =>
            go_wp2_with go_step3
            all_goals
              refine ⟨⟨m + 1, by omega, by go_num, ?_⟩, by simp [intOf]; omega⟩
              rw [HS.out, hbit]
              rfl
          | false =>
            go_wp2_with go_step3
            all_goals
              refine ⟨⟨m + 1, by omega, by go_num, ?_⟩, by simp [intOf]; omega⟩
              rw [HS.out, hbit]
              rfl
        · have hme : m = 8 := by omega
          subst hme
          have hcell := hBr.cell (3 + b)
          have hfr := hBr.free (3 + b)
          have hset := Lib.hid (hBr.set (3 + b) (.int .u32 q))
          have hl : b < (zs.drop b).length + b := by have := HZ.out; simp; omega
          obtain ⟨v0, hv0⟩ : ∃ v0, (x0 :: x1 :: x2 :: (tabs b ++ zs.drop b))[3 + b]? = some v0 := ⟨_, List.getElem?_eq_getElem (by have := HZ.out; simp [tabs]; omega)⟩
          rw [hv0] at hcell
          have HT := Lib.hid (tab_set x0 x1 x2 zs b (.int .u32 q) HZ.out hlt (by rw [← HQ.out]; rfl))
          clear hv0 hl
          go_wp2_with go_step3
          refine ⟨⟨b + 1, by omega, by go_num, ?_, hFr.setB hBc hB (by decide) _⟩, by simp [intOf]; omega⟩
          rw [← HT.out]
          exact hset.out
    · have hbe : b = 256 := by omega
      subst hbe
      go_wp2_with go_step3
      go_end0
      refine ⟨rfl, ?_, hFr⟩
      rw [List.drop_eq_nil_of_le (by have := HZ.out; omega), List.append_nil] at hBr
      exact hBr

/-! The lock and the once, of one goroutine. -/
theorem raceDisable (w : World) : (callFunc 111 #[]).run Tryz.prog w = .ok (.value (.tuple #[])) w := run_call_mark0 Tryz.func111 (by kernel_rfl) (by kernel_rfl) (by kernel_rfl) .disable (by kernel_rfl) w
theorem raceEnable (w : World) : (callFunc 113 #[]).run Tryz.prog w = .ok (.value (.tuple #[])) w := run_call_mark0 Tryz.func113 (by kernel_rfl) (by kernel_rfl) (by kernel_rfl) .enable (by kernel_rfl) w
theorem raceAcquire (a : Addr) (w : World) : (callFunc 114 #[.pointer (some a)]).run Tryz.prog w = .ok (.value (.tuple #[])) w := run_call_marked Tryz.func114 (by kernel_rfl) (by kernel_rfl) (by kernel_rfl) .acquire (by kernel_rfl) a w
theorem raceReleaseMerge (a : Addr) (w : World) : (callFunc 116 #[.pointer (some a)]).run Tryz.prog w = .ok (.value (.tuple #[])) w := run_call_marked Tryz.func116 (by kernel_rfl) (by kernel_rfl) (by kernel_rfl) .releaseMerge (by kernel_rfl) a w

theorem store_deferred (a : Addr) (x : Value) (u : FrameMode) (w : World) (hc : w.cell? a = some x) (hz : w.frozen? a = false) :
    CallsD Tryz.prog 104 #[.pointer (some a), .bool true] u w fun e u' w' => u' = u ∧ (e = .returned (.tuple #[]) ∧ w' = w.drew.setCell a (.int .u32 1)) := by
  have hc' : w.drew.cell? a = some x := by go_simp
  have hz' : w.drew.frozen? a = false := by go_simp
  have hst := run_call_store (P := Tryz.prog) Tryz.func108 (by kernel_rfl) (by kernel_rfl) (by kernel_rfl) (by kernel_rfl) (k := .u32) (y := 1) hc' hz'
  go_enter_d Tryz.func104, Tryz.ntmps104
  go_wp2
  go_region_calls
  all_goals (go_end0; exact ⟨rfl, rfl⟩)

set_option maxRecDepth 100000 in
theorem unlock_deferred (a : Addr) (u : FrameMode) (w : World) (hc : w.cell? a = some (.int .i32 1)) (hz : w.frozen? a = false) :
    CallsD Tryz.prog 103 #[.pointer (some a)] u w fun e u' w' => u' = u ∧ (e = .returned (.tuple #[]) ∧ w' = w.setCell a (.int .i32 0)) := by
  have hd := raceDisable
  have he := raceEnable
  have hr := raceReleaseMerge
  have hadd := run_call_add (P := Tryz.prog) Tryz.func117 (by kernel_rfl) (by kernel_rfl) (by kernel_rfl) .i32 (by kernel_rfl) (y := -1) (s := 0) hc hz (by simp [go_sem]; rfl)
  have hcv := run_convert_to_unsafe (P := Tryz.prog) (src := 190) (dst := 171) Tryz.underlying190 Tryz.underlying171 (by kernel_rfl) hc
  go_enter_d Tryz.func103, Tryz.ntmps103
  go_wp2
  go_end0
  go_wp2
  go_end0
  exact ⟨rfl, rfl⟩

set_option maxRecDepth 100000 in
theorem lock_free (a : Addr) (w : World) (hc : w.cell? a = some (.int .i32 0)) (hz : w.frozen? a = false) :
    Calls Tryz.prog 102 #[.pointer (some a)] w fun e w' => e = .returned (.tuple #[]) ∧ w' = w.setCell a (.int .i32 1) := by
  have hd := raceDisable
  have he := raceEnable
  have ha := raceAcquire
  have hcas := run_call_cas_hit (P := Tryz.prog) Tryz.func112 (by kernel_rfl) (by kernel_rfl) (by kernel_rfl) .i32 (by kernel_rfl) (y := 1) hc hz
  have hc' : (w.setCell a (.int .i32 1)).cell? a = some (.int .i32 1) := World.cell?_setCell_same w a _ hc
  have hcv := run_convert_to_unsafe (P := Tryz.prog) (src := 190) (dst := 171) Tryz.underlying190 Tryz.underlying171 (by kernel_rfl) hc'
  go_enter Tryz.func102, Tryz.ntmps102
  go_wp2
  first | go_end0 | (simp only [Exit.inBlock, Exit.then]; refine bodyPost_ret (results_none rfl _ _ _) rfl ?_) | refine bodyPost_ret (results_none rfl _ _ _) rfl ?_
  go_wp2
  go_end0
  exact ⟨rfl, rfl⟩

end Go.Proofs.YtkeamfdceehliaaGreatDoor

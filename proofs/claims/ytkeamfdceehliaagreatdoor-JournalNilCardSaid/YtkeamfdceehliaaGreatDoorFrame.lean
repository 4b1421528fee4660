/- Frames (package frame), walked: what a sector's end says. -/
import Derived.Test.YtkeamfdceehliaaGreatDoorCrc3
namespace Go.Proofs.YtkeamfdceehliaaGreatDoor
open Go.RowKit
attribute [local go_sem] BA_size BA_extract BA_append BA_toList

def rq (n : Int) (b : UInt8) : Int := bits .or .u64 (IntKind.u64.wrap (n * 256)) (IntKind.u64.wrap b.toNat)
def rq64 (l : List UInt8) : Int := (l.take 8).foldl rq 0
theorem bits_u64 (op : BinOp) (x y : Int) : 0 ≤ bits op .u64 x y ∧ bits op .u64 x y < 18446744073709551616 := by
  unfold bits
  rw [IntKind.wrap_u64]
  omega
theorem rqf_range (l : List UInt8) : ∀ n, 0 ≤ n → n < 18446744073709551616 → 0 ≤ l.foldl rq n ∧ l.foldl rq n < 18446744073709551616 := by
  induction l with
  | nil => intro n h0 h1; exact ⟨h0, h1⟩
  | cons b l ih => intro n h0 h1; rw [List.foldl_cons]; exact ih _ (bits_u64 _ _ _).1 (bits_u64 _ _ _).2
theorem rq_succ (l : List UInt8) (j : Nat) (b : UInt8) (hb : l[j]? = some b) : (l.take (j + 1)).foldl rq 0 = rq ((l.take j).foldl rq 0) b := by
  rw [List.take_add_one, hb]
  simp

def M64 : Int := 18446744073709551616

set_option maxRecDepth 100000 in
theorem tag1_ok (l : List UInt8) (pb at_ : Nat) (hl : at_ + 8 ≤ l.length) (hl2 : l.length ≤ 1000) (w : World) (hB : w.cell? ⟨pb, 0, none⟩ = some (.string (BA l))) :
    Calls Tryz.prog 54 #[.int .i64 at_, .pointer (some ⟨pb, 0, none⟩)] w fun e w' => e = .returned (.int .u64 (rq64 (l.drop at_))) ∧ w = w' := by
  have HR : Hid (rq64 (l.drop at_) = ((l.drop at_).take 8).foldl rq 0) := rfl
  go_enter Tryz.func54, Tryz.ntmps54
  go_wp2_with fail
  go_loop [4, 6] (fun n i => ∃ j : Nat, j ≤ 8 ∧ i = .int .i64 j ∧ n = .int .u64 (((l.drop at_).take j).foldl rq 0)) (fun _ i => 8 - (intOf i).toNat)
  case atStart => exact ⟨0, by omega, rfl, rfl⟩
  case round =>
    obtain ⟨j, hj, rfl, rfl⟩ := hrel
    have hr := rqf_range ((l.drop at_).take j) 0 (by omega) (by omega)
    obtain ⟨q, hq⟩ : ∃ q, ((l.drop at_).take j).foldl rq 0 = q := ⟨_, rfl⟩
    rw [hq] at hr ⊢
    obtain ⟨hq0, hq1⟩ := hr
    have HQ := Lib.hid hq
    clear hq
    by_cases hlt : j < 8
    · obtain ⟨b, hb⟩ : ∃ b, l[at_ + j]? = some b := ⟨_, List.getElem?_eq_getElem (by omega)⟩
      have HBb := Lib.hid hb
      have HSU := Lib.hid (rq_succ (l.drop at_) j b (by rw [List.getElem?_drop]; exact hb))
      clear hb
      go_wp2_with (refine wpList_val rfl (exec_index_BA (j := at_ + j) rfl rfl rfl HBb.out (by kernel_rfl) _) ?_)
      refine ⟨⟨j + 1, by omega, by go_num, ?_⟩, by simp [intOf]; omega⟩
      rw [HSU.out, HQ.out]
      rfl
    · have hje : j = 8 := by omega
      subst hje
      go_wp2_with fail
      go_ret
      refine ⟨?_, rfl⟩
      rw [HR.out, HQ.out]
      rfl

theorem tag_no (l : List UInt8) (hl : l.length ≠ 64) (_hm : l.length ≤ 140737488355328) (w : World) :
    Calls Tryz.prog 46 #[strV l] w fun e w' => e = .returned (.tuple #[.int .u64 0, .int .u64 0, .bool false]) ∧ w' = w.alloc (.cells #[strV l] 9) := by
  have hne : ((l.length : Int) == 64) = false := beq_eq_false_iff_ne.2 (by omega)
  unfold strV
  go_enter Tryz.func46, Tryz.ntmps46
  go_wp2_with fail
  go_ret3
  exact ⟨rfl, rfl⟩

theorem tag_ok (l : List UInt8) (hl : l.length = 64) (w : World) :
    Calls Tryz.prog 46 #[strV l] w fun e w' => e = .returned (.tuple #[.int .u64 (rq64 (l.drop 48)), .int .u64 (rq64 (l.drop 56)), .bool true]) ∧ w' = w.alloc (.cells #[strV l] 9) := by
  have hmf : ∀ (fn : Fn) (first cap : Array Value) (w : World), (Instr.makeFunc fn first cap).run Tryz.prog w = .ok (.func fn first cap) w := fun _ _ _ _ => rfl
  have HC : Hid ((w.alloc (.cells #[.string (BA l)] 9)).cell? ⟨w.heap.size, 0, none⟩ = some (.string (BA l))) := by
    show _ = _
    simp
  have H48 := Lib.hid (tag1_ok l w.heap.size 48 (by omega) (by omega) _ HC.out)
  have H56 := Lib.hid (tag1_ok l w.heap.size 56 (by omega) (by omega) _ HC.out)
  have hsz : l.length = 64 := hl
  unfold strV
  go_enter Tryz.func46, Tryz.ntmps46
  go_wp2_with fail
  refine H48.out.mono ?_
  rintro e w' ⟨rfl, rfl⟩
  go_wp2_with fail
  refine H56.out.mono ?_
  rintro e w' ⟨rfl, rfl⟩
  go_wp2_with fail
  go_ret3
  exact ⟨rfl, rfl⟩
end Go.Proofs.YtkeamfdceehliaaGreatDoor

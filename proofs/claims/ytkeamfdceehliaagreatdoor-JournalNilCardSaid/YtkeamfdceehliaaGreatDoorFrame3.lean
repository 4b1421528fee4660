/- Frames (package frame), walked: a cell's sector. -/
import Derived.Test.YtkeamfdceehliaaGreatDoorFrame2
import Derived.Test.YtkeamfdceehliaaGreatDoorArr2
namespace Go.Proofs.YtkeamfdceehliaaGreatDoor
open Go.RowKit
attribute [local go_sem] BA_size BA_extract BA_append BA_toList

abbrev TCell : Nat := 104

/-- The sector of a cell. -/
def mkSec (p : List UInt8) (e n : Int) : List UInt8 :=
  ((([u8i p.length] ++ be32 (sumS (p ++ (be64 e ++ be64 n)))) ++ p) ++ List.replicate (43 - p.length) 0) ++ (be64 e ++ be64 n)

theorem repeat0 (c : Nat) (hc : c ≤ 43) (w : World) : Calls Tryz.prog 61 #[.string ⟨#[0]⟩, .int .i64 c] w fun e w' => e = .returned (.string (BA (List.replicate c 0))) ∧ Below w.heap.size w w' := by
  refine (Tryz.strings_Repeat ⟨#[0]⟩ c w (by omega) (by show 1 * c ≤ _; omega)).mono ?_
  rintro e w' ⟨rfl, hb⟩
  refine ⟨?_, hb⟩
  have : ∀ c, Lib.repeatL [0] c = List.replicate c (0 : UInt8) := by
    intro c
    induction c with
    | zero => rfl
    | succ c ih => rw [Lib.repeatL, ih]; rfl
  show Ending.returned (.string ⟨(Lib.repeatL [0] c).toArray⟩) = _
  rw [this]
  rfl

theorem make_arg (p : List UInt8) (e n : Int) (hp : 43 < p.length) (hm : p.length ≤ 140737488355328) (w : World) :
    Calls Tryz.prog 50 #[.agg #[.string (BA p), .int .u64 e, .int .u64 n]] w fun r w' => r = .returned (.tuple #[.string (BA []), .int .i64 1]) ∧ Below w.heap.size w w' := by
  have h2 : (43 : Int) < p.length := by omega
  go_enter Tryz.func50, Tryz.ntmps50
  go_wp2_with fail
  go_ret2
  exact ⟨rfl, (Below.refl _ _).alloc (Nat.le_refl _) _⟩

set_option maxRecDepth 100000 in
set_option maxHeartbeats 2000000 in
theorem make_ok (p : List UInt8) (e n : Int) (he : 0 ≤ e ∧ e < 18446744073709551616) (hn : 0 ≤ n ∧ n < 18446744073709551616) (hp : p.length ≤ 43) (w : World) :
    Calls Tryz.prog 50 #[.agg #[.string (BA p), .int .u64 e, .int .u64 n]] w fun r w' => r = .returned (.tuple #[.string (BA (mkSec p e n)), .int .i64 0]) ∧ Below w.heap.size w w' := by
  have hp2 : (p.length : Int) ≤ 43 := by omega
  have he2 := Lib.hid he
  have hn2 := Lib.hid hn
  clear he hn
  go_enter Tryz.func50, Tryz.ntmps50
  go_wp2_with fail
  refine (tags_ok (w.heap.size + 1) e n he2.out hn2.out _ (Blk.newAt _ [.int .u64 e, .int .u64 n] TU64 (by simp))).mono ?_
  rintro r w1 ⟨rfl, hb1⟩
  unfold strV
  have hlt : (be64 e ++ be64 n).length = 16 := by simp [be64, part64_len]
  have HLT := Lib.hid hlt
  clear hlt
  obtain ⟨tg, htg⟩ : ∃ tg, tg = be64 e ++ be64 n := ⟨_, rfl⟩
  rw [← htg] at HLT ⊢
  have HTG := Lib.hid htg
  clear htg
  have hcb : Blk w1 w.heap.size [.string (BA p), .int .u64 e, .int .u64 n] TCell := by
    have h1 : Blk (w.alloc (.cells #[.string (BA p), .int .u64 e, .int .u64 n] TCell)) w.heap.size [.string (BA p), .int .u64 e, .int .u64 n] TCell := Blk.newAt _ _ _ rfl
    exact (h1.alloc _).below hb1 (by simp; omega)
  have hbw : Below w.heap.size w w1 := (((Below.refl w.heap.size w).alloc (Nat.le_refl _) _).alloc (by simp) _).trans (hb1.mono (by simp; omega))
  have hsz1 : w.heap.size < w1.heap.size := by have := hb1.size; simp at this; omega
  clear hb1
  go_wp2_with fail
  refine wp_region_planN (fun w' => Blk w' w.heap.size [.string (BA p), .int .u64 e, .int .u64 n] TCell) [1, 3] [2, 4] [0] [5, 6] (by kernel_rfl) (by kernel_rfl) hcb.drew (fun c a d v w h => by cases d <;> exact h) ?_
  iterate 2
    refine pureS (v := ?_) rfl ?_ ?_
    rotate_left
    · intro wq
      go_simp
      rfl
    simp only [put_lit, List.set_cons_succ, List.set_cons_zero]
  refine holdS (v := .string (BA p)) rfl ?_ ?_
  · intro wq hq
    have c0q := hq.cell 0
    simp only [List.getElem?_cons_zero] at c0q
    go_simp
  simp only [put_lit, List.set_cons_succ, List.set_cons_zero]
  refine holdS (v := .string (BA (p ++ tg))) rfl (fun wq _ => exec_addS rfl rfl rfl (by have := HLT.out; omega) wq) ?_
  simp only [put_lit, List.set_cons_succ, List.set_cons_zero]
  refine oneC (j := 0) (rem' := []) (f := 56) (args := #[]) ⟨by kernel_rfl, by kernel_rfl⟩ rfl ?_ ?_
  · go_simp
  refine (new_tab _).mono ?_
  rintro r w2 ⟨rfl, rfl⟩
  refine ⟨_, rfl, hcb.drew.alloc _, ?_⟩
  refine endT (g1 rfl (g1 rfl g0)) ?_
  simp only [put_lit, List.set_cons_succ, List.set_cons_zero]
  have HS := Lib.hid (sum_ok (w1.drew.heap.size) w1.drew.heap.size (p ++ tg) (by have := HLT.out; simp; omega) (w1.drew.alloc (.cells (fresh z256).toArray TTab)) (Blk.newAt _ _ _ rfl) (Nat.le_refl _))
  unfold strV at HS
  go_wp2_with fail
  refine HS.out.mono ?_
  rintro r w3 ⟨rfl, hF3⟩
  have hcb3 := (hcb.drew.alloc (.cells (fresh z256).toArray TTab)).fr hF3 (by decide)
  have hbw3 : Below w.heap.size w w3 := ((hbw.drew).alloc (by have h1 := hsz1; have h2 : w1.drew.heap.size = w1.heap.size := rfl; omega) _).trans ((hF3.below).mono (by have h1 := hsz1; have h2 : w1.drew.heap.size = w1.heap.size := rfl; rw [World.size_alloc]; omega))
  have hsz3 : w.heap.size < w3.heap.size := by have h0 := hsz1; have h1 := hF3.size; have h2 : w1.drew.heap.size = w1.heap.size := rfl; rw [World.size_alloc] at h1; omega
  clear hF3 HS hcb hbw hsz1
  have k0 := hcb3.cell 0
  simp only [List.getElem?_cons_zero] at k0
  have hpN : Hid (((43 - p.length : Nat) : Int) = 43 - (p.length : Int)) := by show _ = _; omega
  go_wp2_with fail
  rw [← hpN.out]
  refine (repeat0 (43 - p.length) (by omega) _).mono ?_
  rintro r w4 ⟨rfl, hb4⟩
  have hcb4 := hcb3.below hb4 hcb3.lt
  have hbw4 : Below w.heap.size w w4 := hbw3.trans (hb4.mono (by omega))
  have hsz4 : w.heap.size < w4.heap.size := by have := hb4.size; omega
  clear hcb3 hbw3 hb4 k0 hsz3
  go_wp2_with fail
  have hu8 : Hid (([.int .u8 (IntKind.u8.wrap p.length)].drop 0).take 1 = bytesV [u8i p.length]) := by
    show _ = _
    simp only [bytesV, List.map_cons, List.map_nil, byteV_u8i]
    rfl
  have hbo := Lib.hid (fun w0 => bytes_ok (sumS (p ++ tg)) (sumS_range _).1 (sumS_range _).2 w0)
  unfold strV at hbo
  have HLB : Hid ((be32 (sumS (p ++ tg))).length = 4) := rfl
  refine wp_region_planN (fun w' => Blk w' w.heap.size [.string (BA p), .int .u64 e, .int .u64 n] TCell) [0, 6, 9, 12, 14] [1, 2, 3, 10] [4, 5, 7, 8] [11, 13, 15, 16, 17] (by kernel_rfl) (by kernel_rfl) hcb4.drew (fun c a d v w h => by cases d <;> exact h) ?_
  iterate 5
    refine pureS (v := ?_) rfl ?_ ?_
    rotate_left
    · intro wq
      go_simp
      rfl
    simp only [put_lit, List.set_cons_succ, List.set_cons_zero]
  refine holdS (v := .string (BA p)) rfl ?_ ?_
  · intro wq hq
    have c0q := hq.cell 0
    simp only [List.getElem?_cons_zero] at c0q
    go_simp
  simp only [put_lit, List.set_cons_succ, List.set_cons_zero]
  refine holdS (v := .int .i64 p.length) rfl ?_ ?_
  · intro wq _
    go_simp
  simp only [put_lit, List.set_cons_succ, List.set_cons_zero]
  refine holdS (v := .int .u8 (IntKind.u8.wrap p.length)) rfl ?_ ?_
  · intro wq _
    go_simp
  simp only [put_lit, List.set_cons_succ, List.set_cons_zero]
  refine holdS (v := .string (BA p)) rfl ?_ ?_
  · intro wq hq
    have c0q := hq.cell 0
    simp only [List.getElem?_cons_zero] at c0q
    go_simp
  simp only [put_lit, List.set_cons_succ, List.set_cons_zero]
  have hA1 : Hid (([u8i p.length] ++ be32 (sumS (p ++ tg))).length + p.length ≤ 9223372036854775807) := by
    show _ ≤ _
    have := HLB.out
    simp only [List.length_append, List.length_cons, List.length_nil]
    omega
  have hA2 : Hid ((([u8i p.length] ++ be32 (sumS (p ++ tg))) ++ p).length + (List.replicate (43 - p.length) (0 : UInt8)).length ≤ 9223372036854775807) := by
    show _ ≤ _
    have := HLB.out
    simp only [List.length_append, List.length_cons, List.length_nil, List.length_replicate]
    omega
  have hA3 : Hid (((([u8i p.length] ++ be32 (sumS (p ++ tg))) ++ p) ++ List.replicate (43 - p.length) (0 : UInt8)).length + tg.length ≤ 9223372036854775807) := by
    show _ ≤ _
    have := HLB.out
    have := HLT.out
    simp only [List.length_append, List.length_cons, List.length_nil, List.length_replicate]
    omega
  have HM : Hid (mkSec p e n = (((([u8i p.length] ++ be32 (sumS (p ++ tg))) ++ p) ++ List.replicate (43 - p.length) 0) ++ tg)) := by
    show _ = _
    rw [HTG.out]
    rfl
  refine twoS (j := 4) (k := 7) (rj := [5, 7, 8]) (rk := [4, 5, 8]) ⟨by kernel_rfl, by kernel_rfl, by kernel_rfl⟩ rfl rfl ?_ ?_
  · refine wp_val (w' := w4.drew.alloc (.cells #[.int .u8 (IntKind.u8.wrap p.length)] TByte)) (v := .slice (some ⟨w4.heap.size, 0, none⟩) 1 1) ?_ ⟨hcb4.drew.alloc _, ?_⟩
    · go_simp
    simp only [put_lit, List.set_cons_succ, List.set_cons_zero]
    refine twoS (j := 5) (k := 7) (rj := [7, 8]) (rk := [5, 8]) ⟨by kernel_rfl, by kernel_rfl, by kernel_rfl⟩ rfl rfl ?_ ?_
    · refine wp_val (v := .string (BA [u8i p.length])) (exec_bytes_str (t := TByte) rfl rfl (Blk.newAt w4.drew [.int .u8 (IntKind.u8.wrap p.length)] TByte rfl) undBytes undByte undStr rfl hu8.out) ⟨hcb4.drew.alloc _, ?_⟩
      simp only [put_lit, List.set_cons_succ, List.set_cons_zero]
      refine oneC (j := 7) (rem' := [8]) (f := 62) (args := #[.int .u32 (sumS (p ++ tg))]) ⟨by kernel_rfl, by kernel_rfl⟩ rfl ?_ ?_
      · go_simp
      refine (hbo.out _).mono ?_
      rintro r w5 ⟨rfl, o5, rfl⟩
      refine ⟨_, rfl, (hcb4.drew.alloc _).alloc _, ?_⟩
      simp only [put_lit, List.set_cons_succ, List.set_cons_zero]
      refine oneS (j := 8) (rem' := []) (v := .string (BA ([u8i p.length] ++ be32 (sumS (p ++ tg))))) ⟨by kernel_rfl, by kernel_rfl⟩ rfl (exec_addS rfl rfl rfl (by have := HLB.out; simp only [List.length_cons, List.length_nil]; omega) _) ((hcb4.drew.alloc _).alloc _) ?_
      simp only [put_lit, List.set_cons_succ, List.set_cons_zero]
      refine endT (g1 rfl (g1 rfl (g1 rfl (g1 rfl (g1 rfl g0))))) ?_
      refine wpList_val rfl (exec_addS rfl rfl rfl hA1.out _) ?_
      simp only [put_lit, List.set_cons_succ, List.set_cons_zero]
      refine wpList_val rfl (exec_addS rfl rfl rfl hA2.out _) ?_
      simp only [put_lit, List.set_cons_succ, List.set_cons_zero]
      refine wpList_val rfl (exec_addS rfl rfl rfl hA3.out _) ?_
      simp only [put_lit, List.set_cons_succ, List.set_cons_zero]
      go_wp2_with fail
      go_ret2
      refine ⟨?_, (((hbw4.drew).alloc (by have h2 : w4.drew.heap.size = w4.heap.size := rfl; omega) _).alloc (by have h2 : w4.drew.heap.size = w4.heap.size := rfl; rw [World.size_alloc]; omega) _)⟩
      rw [HM.out]
      rfl
    · refine wp_enter (f := 62) (args := #[.int .u32 (sumS (p ++ tg))]) ?_ ?_
      · go_simp
      refine (hbo.out _).mono ?_
      rintro r w5 ⟨rfl, o5, rfl⟩
      refine ⟨_, rfl, (hcb4.drew.alloc _).alloc _, ?_⟩
      simp only [put_lit, List.set_cons_succ, List.set_cons_zero]
      refine oneS (j := 5) (rem' := [8]) (v := .string (BA [u8i p.length])) ⟨by kernel_rfl, by kernel_rfl⟩ rfl (exec_bytes_str (t := TByte) rfl rfl ((Blk.newAt w4.drew [.int .u8 (IntKind.u8.wrap p.length)] TByte rfl).alloc _) undBytes undByte undStr rfl hu8.out) ((hcb4.drew.alloc _).alloc _) ?_
      simp only [put_lit, List.set_cons_succ, List.set_cons_zero]
      refine oneS (j := 8) (rem' := []) (v := .string (BA ([u8i p.length] ++ be32 (sumS (p ++ tg))))) ⟨by kernel_rfl, by kernel_rfl⟩ rfl (exec_addS rfl rfl rfl (by have := HLB.out; simp only [List.length_cons, List.length_nil]; omega) _) ((hcb4.drew.alloc _).alloc _) ?_
      simp only [put_lit, List.set_cons_succ, List.set_cons_zero]
      refine endT (g1 rfl (g1 rfl (g1 rfl (g1 rfl (g1 rfl g0))))) ?_
      refine wpList_val rfl (exec_addS rfl rfl rfl hA1.out _) ?_
      simp only [put_lit, List.set_cons_succ, List.set_cons_zero]
      refine wpList_val rfl (exec_addS rfl rfl rfl hA2.out _) ?_
      simp only [put_lit, List.set_cons_succ, List.set_cons_zero]
      refine wpList_val rfl (exec_addS rfl rfl rfl hA3.out _) ?_
      simp only [put_lit, List.set_cons_succ, List.set_cons_zero]
      go_wp2_with fail
      go_ret2
      refine ⟨?_, (((hbw4.drew).alloc (by have h2 : w4.drew.heap.size = w4.heap.size := rfl; omega) _).alloc (by have h2 : w4.drew.heap.size = w4.heap.size := rfl; rw [World.size_alloc]; omega) _)⟩
      rw [HM.out]
      rfl
  · refine wp_enter (f := 62) (args := #[.int .u32 (sumS (p ++ tg))]) ?_ ?_
    · go_simp
    refine (hbo.out _).mono ?_
    rintro r w5 ⟨rfl, o5, rfl⟩
    refine ⟨_, rfl, hcb4.drew.alloc _, ?_⟩
    simp only [put_lit, List.set_cons_succ, List.set_cons_zero]
    refine oneS (j := 4) (rem' := [5, 8]) (w' := (w4.drew.alloc o5).alloc (.cells #[.int .u8 (IntKind.u8.wrap p.length)] TByte)) (v := .slice (some ⟨w4.heap.size + 1, 0, none⟩) 1 1) ⟨by kernel_rfl, by kernel_rfl⟩ rfl ?_ ((hcb4.drew.alloc _).alloc _) ?_
    · go_simp
    simp only [put_lit, List.set_cons_succ, List.set_cons_zero]
    refine oneS (j := 5) (rem' := [8]) (v := .string (BA [u8i p.length])) ⟨by kernel_rfl, by kernel_rfl⟩ rfl (exec_bytes_str (t := TByte) rfl rfl (Blk.newAt (w4.drew.alloc o5) [.int .u8 (IntKind.u8.wrap p.length)] TByte (by rw [World.size_alloc]; rfl)) undBytes undByte undStr rfl hu8.out) ((hcb4.drew.alloc _).alloc _) ?_
    simp only [put_lit, List.set_cons_succ, List.set_cons_zero]
    refine oneS (j := 8) (rem' := []) (v := .string (BA ([u8i p.length] ++ be32 (sumS (p ++ tg))))) ⟨by kernel_rfl, by kernel_rfl⟩ rfl (exec_addS rfl rfl rfl (by have := HLB.out; simp only [List.length_cons, List.length_nil]; omega) _) ((hcb4.drew.alloc _).alloc _) ?_
    simp only [put_lit, List.set_cons_succ, List.set_cons_zero]
    refine endT (g1 rfl (g1 rfl (g1 rfl (g1 rfl (g1 rfl g0))))) ?_
    refine wpList_val rfl (exec_addS rfl rfl rfl hA1.out _) ?_
    simp only [put_lit, List.set_cons_succ, List.set_cons_zero]
    refine wpList_val rfl (exec_addS rfl rfl rfl hA2.out _) ?_
    simp only [put_lit, List.set_cons_succ, List.set_cons_zero]
    refine wpList_val rfl (exec_addS rfl rfl rfl hA3.out _) ?_
    simp only [put_lit, List.set_cons_succ, List.set_cons_zero]
    go_wp2_with fail
    go_ret2
    refine ⟨?_, (((hbw4.drew).alloc (by have h2 : w4.drew.heap.size = w4.heap.size := rfl; omega) _).alloc (by have h2 : w4.drew.heap.size = w4.heap.size := rfl; rw [World.size_alloc]; omega) _)⟩
    rw [HM.out]
    rfl
end Go.Proofs.YtkeamfdceehliaaGreatDoor

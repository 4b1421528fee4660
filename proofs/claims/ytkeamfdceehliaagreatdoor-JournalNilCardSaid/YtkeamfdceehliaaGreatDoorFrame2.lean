/- Frames (package frame), walked: numbers as bytes. -/
import Derived.Test.YtkeamfdceehliaaGreatDoorFrame
import Derived.Test.YtkeamfdceehliaaGreatDoorBuilder
namespace Go.Proofs.YtkeamfdceehliaaGreatDoor
open Go.RowKit
attribute [local go_sem] BA_size BA_extract BA_append BA_toList

abbrev TU64 : Nat := 39
def part64 (n : Int) (m : Nat) : List UInt8 := (List.range m).map fun i => u8i (n / 2 ^ (8 * (7 - i)))
def be64 (n : Int) : List UInt8 := part64 n 8
theorem part64_len (n : Int) (m : Nat) : (part64 n m).length = m := by simp [part64]
theorem part64_succ (n : Int) (m : Nat) : bytesV (part64 n (m + 1)) = bytesV (part64 n m) ++ [.int .u8 (n / 2 ^ (8 * (7 - m)) % 256)] := by
  simp only [part64, List.range_succ, List.map_append, bytesV, List.map_cons, List.map_nil, byteV_u8i, IntKind.wrap_u8']
def tagsTo (x y : Int) : Nat → List UInt8
  | 0 => []
  | 1 => be64 x
  | _ => be64 x ++ be64 y

set_option maxRecDepth 100000 in
set_option maxHeartbeats 2000000 in
theorem tags_ok (pb : Nat) (x y : Int) (hx : 0 ≤ x ∧ x < 18446744073709551616) (hy : 0 ≤ y ∧ y < 18446744073709551616) (w : World) (hB : Blk w pb [.int .u64 x, .int .u64 y] TU64) :
    Calls Tryz.prog 59 #[.slice (some ⟨pb, 0, none⟩) 2 2] w fun e w' => e = .returned (strV (be64 x ++ be64 y)) ∧ Below w.heap.size w w' := by
  have c0 := hB.cell 0
  simp only [List.getElem?_cons_zero] at c0
  have c1 := hB.cell 1
  simp only [List.getElem?_cons_zero, List.getElem?_cons_succ] at c1
  have hpl := hB.lt
  obtain ⟨hx0, hx1⟩ := hx
  obtain ⟨hy0, hy1⟩ := hy
  go_enter Tryz.func59, Tryz.ntmps59
  go_wp2_with fail
  have hI0 : Hid (Lib.IsBuilder TBld TByte w.heap.size w.heap.size (bytesV (tagsTo x y 0)) (w.alloc (.cells #[.pointer none, .slice none 0 0] TBld))) := by
    refine Or.inl ⟨Nat.le_refl _, .slice none 0 0, heap_alloc_new _ _, World.ownsRow_nil _ _ _ _, by simp [Value.ownBlock]⟩
  go_loopw [9] (fun i wr => ∃ k : Nat, k ≤ 2 ∧ i = .int .i64 k ∧ Lib.IsBuilder TBld TByte w.heap.size w.heap.size (bytesV (tagsTo x y k)) wr ∧ Below w.heap.size w wr ∧ w.heap.size < wr.heap.size) (fun i _ => 2 - (intOf i).toNat)
  case atStart => exact ⟨0, by omega, rfl, hI0.out, (Below.refl _ _).alloc (Nat.le_refl _) _, by simp⟩
  case round =>
    obtain ⟨k, hk, rfl, hI, hbl, hsz⟩ := hrel
    have c0r := (hbl.cell (p := ⟨pb, 0, none⟩) hpl).trans c0
    have c1r := (hbl.cell (p := ⟨pb, 1, none⟩) hpl).trans c1
    clear c0 c1
    have hk3 : k = 0 ∨ k = 1 ∨ k = 2 := by omega
    rcases hk3 with rfl | rfl | rfl
    · have HI := Lib.hid hI
      clear hI
      rw [show ((0 : Nat) : Int) = 0 from rfl]
      go_wp2_with fail
      go_loopw [13] (fun i wi => ∃ m : Nat, m ≤ 8 ∧ i = .int .i64 m ∧ Lib.IsBuilder TBld TByte w.heap.size w.heap.size (bytesV (part64 x m)) wi ∧ Below w.heap.size w wi ∧ w.heap.size < wi.heap.size) (fun i _ => 8 - (intOf i).toNat)
      case atStart => exact ⟨0, by omega, rfl, by simpa [part64, tagsTo] using HI.out, hbl, hsz⟩
      case round =>
        obtain ⟨m, hm, rfl, hI2, hbl2, hsz2⟩ := hrel
        by_cases hlt : m < 8
        · have hlen : (bytesV (part64 x m)).length ≤ 16 := by simp [part64_len]; omega
          have hsu : bytesV (part64 x (m + 1)) = bytesV (part64 x m) ++ [.int .u8 (x / 2 ^ (8 * (7 - m)) % 256)] := by
            have := part64_succ x m
            simp only [bytesV] at this ⊢
            rw [this]
          have HSU := Lib.hid hsu
          have HL := Lib.hid hlen
          clear hsu hlen
          go_wp2_with fail
          refine (writeByte_any w.heap.size w.heap.size _ _ _ hI2 (by have := HL.out; omega) (by omega)).mono ?_
          rintro e w3 ⟨rfl, hb3, hbl3⟩
          go_wp2_with fail
          refine ⟨⟨m + 1, by omega, by go_num, by rw [HSU.out]; exact Or.inr hb3, hbl2.trans hbl3, by have := hbl3.size; omega⟩, by simp [intOf]; omega⟩
        · have hme : m = 8 := by omega
          subst hme
          go_wp2_with fail
          refine ⟨⟨0 + 1, by omega, rfl, hI2, hbl2, hsz2⟩, by simp [intOf]⟩
    · have HI := Lib.hid hI
      clear hI
      rw [show ((1 : Nat) : Int) = 1 from rfl]
      go_wp2_with fail
      go_loopw [13] (fun i wi => ∃ m : Nat, m ≤ 8 ∧ i = .int .i64 m ∧ Lib.IsBuilder TBld TByte w.heap.size w.heap.size (bytesV (be64 x ++ part64 y m)) wi ∧ Below w.heap.size w wi ∧ w.heap.size < wi.heap.size) (fun i _ => 8 - (intOf i).toNat)
      case atStart => exact ⟨0, by omega, rfl, by simpa [part64, tagsTo] using HI.out, hbl, hsz⟩
      case round =>
        obtain ⟨m, hm, rfl, hI2, hbl2, hsz2⟩ := hrel
        by_cases hlt : m < 8
        · have hlen : (bytesV (be64 x ++ part64 y m)).length ≤ 16 := by simp [part64_len, be64]; omega
          have hsu : bytesV (be64 x ++ part64 y (m + 1)) = bytesV (be64 x ++ part64 y m) ++ [.int .u8 (y / 2 ^ (8 * (7 - m)) % 256)] := by
            have := part64_succ y m
            simp only [bytesV, List.map_append] at this ⊢
            rw [this]
            simp
          have HSU := Lib.hid hsu
          have HL := Lib.hid hlen
          clear hsu hlen
          go_wp2_with fail
          refine (writeByte_any w.heap.size w.heap.size _ _ _ hI2 (by have := HL.out; omega) (by omega)).mono ?_
          rintro e w3 ⟨rfl, hb3, hbl3⟩
          go_wp2_with fail
          refine ⟨⟨m + 1, by omega, by go_num, by rw [HSU.out]; exact Or.inr hb3, hbl2.trans hbl3, by have := hbl3.size; omega⟩, by simp [intOf]; omega⟩
        · have hme : m = 8 := by omega
          subst hme
          go_wp2_with fail
          refine ⟨⟨1 + 1, by omega, rfl, hI2, hbl2, hsz2⟩, by simp [intOf]⟩
    · have HI : Hid (Lib.IsBuilder TBld TByte w.heap.size w.heap.size (Lib.byteCells (be64 x ++ be64 y)) wr) := hI
      clear hI
      go_wp2_with fail
      refine (Tryz.Builder_String_any w.heap.size w.heap.size (be64 x ++ be64 y) _ HI.out (by omega)).mono ?_
      rintro e w3 ⟨rfl, hbl3⟩
      go_wp2_with fail
      go_ret
      exact ⟨rfl, hbl.trans hbl3⟩
end Go.Proofs.YtkeamfdceehliaaGreatDoor

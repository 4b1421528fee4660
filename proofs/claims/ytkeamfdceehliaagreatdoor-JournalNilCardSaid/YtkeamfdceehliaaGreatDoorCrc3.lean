/- A sum's bytes, and the sum of bytes, walked. -/
import Derived.Test.YtkeamfdceehliaaGreatDoorCrc2
import Derived.Test.YtkeamfdceehliaaGreatDoorDisk2
namespace Go.Proofs.YtkeamfdceehliaaGreatDoor
open Go.RowKit

def u8i (n : Int) : UInt8 := UInt8.ofNat (n % 256).toNat
theorem byteV_u8i (n : Int) : byteV (u8i n) = .int .u8 (IntKind.u8.wrap n) := by
  unfold byteV u8i
  rw [IntKind.wrap_u8']
  congr 1
  simp
  omega
def be32 (n : Int) : List UInt8 := [u8i (n / 16777216), u8i (n / 65536), u8i (n / 256), u8i n]

set_option maxRecDepth 100000 in
theorem bytes_ok (n : Int) (h0 : 0 ≤ n) (h1 : n < 4294967296) (w : World) :
    Calls Tryz.prog 62 #[.int .u32 n] w fun e w' => e = .returned (strV (be32 n)) ∧ ∃ o, w' = w.alloc o := by
  have hB := Lib.hid (Blk.new w [.int .u8 (n / 16777216), .int .u8 (n / 65536 % 256), .int .u8 (n / 256 % 256), .int .u8 (n % 256)] 5)
  have hv : Hid (([.int .u8 (n / 16777216), .int .u8 (n / 65536 % 256), .int .u8 (n / 256 % 256), .int .u8 (n % 256)].drop 0).take 4 = bytesV (be32 n)) := by
    show _ = _
    simp only [bytesV, be32, List.map_cons, List.map_nil, byteV_u8i, IntKind.wrap_u8']
    rw [show n / 16777216 % 256 = n / 16777216 by omega]
    rfl
  go_enter Tryz.func62, Tryz.ntmps62
  go_wp2_with (refine wpList_bytesStr (src := 74) (dst := 9) (l := be32 n) rfl rfl rfl hB.out undBytes undByte undStr rfl hv.out ?_)
  go_ret
  exact ⟨rfl, _, rfl⟩

def rd (n : Int) (b : UInt8) : Int := bits .or .u32 (n * 256 % 4294967296) ((b.toNat : Int) % 4294967296)
def rd32 (l : List UInt8) : Int := (l.take 4).foldl rd 0
theorem rd_range (n : Int) (b : UInt8) : 0 ≤ rd n b ∧ rd n b < 4294967296 := bits_u32 _ _ _
theorem rd_add (n : Int) (b : UInt8) (h0 : 0 ≤ n) (h1 : n < 16777216) : rd n b = n * 256 + b.toNat := by
  unfold rd
  have hb := b.toNat_lt
  obtain ⟨k, rfl⟩ := Int.eq_ofNat_of_zero_le h0
  have e1 : (k : Int) * 256 % 4294967296 = ((k * 256 : Nat) : Int) := by omega
  have e2 : (b.toNat : Int) % 4294967296 = ((b.toNat : Nat) : Int) := by omega
  rw [e1, e2, u32_or_nat _ _ (by omega) (by omega)]
  have := Nat.shiftLeft_add_eq_or_of_lt (i := 8) (b := b.toNat) (by omega) k
  rw [Nat.shiftLeft_eq] at this
  rw [show k * 256 = k * 2 ^ 8 by rfl, ← this]
  omega
theorem u8i_nat (n : Int) : ((u8i n).toNat : Int) = n % 256 := by
  unfold u8i
  simp
  omega
theorem rd32_be (n : Int) (h0 : 0 ≤ n) (h1 : n < 4294967296) (l : List UInt8) : rd32 (be32 n ++ l) = n := by
  unfold rd32 be32
  simp only [List.cons_append, List.nil_append, List.take_succ_cons, List.take_zero, List.foldl_cons, List.foldl_nil]
  have e1 : rd 0 (u8i (n / 16777216)) = n / 16777216 := by rw [rd_add _ _ (by omega) (by omega), u8i_nat]; omega
  have e2 : rd (n / 16777216) (u8i (n / 65536)) = n / 65536 := by rw [rd_add _ _ (by omega) (by omega), u8i_nat]; omega
  have e3 : rd (n / 65536) (u8i (n / 256)) = n / 256 := by rw [rd_add _ _ (by omega) (by omega), u8i_nat]; omega
  have e4 : rd (n / 256) (u8i n) = n := by rw [rd_add _ _ (by omega) (by omega), u8i_nat]; omega
  rw [e1, e2, e3, e4]

theorem cread_short (l : List UInt8) (hl : l.length < 4) (w : World) :
    Calls Tryz.prog 55 #[strV l] w fun e w' => e = .returned (.tuple #[.int .u32 0, .bool false]) ∧ w = w' := by
  have hsz : (BA l).size = l.length := rfl
  have hl2 : (l.length : Int) < 4 := by omega
  unfold strV
  go_enter Tryz.func55, Tryz.ntmps55
  go_wp2
  go_ret2
  exact ⟨rfl, rfl⟩

theorem rd_succ (l : List UInt8) (j : Nat) (b : UInt8) (hb : l[j]? = some b) : (l.take (j + 1)).foldl rd 0 = rd ((l.take j).foldl rd 0) b := by
  rw [List.take_add_one, hb]
  simp
theorem rdf_range (l : List UInt8) : ∀ n, 0 ≤ n → n < 4294967296 → 0 ≤ l.foldl rd n ∧ l.foldl rd n < 4294967296 := by
  induction l with
  | nil => intro n h0 h1; exact ⟨h0, h1⟩
  | cons b l ih => intro n h0 h1; rw [List.foldl_cons]; exact ih _ (rd_range n b).1 (rd_range n b).2

theorem cread_ok (l : List UInt8) (hl : 4 ≤ l.length) (w : World) :
    Calls Tryz.prog 55 #[strV l] w fun e w' => e = .returned (.tuple #[.int .u32 (rd32 l), .bool true]) ∧ w = w' := by
  have hsz : (BA l).size = l.length := rfl
  have hl2 : 4 ≤ (l.length : Int) := by omega
  have HR : Hid (rd32 l = (l.take 4).foldl rd 0) := rfl
  unfold strV
  go_enter Tryz.func55, Tryz.ntmps55
  go_wp2_with fail
  go_loop [4, 9] (fun n i => ∃ j : Nat, j ≤ 4 ∧ i = .int .i64 j ∧ n = .int .u32 ((l.take j).foldl rd 0)) (fun _ i => 4 - (intOf i).toNat)
  case atStart => exact ⟨0, by omega, rfl, rfl⟩
  case round =>
    obtain ⟨j, hj, rfl, rfl⟩ := hrel
    have hr := rdf_range (l.take j) 0 (by omega) (by omega)
    obtain ⟨q, hq⟩ : ∃ q, (l.take j).foldl rd 0 = q := ⟨_, rfl⟩
    rw [hq] at hr ⊢
    obtain ⟨hq0, hq1⟩ := hr
    have HQ := Lib.hid hq
    clear hq
    by_cases hlt : j < 4
    · obtain ⟨b, hb⟩ : ∃ b, l[j]? = some b := ⟨_, List.getElem?_eq_getElem (by omega)⟩
      have HBb := Lib.hid hb
      have HSU := Lib.hid (rd_succ l j b hb)
      clear hb
      go_wp2_with (refine wpList_val rfl (exec_index_BA rfl rfl rfl HBb.out (by kernel_rfl) _) ?_)
      refine ⟨⟨j + 1, by omega, by go_num, ?_⟩, by simp [intOf]; omega⟩
      rw [HSU.out, HQ.out]
      rfl
    · have hje : j = 4 := by omega
      subst hje
      go_wp2_with fail
      go_ret2
      refine ⟨?_, rfl⟩
      rw [HR.out, HQ.out]
      rfl
end Go.Proofs.YtkeamfdceehliaaGreatDoor

/- Frames (package frame), walked: is it whole; a text's parts. -/
import Derived.Test.YtkeamfdceehliaaGreatDoorFrame4
namespace Go.Proofs.YtkeamfdceehliaaGreatDoor
open Go.RowKit
attribute [local go_sem] BA_size BA_extract BA_append BA_toList

theorem read_any (s : List UInt8) (hm : s.length ≤ 140737488355328) (w : World) :
    Calls Tryz.prog 47 #[.string (BA s)] w fun e w' => e = .returned (.tuple #[rdCell s, .bool (isSec s)]) ∧ Below w.heap.size w w' := by
  by_cases hs : s.length = 64
  · by_cases hb : secLen s ≤ 43
    · exact read_mid s hs hb w
    · have h : isSec s = false := by simp [isSec, hb]
      unfold rdCell
      rw [h]
      exact read_big s hs (by omega) w
  · have h : isSec s = false := by simp [isSec, hs]
    unfold rdCell
    rw [h]
    exact read_len s hs hm w

def isWhole (s : List UInt8) (e n : Int) : Bool := isSec s && (secEp s == e) && (secNo s == n)

theorem whole_any (s : List UInt8) (hm : s.length ≤ 140737488355328) (e n : Int) (w : World) :
    Calls Tryz.prog 48 #[.string (BA s), .int .u64 e, .int .u64 n] w fun r w' => r = .returned (.bool (isWhole s e n)) ∧ Below w.heap.size w w' := by
  have HR := Lib.hid (read_any s hm w)
  have hW : Hid (isWhole s e n = (isSec s && (secEp s == e) && (secNo s == n))) := rfl
  cases hi : isSec s with
  | false =>
    have hrd : rdCell s = cell0 := by unfold rdCell; rw [hi]; rfl
    rw [hrd, hi] at HR
    rw [hi] at hW
    unfold cell0 cellV at HR
    clear hrd hi
    go_enter Tryz.func48, Tryz.ntmps48
    go_wp2_with (go_at_call 47; refine HR.out.mono ?_; rintro r w1 ⟨rfl, hb1⟩)
    go_ret
    refine ⟨retB (by rw [hW.out]; rfl), hb1.alloc (by have := hb1.size; exact this) _⟩
  | true =>
    have hrd : rdCell s = cellV (secPay s) (secEp s) (secNo s) := by unfold rdCell; rw [hi]; rfl
    rw [hrd, hi] at HR
    rw [hi] at hW
    unfold cellV at HR
    clear hrd hi
    obtain ⟨a, ha⟩ : ∃ a, secEp s = a := ⟨_, rfl⟩
    obtain ⟨b, hb⟩ : ∃ b, secNo s = b := ⟨_, rfl⟩
    rw [ha, hb] at HR hW
    clear ha hb
    cases h1 : (a == e) <;> cases h2 : (b == n)
    all_goals
      go_enter Tryz.func48, Tryz.ntmps48
      go_wp2_with (go_at_call 47; refine HR.out.mono ?_; rintro r w1 ⟨rfl, hb1⟩)
      go_ret
      refine ⟨retB (by rw [hW.out, h1, h2]; rfl), hb1.alloc (by have := hb1.size; exact this) _⟩

/-- A text's parts of 43 bytes. -/
def chunksN : Nat → List UInt8 → List (List UInt8)
  | 0, s => [s]
  | k + 1, s => if s.length ≤ 43 then [s] else s.take 43 :: chunksN k (s.drop 43)
def chunks (s : List UInt8) : List (List UInt8) := chunksN s.length s

theorem infoStr : Info Tryz.prog 9 1 16 := info_mk (by kernel_rfl)
theorem undStrs : Tryz.prog.underlying 31 = some (.slice 9) := by kernel_rfl
def strsV (l : List (List UInt8)) : List Value := l.map strV

theorem add_zero0 (b : Nat) : ∀ (j : Nat), (⟨b, 0, none⟩ : Addr).add j = ⟨b, j, none⟩ := by
  intro j
  unfold Addr.add
  split <;> simp_all
theorem Blk.row1 {w : World} {b t : Nat} {v : Value} (h : Blk w b [v] t) : ∀ j u, [v][j]? = some u → w.cell? ((⟨b, 0, none⟩ : Addr).add j) = some u := by
  intro j u hu
  rw [add_zero0, h.cell j]
  exact hu
theorem chunksN_le (k : Nat) (s : List UInt8) (h : s.length ≤ 43) : chunksN k s = [s] := by
  cases k with
  | zero => rfl
  | succ k => unfold chunksN; rw [if_pos h]
theorem chunksN_any : ∀ (k m : Nat) (s : List UInt8), s.length ≤ k → s.length ≤ m → chunksN k s = chunksN m s
  | 0, m, s, hk, hm => by rw [chunksN_le _ _ (by omega), chunksN_le _ _ (by omega)]
  | k + 1, 0, s, hk, hm => by rw [chunksN_le _ _ (by omega), chunksN_le _ _ (by omega)]
  | k + 1, m + 1, s, hk, hm => by
    unfold chunksN
    split
    · rfl
    · rw [chunksN_any k m _ (by simp; omega) (by simp; omega)]
theorem chunksN_gt (k : Nat) (s : List UInt8) (h : 43 < s.length) (hk : s.length ≤ k) : chunksN k s = s.take 43 :: chunksN (s.drop 43).length (s.drop 43) := by
  cases k with
  | zero => omega
  | succ k =>
    rw [chunksN, if_neg (by omega), chunksN_any k _ _ (by simp; omega) (Nat.le_refl _)]

set_option maxRecDepth 100000 in
set_option maxHeartbeats 1000000 in
theorem chunks_ok (s : List UInt8) (hm : s.length ≤ 1000000) (w : World) :
    Calls Tryz.prog 49 #[.string (BA s)] w fun r w' => ∃ v, r = .returned v ∧ w'.ownsRow w.heap.size 9 1 v (chunks s).length (strsV (chunks s)) ∧ Below w.heap.size w w' := by
  go_enter Tryz.func49, Tryz.ntmps49
  go_wp2_with go_step3
  go_loopw [0, 3] (fun sv out wr => ∃ t : List UInt8, ∃ pre : List (List UInt8), sv = .string (BA t) ∧ pre.length + t.length ≤ s.length ∧ chunks s = pre ++ chunks t ∧ wr.ownsRow w.heap.size 9 1 out pre.length (strsV pre) ∧ Fr w.heap.size [] w wr)
    (fun sv _ _ => match sv with | .string b => b.size | _ => 0)
  case atStart => exact ⟨s, [], rfl, by simp, rfl, World.ownsRow_nil _ _ _ _, Fr.refl _ _ _⟩
  case round =>
    obtain ⟨t, pre, rfl, hpl, hch, hown, hbl⟩ := hrel
    have hsz := hbl.size
    have HCH := Lib.hid hch
    clear hch
    have hpm : pre.length ≤ 2000000 := by omega
    by_cases hle : t.length ≤ 43
    · have hle2 : (t.length : Int) ≤ 43 := by omega
      have hownA := hown.alloc (.cells #[.string (BA t)] 9)
      have hblA : Fr w.heap.size [] w (wr.alloc (.cells #[.string (BA t)] 9)) := hbl.alloc _
      have hnw := Lib.hid (Blk.new wr [.string (BA t)] 9)
      go_wp2_with (first
        | (refine wpList_app1 (m := 1) (news := [.string (BA t)]) rfl rfl undStrs infoStr (by omega) rfl hownA rfl rfl hnw.out.row1 (by simp [Value.oneCell']) (by unfold maxLen; omega) (by omega) (by simp; omega) ?_; intro v2 w2 hv2 hg2)
        | go_step3)
      simp only [Exit.noGoto]
      go_ret
      have he : chunks s = pre ++ [t] := by rw [HCH.out]; unfold chunks; rw [chunksN_le _ _ hle]
      refine ⟨v2, by simp, ?_, Below.of_fr (hblA.grown hg2 (fun g hg => .inl (hown.lt g hg).1)) (Nat.le_refl _)⟩
      rw [he]
      simpa [strsV, strV] using hv2
    · have hle2 : (43 : Int) < t.length := by omega
      have hownA := hown.alloc (.cells #[.string (BA (t.take 43))] 9)
      have hblA : Fr w.heap.size [] w (wr.alloc (.cells #[.string (BA (t.take 43))] 9)) := hbl.alloc _
      have hnw := Lib.hid (Blk.new wr [.string (BA (t.take 43))] 9)
      go_wp2_with (first
        | (refine wpList_app1 (m := 1) (news := [.string (BA (t.take 43))]) rfl rfl undStrs infoStr (by omega) rfl hownA rfl rfl hnw.out.row1 (by simp [Value.oneCell']) (by unfold maxLen; omega) (by omega) (by simp; omega) ?_; intro v2 w2 hv2 hg2)
        | go_step3)
      go_roundw
      case rel =>
        refine ⟨t.drop 43, pre ++ [t.take 43], ?_, by simp; omega, ?_, ?_, hblA.grown hg2 (fun g hg => .inl (hown.lt g hg).1)⟩
        · simp
        · rw [HCH.out]
          unfold chunks
          rw [chunksN_gt _ _ (by omega) (Nat.le_refl _)]
          simp
        · simpa [strsV, strV] using hv2
      case measure => simp [BA_size]; omega
end Go.Proofs.YtkeamfdceehliaaGreatDoor

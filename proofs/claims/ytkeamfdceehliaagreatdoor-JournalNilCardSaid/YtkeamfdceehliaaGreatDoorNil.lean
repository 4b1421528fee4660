/- The journal: of what may not be, none. -/
import Derived.Test.YtkeamfdceehliaaGreatDoorLaw
namespace Go.Proofs.YtkeamfdceehliaaGreatDoor
open Go.RowKit
attribute [local go_sem] BA_size BA_extract BA_append BA_toList

structure PtrAny (w : World) (e : Ending) (w' : World) : Prop where
  out : (∃ p, e = .returned (.pointer p)) ∧ Below w.heap.size w w'

theorem wal_any {B d sb : Nat} {osl : Value} {D : Dk} {w : World} (hD : DiskIn B w d sb osl D) (at_ n : Int) :
    Calls Tryz.prog 34 #[dp d, .int .i64 at_, .int .i64 n] w (PtrAny w) := by
  have hl := Lib.hid (len_in hD)
  by_cases h0 : at_ < 0
  · go_enter Tryz.func34, Tryz.ntmps34
    go_wp2_with (go_at_call 35; refine hl.out.mono ?_; rintro e w' ⟨rfl, rfl⟩)
    all_goals (go_ret; exact ⟨⟨_, rfl⟩, Below.refl _ _⟩)
  · by_cases h1 : n < 1
    · go_enter Tryz.func34, Tryz.ntmps34
      go_wp2_with (go_at_call 35; refine hl.out.mono ?_; rintro e w' ⟨rfl, rfl⟩)
      all_goals (go_ret; exact ⟨⟨_, rfl⟩, Below.refl _ _⟩)
    · go_enter Tryz.func34, Tryz.ntmps34
      go_wp2_with (go_at_call 35; refine hl.out.mono ?_; rintro e w' ⟨rfl, rfl⟩)
      all_goals first
        | (go_ret; exact ⟨⟨_, rfl⟩, Below.refl _ _⟩)
        | (go_ret; exact ⟨⟨_, rfl⟩, (Below.refl _ _).alloc (Nat.le_refl _) _⟩)

theorem made_no {B d sb : Nat} {osl : Value} {D : Dk} {w : World} (hD : DiskIn B w d sb osl D) (k : Int) (hk : k < 1 ∨ 64 < k ∨ (D.secs.length : Int) ≤ 2 * k) :
    Calls Tryz.prog 21 #[dp d, .int .i64 k] w fun e w' => e = .returned (.pointer none) ∧ Below w.heap.size w w' := by
  have hmany := hD.many
  have hl := Lib.hid (len_in hD)
  by_cases hn : k < 1 ∨ 64 < k ∨ (D.secs.length : Int) < 2 * k
  · have hS := Lib.hid (slots_no hD k hn)
    have hW := Lib.hid (fun a b => wal_any hD a b)
    clear hn hk
    go_enter Tryz.func21, Tryz.ntmps21
    go_wp2_with (first
      | (go_at_call 33; refine hS.out.mono ?_; rintro e w' ⟨rfl, rfl⟩)
      | (go_at_call 35; refine hl.out.mono ?_; rintro e w' ⟨rfl, rfl⟩)
      | (go_at_call 34; refine (hW.out _ _).mono ?_; rintro e w2 ⟨⟨p, rfl⟩, hb2⟩))
    go_ret
    exact ⟨rfl, hb2⟩
  · obtain ⟨m, rfl⟩ : ∃ m : Nat, k = m := ⟨k.toNat, by omega⟩
    have hS := Lib.hid (slots_ok hD m (by omega) (by omega) (by omega))
    have hD2 := hD.keep (w' := w.alloc (.cells (slotsV d 0 m false 0 (-1)).toArray TSlots)) (fun k c t hk => (Below.heap_alloc _ _ _ (lt_of_get hk)).trans hk)
    have hW := wal_no hD2 (2 * (m : Int)) 0 (by omega) (by omega)
    have hl := Lib.hid (len_in hD2)
    have hW := Lib.hid hW
    have he : (D.secs.length : Int) - 2 * (m : Int) = 0 := by omega
    have hm1 : 1 ≤ (m : Int) := by omega
    have hm2 : (m : Int) ≤ 64 := by omega
    have hE := Lib.hid he
    clear hn hk he
    go_enter Tryz.func21, Tryz.ntmps21
    go_wp2_with (first
      | (go_at_call 33; refine hS.out.mono ?_; rintro e w' ⟨rfl, rfl⟩)
      | (go_at_call 35; refine hl.out.mono ?_; rintro e w' ⟨rfl, rfl⟩)
      | (go_at_call 34; rw [hE.out]; refine hW.out.mono ?_; rintro e w' ⟨rfl, rfl⟩))
    go_ret
    exact ⟨rfl, (Below.refl _ _).alloc (Nat.le_refl _) _⟩

theorem open_no {B d sb : Nat} {osl : Value} {D : Dk} {w : World} (hD : DiskIn B w d sb osl D) (k : Int) (hk : k < 1 ∨ 64 < k ∨ (D.secs.length : Int) ≤ 2 * k) :
    Calls Tryz.prog 12 #[dp d, .int .i64 k] w fun r w' => r = .returned (.tuple #[.pointer none, .agg #[.string ⟨#[]⟩, .slice none 0 0], .int .i64 1]) ∧ Below w.heap.size w w' := by
  have hD2 := hD.keep (w' := w.alloc (.cells #[.string ⟨#[]⟩, .slice none 0 0] TFound)) (fun k c t hk => (Below.heap_alloc _ _ _ (lt_of_get hk)).trans hk)
  have hM := Lib.hid (made_no hD2 k hk)
  clear hk
  have hF := Blk.new w [.string ⟨#[]⟩, .slice none 0 0] TFound
  go_enter Tryz.func12, Tryz.ntmps12
  go_wp2_with (go_at_call 21; refine hM.out.mono ?_; rintro r w2 ⟨rfl, hb2⟩
               have hF2 := hF.below hb2 (by simp)
               have z0 := hF2.cell 0
               have z1 := hF2.cell 1
               have y0 := hF2.free 0
               have y1 := hF2.free 1
               simp only [List.getElem?_cons_zero, List.getElem?_cons_succ] at z0 z1)
  refine bodyPost_ret (v := .tuple #[.pointer none, .agg #[.string ⟨#[]⟩, .slice none 0 0], .int .i64 1]) (by simp [results, Tryz.results12, go_sem, z0, z1]) rfl ⟨rfl, ?_⟩
  have hb : Below w.heap.size w w2 := ((Below.refl _ _).alloc (Nat.le_refl _) _).trans (hb2.mono (by simp))
  exact (hb.setCell (Nat.le_refl _) _).setCell (Nat.le_refl _) _

theorem format_no {B d sb : Nat} {osl : Value} {D : Dk} {w : World} (hD : DiskIn B w d sb osl D) (k : Int) (s : Value) (hk : k < 1 ∨ 64 < k ∨ (D.secs.length : Int) ≤ 2 * k) :
    Calls Tryz.prog 9 #[dp d, .int .i64 k, s] w fun r w' => r = .returned (.tuple #[.pointer none, .int .i64 1]) ∧ Below w.heap.size w w' := by
  have hM := Lib.hid (made_no hD k hk)
  clear hk
  go_enter Tryz.func9, Tryz.ntmps9
  go_wp2_with (go_at_call 21; refine hM.out.mono ?_; rintro r w2 ⟨rfl, hb2⟩)
  go_ret2
  exact ⟨rfl, hb2⟩
theorem format_nil (s : Value) (w : World) :
    Calls Tryz.prog 9 #[.pointer none, .int .i64 1, s] w fun r w' => r = .returned (.tuple #[.pointer none, .int .i64 1]) ∧ w = w' := by
  have hM := Lib.hid (made_nil w)
  go_enter Tryz.func9, Tryz.ntmps9
  go_wp2_with (go_at_call 21; refine hM.out.mono ?_; rintro r w2 ⟨rfl, rfl⟩)
  go_ret2
  exact ⟨rfl, rfl⟩
/-- Open of an empty disk. -/
theorem open_zero {B d sb k n : Nat} {osl : Value} {D : Dk} {w : World} (hD : DiskIn B w d sb osl D) (hs : D.secs = List.replicate (2 * k + n) Dk.zsec) (hop : D.opens = []) (hf : D.fail = 0) (hB : B ≤ w.heap.size) (h1 : 1 ≤ k) (h2 : k ≤ 64) (h3 : 1 ≤ n) :
    Calls Tryz.prog 12 #[dp d, .int .i64 k] w fun r w' => r = .returned (.tuple #[.pointer none, .agg #[.string ⟨#[]⟩, .slice none 0 0], .int .i64 12]) ∧ (∃ osl', DiskIn B w' d sb osl' (readsN (2 * k) D)) ∧ Fr B TJs w w' := by
  have hfl : flushed D = D := by
    cases D
    simp only at hop hf
    subst hop hf
    rfl
  have hrd := zero_read k n D hs h1 hf hop
  have hop : opAll k n D = (12, readsN (2 * k) D) := by
    unfold opAll
    rw [if_neg (by simp [bad0 hf]), hfl, hrd]
    simp only
    rw [if_neg (by simp), if_pos trivial]
  refine open_all hD hB h1 h2 h3 (by rw [hs]; simp) _ ⟨?_, ?_⟩
  · intro w' er osl' her hop2 hd' hfr
    rw [hop] at hop2 hd'
    obtain ⟨rfl, _⟩ := Prod.mk.inj hop2
    exact ⟨rfl, ⟨osl', hd'⟩, hfr.mono (Nat.le_refl _) (by simp)⟩
  · intro w' j b s v hop2 _ _ _ _ _
    rw [hop] at hop2
    exact absurd (Prod.mk.inj hop2).1 (by decide)
end Go.Proofs.YtkeamfdceehliaaGreatDoor

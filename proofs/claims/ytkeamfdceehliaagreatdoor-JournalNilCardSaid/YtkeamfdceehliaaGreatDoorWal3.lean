/- The log: record, Scan. -/
import Derived.Test.YtkeamfdceehliaaGreatDoorWal2
namespace Go.Proofs.YtkeamfdceehliaaGreatDoor
open Go.RowKit
attribute [local go_sem] BA_size BA_extract BA_append BA_toList

/-- What a record says: the text, whether there is one, the error. -/
def rcVal (a : Nat) (e : Int) (i : Nat) (D : Dk) : List UInt8 × Bool × Int :=
  if D.bad then ([], false, 18) else if isWhole (D.cur (a + i)) e i then (secPay (D.cur (a + i)), true, 0) else ([], false, 0)

theorem isWhole_sec {x : List UInt8} {e n : Int} (h : isWhole x e n = true) : isSec x = true := by
  unfold isWhole at h
  simp only [Bool.and_eq_true] at h
  exact h.1.1

set_option maxHeartbeats 4000000 in
theorem record_ok {B d sb b at_ n i : Nat} {osl : Value} {D : Dk} {w : World} {st : Option (Int × Nat)} {e : Int} (hD : DiskIn B w d sb osl D) (hL : Blk w b (logV d at_ n st) TLog) (hlen : at_ + i < D.secs.length) :
    Calls Tryz.prog 43 #[dp b, .int .u64 e, .int .i64 i] w fun r w' =>
      r = .returned (.tuple #[.string (BA (rcVal at_ e i D).1), .bool (rcVal at_ e i D).2.1, .int .i64 (rcVal at_ e i D).2.2]) ∧ DiskIn B w' d sb osl D.readN.tick ∧ Fr B [TDisk] w w' := by
  have hmany := hD.many
  have hRd := read_there hD.drew (at_ + i) hlen
  have hcl := hD.cur_len (i := at_ + i) hlen
  have c0 := hL.drew.cell 0
  have c1 := hL.drew.cell 1
  simp only [logV, List.getElem?_cons_zero, List.getElem?_cons_succ] at c0 c1
  have hw1 := wrap1 at_ i (by omega)
  obtain ⟨x, hx⟩ : ∃ x, D.cur (at_ + i) = x := ⟨_, rfl⟩
  have hV : rcVal at_ e i D = if D.bad then ([], false, 18) else if isWhole x e i then (secPay x, true, 0) else ([], false, 0) := by unfold rcVal; rw [hx]
  rw [hV]
  rw [hx] at hRd hcl
  clear hV hx
  have hFd : Fr B [TDisk] w w.drew := (Fr.refl _ _ _).drew
  rw [show (((at_ + i : Nat) : Int)) = (at_ : Int) + (i : Int) by simp] at hRd
  cases hbd : D.bad with
  | true =>
    simp only [hbd, if_true] at hRd ⊢
    unfold strV at hRd
    have HR := Lib.hid hRd
    clear hRd hbd
    go_enter Tryz.func43, Tryz.ntmps43
    go_wp2
    go_region_with (go_at_call 52; refine HR.out.mono ?_; rintro r w1 ⟨rfl, hD1, hF1⟩)
    all_goals
      go_wp2
      refine bodyPost_ret (v := .tuple #[.string (BA []), .bool false, .int .i64 18]) (by simp [results, Tryz.results43, go_sem]; rfl) rfl ⟨rfl, hD1, hFd.trans hF1⟩
  | false =>
    simp only [hbd, Bool.false_eq_true, if_false] at hRd ⊢
    unfold strV at hRd
    have HR := Lib.hid hRd
    have HW := Lib.hid (fun w => whole_any x (by omega) e (i : Int) w)
    have HC := Lib.hid (fun w => read_any x (by omega) w)
    clear hRd hbd
    cases hiw : isWhole x e (i : Int) with
    | false =>
      rw [hiw] at HW
      simp only [Bool.false_eq_true, if_false]
      clear hiw
      go_enter Tryz.func43, Tryz.ntmps43
      go_wp2
      go_region_with (go_at_call 52; refine HR.out.mono ?_; rintro r w1 ⟨rfl, hD1, hF1⟩)
      all_goals
        go_wp2_with (go_at_call 48; refine (HW.out _).mono ?_; rintro r w2 ⟨rfl, hb2⟩)
        refine bodyPost_ret (v := .tuple #[.string (BA []), .bool false, .int .i64 0]) (by simp [results, Tryz.results43, go_sem]; rfl) rfl ⟨rfl, hD1.keep (fun k c t hk => (hb2.block k (lt_of_get hk)).trans hk), (hFd.trans hF1).trans (Fr.of_below hb2)⟩
    | true =>
      have his := isWhole_sec hiw
      have hrc : rdCell x = cellV (secPay x) (secEp x) (secNo x) := by unfold rdCell; rw [his]; rfl
      rw [hrc] at HC
      unfold cellV at HC
      rw [hiw] at HW
      simp only [if_true]
      obtain ⟨ce, hce⟩ : ∃ ce, secEp x = ce := ⟨_, rfl⟩
      obtain ⟨cn, hcn⟩ : ∃ cn, secNo x = cn := ⟨_, rfl⟩
      rw [hce, hcn] at HC
      clear hiw his hrc hce hcn
      go_enter Tryz.func43, Tryz.ntmps43
      go_wp2
      go_region_with (go_at_call 52; refine HR.out.mono ?_; rintro r w1 ⟨rfl, hD1, hF1⟩)
      all_goals
        go_wp2_with (first
          | (go_at_call 48; refine (HW.out _).mono ?_; rintro r w2 ⟨rfl, hb2⟩)
          | (go_at_call 47; refine (HC.out _).mono ?_; rintro r w3 ⟨rfl, hb3⟩
             have hN := (Blk.new w3 [.string (BA (secPay x)), .int .u64 ce, .int .u64 cn] 104).cell 0
             simp only [List.getElem?_cons_zero] at hN))
        refine bodyPost_ret (v := .tuple #[.string (BA (secPay x)), .bool true, .int .i64 0]) (by simp [results, Tryz.results43, go_sem]) rfl ⟨rfl, ?_, ?_⟩
        · have hbz := hb2.trans (hb3.mono hb2.size)
          exact (hD1.keep (fun k c t hk => (hbz.block k (lt_of_get hk)).trans hk)).keep (fun k c t hk => (Below.heap_alloc _ _ _ (lt_of_get hk)).trans hk)
        · exact ((hFd.trans hF1).trans (Fr.of_below (hb2.trans (hb3.mono hb2.size)))).alloc _
end Go.Proofs.YtkeamfdceehliaaGreatDoor

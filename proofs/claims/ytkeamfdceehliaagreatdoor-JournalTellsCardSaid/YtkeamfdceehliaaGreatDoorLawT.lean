/- JournalTells, walked. -/
import Derived.Test.YtkeamfdceehliaaGreatDoorLaw3
namespace Go.Proofs.YtkeamfdceehliaaGreatDoor
open Go.RowKit
attribute [local go_sem] BA_size BA_extract BA_append BA_toList

/-- How far the tries have come. -/
structure TellR (w : World) (d j wb e : Nat) (i : Nat) (ops : List (List UInt8)) (data : List UInt8) (v : Value) (wr : World) : Prop where
  jr : ∃ D jj, Jrn w.heap.size wr d j 2 5 D e e jj data ops ∧ D.fail = 0
  le : e ≤ 1 + i
  blk : Blk wr wb [.string (BA data), v] TFound
  bb : w.heap.size ≤ wb
  own : wr.ownsRow w.heap.size 9 1 v ops.length (strsV ops)
  few : ops.length ≤ 5
  fr : Below w.heap.size w wr

theorem TellR.keep {w wr w' : World} {d j wb e i : Nat} {ops : List (List UInt8)} {data : List UInt8} {v : Value} (h : TellR w d j wb e i ops data v wr) (hf : Fr w.heap.size [] wr w') : TellR w d j wb e i ops data v w' := by
  obtain ⟨⟨D, jj, hj, hz⟩, hle, hb, hbb, ho, hfw, hr⟩ := h
  exact ⟨⟨D, jj, hj.fr hf (by simp) (by simp) (by simp) (by simp) (by simp) (by simp), hz⟩, hle, hb.fr hf (by simp), hbb, owns_fr ho hf (by simp), hfw, hr.trans (hf.low hr.size)⟩

set_option maxHeartbeats 4000000 in
set_option maxRecDepth 100000 in
theorem tells_ok (v0 : Value) (l : List TryM) (w : World) (hl : TriesAt w v0 l) : Calls Tryz.prog 4 #[v0] w fun r w' => r = .returned (.bool true) ∧ Below w.heap.size w w' := by
  obtain ⟨⟨a, cap, rfl, hT⟩, hfew⟩ := hl
  have HT := Lib.hid hT
  clear hT
  have hAw := Lib.hid (fun w1 => awake_ok w1)
  go_enter Tryz.func4, Tryz.ntmps4
  go_wp2_with fail
  refine (hAw.out _).mono ?_
  rintro r w0 ⟨rfl, hb0⟩
  have hN := Lib.hid (new_ok w.heap.size 9 (by omega) (by omega) w0 hb0.size)
  go_wp2_with fail
  refine hN.out.mono ?_
  rintro r w1 ⟨d, sb, rfl, hd1, hf1⟩
  have hF := Lib.hid (jr_format (k := 2) (n := 5) (data := []) hd1 rfl rfl rfl (Nat.le_trans hb0.size hf1.size) (by omega) (by omega) (by omega) (by omega) (by simp))
  go_wp2_with fail
  refine hF.out.mono ?_
  rintro r w2 ⟨j, D2, rfl, hj2, hz2, hf2⟩
  have hb2 : Below w.heap.size w w2 := Below.of_fr (((Fr.of_below (B := w.heap.size) (ts := TJs) hb0).trans (hf1.mono (Nat.le_refl _) (by simp))).trans hf2) (Nat.le_refl _)
  have hj3 := hj2.fr (w' := w2.alloc (.cells #[.string ⟨#[]⟩, .slice none 0 0] TFound)) ((Fr.refl w.heap.size [] w2).alloc _) (by simp) (by simp) (by simp) (by simp) (by simp) (by simp)
  obtain ⟨b3, s3, hJ3⟩ := hj3.jr
  have hE := epoch_in hJ3.pj
  have HE := Lib.hid hE
  have hR0 : TellR w d j w2.heap.size 1 0 [] [] (.slice none 0 0) (w2.alloc (.cells #[.string ⟨#[]⟩, .slice none 0 0] TFound)) :=
    ⟨⟨D2, 0, hj3, hz2⟩, by omega, Blk.new _ _ _, hb2.size, World.ownsRow_nil _ _ _ _, by simp, hb2.alloc hb2.size _⟩
  clear hE hz2
  go_wp2_with (go_at_call 14; refine HE.out.mono ?_; rintro r w3 ⟨rfl, rfl⟩)
  obtain ⟨wb, hwb⟩ : ∃ wb, w2.heap.size = wb := ⟨_, rfl⟩
  rw [hwb] at hR0 ⊢
  clear hwb
  have HR0 := Lib.hid hR0
  go_loopw [8, 9] (fun ep i wr => ∃ (e x : Nat) (ops : List (List UInt8)) (data : List UInt8) (v : Value), ep = .int .u64 e ∧ i = .int .i64 x ∧ x ≤ l.length ∧ x ≤ 20 ∧ TellR w d j wb e x ops data v wr) (fun _ i _ => 20 - (intOf i).toNat)
  case atStart => exact ⟨1, 0, [], [], _, rfl, rfl, by omega, by omega, HR0.out⟩
  case round =>
    obtain ⟨e, x, ops, data, v, rfl, rfl, hx, hx20, hR⟩ := hrel
    clear hR0 hj2 hj3 hJ3
    by_cases hlt : x < l.length ∧ x < 20
    · obtain ⟨hlt1, hlt2⟩ := hlt
      obtain ⟨t, ht⟩ : ∃ t, l[x]? = some t := ⟨_, List.getElem?_eq_getElem hlt1⟩
      obtain ⟨b, o, fv, rfl, hta⟩ := HT.out x t ht
      have hta := hta.below hR.fr
      clear ht
      obtain ⟨fa, fc, hfv⟩ : ∃ fa fc, fv = .slice fa t.fates.length fc := by obtain ⟨⟨fa, fc, h, _⟩, _⟩ := hta.fates; exact ⟨fa, fc, h⟩
      subst hfv
      have q0 := hta.c0
      have q1 := hta.c1
      have q2 := hta.c2
      have q3 := hta.c3
      have q4 := hta.c4
      have q5 := hta.c5
      have z0 := hR.blk.cell 0
      have z1 := hR.blk.cell 1
      have y0 := hR.blk.free 0
      have y1 := hR.blk.free 1
      simp only [List.getElem?_cons_zero, List.getElem?_cons_succ] at z0 z1
      obtain ⟨sn, hsn⟩ : ∃ sn, t.snaps = sn := ⟨_, rfl⟩
      rw [hsn] at q0
      clear hsn
      cases sn with
      | true =>
        have hSh := Lib.hid (fun W => short_any t.text 86 hta.text (by omega) W)
        go_wp2_with fail
        refine (hSh.out _).mono ?_
        rintro r w3 ⟨rfl, hw3⟩
        have hR3 := hR.keep ((Fr.refl w.heap.size [] wr).alloc (.cells #[.bool true, .bool t.crashes, .bool t.twice, .string (BA t.text), .int .i64 t.fail, .slice fa t.fates.length fc] 43))
        rw [hw3] at hR3
        clear hw3 z0 z1 y0 y1 q0 q1 q2 q3 q4 q5 hta hR
        have z0 := hR3.blk.cell 0
        have z1 := hR3.blk.cell 1
        have y0 := hR3.blk.free 0
        have y1 := hR3.blk.free 1
        simp only [List.getElem?_cons_zero, List.getElem?_cons_succ] at z0 z1
        go_wp2_with fail
        obtain ⟨⟨D, jj, hj3, hz3⟩, hle, hblk, hbb, -, -, hlo⟩ := hR3
        have hf4 : Fr w.heap.size [TFound] w3 ((w3.setCell ⟨wb, 0, none⟩ (.string (BA (t.text.take 86)))).setCell ⟨wb, 1, none⟩ (.slice none 0 0)) := ((Fr.refl _ _ _).setB hbb hblk (by simp) _).setB hbb hblk (by simp) _
        have hj4 := hj3.fr hf4 (by decide) (by decide) (by decide) (by decide) (by decide) (by decide)
        have hblk4 := (hblk.set 0 (.string (BA (t.text.take 86)))).set 1 (.slice none 0 0)
        simp only [List.set_cons_zero, List.set_cons_succ] at hblk4
        refine (jr_snapshot hj4 hz3 (by omega) (by simp; omega)).mono ?_
        rintro r w5 ⟨D5, rfl, hj5, hz5, hf5⟩
        have hblk5 := hblk4.fr hf5 (by decide)
        obtain ⟨b5, s5, hJ5⟩ := hj5.jr
        have hE5 := Lib.hid (epoch_in hJ5.pj)
        have hR5 : TellR w d j wb (e + 1) (x + 1) [] (t.text.take 86) (.slice none 0 0) w5 := ⟨⟨D5, _, hj5, hz5⟩, by omega, hblk5, hbb, World.ownsRow_nil _ _ _ _, by simp, (hlo.trans (hf4.low hlo.size)).trans (hf5.low (by have := hlo.size; have := hf4.size; omega))⟩
        have he64 : e < 1000 := by omega
        clear hz3 hz5
        go_wp2_with (go_at_call 14; refine hE5.out.mono ?_; rintro r w6 ⟨rfl, rfl⟩)
        have hlt5 := hblk5.lt
        have hG := Lib.hid (good_in (hJ5.pj.drew))
        have hL := left_in (hJ5.pj.drew) (hJ5.pl.drew) (by omega) (by simp [stN])
        rw [show walLeft 5 (some (((e + 1 : Nat) : Int), ([] : List (List UInt8)).length)) = 5 from rfl] at hL
        have hL := Lib.hid hL
        have hB5 := Lib.hid (hblk5.drew)
        have z1 := hblk5.cell 1
        simp only [List.getElem?_cons_zero, List.getElem?_cons_succ] at z1
        go_region_with (first
          | (go_at_call 17; refine hG.out.mono ?_; rintro r w7 ⟨rfl, rfl⟩)
          | (go_at_call 18; refine hL.out.mono ?_; rintro r w8 ⟨rfl, hb8⟩; have z1 := (hB5.out.below hb8 hlt5).cell 1; simp only [List.getElem?_cons_zero, List.getElem?_cons_succ] at z1))
        all_goals
          go_wp2
          exact ⟨⟨e + 1, x + 1, [], _, _, by go_num, by go_num, by omega, by omega, hR5.keep ((Fr.refl _ _ _).drew.trans (Fr.of_below hb8))⟩, by simp [intOf]; omega⟩
      | false =>
        have hSh := Lib.hid (fun W => short_any t.text 43 hta.text (by omega) W)
        go_wp2_with fail
        refine (hSh.out _).mono ?_
        rintro r w3 ⟨rfl, hw3⟩
        have hR3 := hR.keep ((Fr.refl w.heap.size [] wr).alloc (.cells #[.bool false, .bool t.crashes, .bool t.twice, .string (BA t.text), .int .i64 t.fail, .slice fa t.fates.length fc] 43))
        rw [hw3] at hR3
        clear hw3 z0 z1 y0 y1 q0 q1 q2 q3 q4 q5 hta hR
        obtain ⟨s, hs⟩ : ∃ s, t.text.take 43 = s := ⟨_, rfl⟩
        have hsl : s.length ≤ 43 := by rw [← hs]; simp; omega
        rw [hs]
        clear hs
        obtain ⟨⟨D, jj, hj3, hz3⟩, hle, hblk, hbb, hown, hfw5, hlo⟩ := hR3
        obtain ⟨-, va, vc, rfl, -⟩ := owns_cell hown
        by_cases hop : ops.length = 5
        · have hA := Lib.hid (jr_append_full hj3 hop hsl)
          have HOP := Lib.hid hop
          have HZ := Lib.hid hz3
          clear hop hz3
          go_wp2_with fail
          refine hA.out.mono ?_
          rintro r w5 ⟨rfl, hj5, hf5⟩
          have hblk5 := hblk.fr hf5 (by decide)
          have hlo5 := hlo.trans (hf5.low hlo.size)
          have hR5 : TellR w d j wb e (x + 1) ops data (.slice va ops.length vc) w5 := ⟨⟨D, jj, hj5, HZ.out⟩, by omega, hblk5, hbb, owns_fr hown hf5 (by decide), hfw5, hlo5⟩
          have z1 := hblk5.cell 1
          simp only [List.getElem?_cons_zero, List.getElem?_cons_succ] at z1
          have hb5 : ((ops.length : Int) == 5) = true := by rw [beq_iff_eq]; have := HOP.out; omega
          go_wp2_with fail
          clear z1 hb5
          obtain ⟨b5, s5, hJ5⟩ := hj5.jr
          have hlt5 := hblk5.lt
          have hG := Lib.hid (good_in (hJ5.pj.drew))
          have hL := left_in (hJ5.pj.drew) (hJ5.pl.drew) (by omega) (by simp only [stN]; omega)
          rw [show walLeft 5 (some ((e : Int), ops.length)) = (5 : Int) - (ops.length : Int) from rfl] at hL
          have hL := Lib.hid hL
          have hB5 := Lib.hid (hblk5.drew)
          have z1 := hblk5.cell 1
          simp only [List.getElem?_cons_zero, List.getElem?_cons_succ] at z1
          obtain ⟨L, hLL⟩ : ∃ L, ops.length = L := ⟨_, rfl⟩
          rw [hLL] at z1 hL hB5
          have hL5 : L ≤ 5 := by omega
          have hwr : IntKind.i64.wrap (5 - (L : Int)) = 5 - (L : Int) := by rw [IntKind.wrap_i64]; omega
          have HLL := Lib.hid hLL
          clear hLL
          go_region_with (first
            | (go_at_call 17; refine hG.out.mono ?_; rintro r w7 ⟨rfl, rfl⟩)
            | (go_at_call 18; refine hL.out.mono ?_; rintro r w8 ⟨rfl, hb8⟩; have z1 := (hB5.out.below hb8 hlt5).cell 1; simp only [List.getElem?_cons_zero, List.getElem?_cons_succ] at z1))
          all_goals
            go_wp2
            exact ⟨⟨e, x + 1, ops, _, _, rfl, by go_num, by omega, by omega, (hR5).keep ((Fr.refl _ _ _).drew.trans (Fr.of_below hb8))⟩, by simp [intOf]; omega⟩
        · have hA := Lib.hid (jr_append hj3 hz3 (by omega) hsl)
          clear hz3
          have hop4 : ops.length < 5 := by omega
          clear hop
          go_wp2_with fail
          refine hA.out.mono ?_
          rintro r w5 ⟨D5, rfl, hj5, hz5, hf5⟩
          have hblk5 := hblk.fr hf5 (by decide)
          have hlo5 := hlo.trans (hf5.low hlo.size)
          have hown5 := owns_fr hown hf5 (by decide)
          have HZ := Lib.hid hz5
          clear hz5
          have z1 := hblk5.cell 1
          simp only [List.getElem?_cons_zero, List.getElem?_cons_succ] at z1
          have hb5 : ((ops.length : Int) == 5) = false := beq_eq_false_iff_ne.2 (by omega)
          have hown6 := hown5.alloc (.cells #[.string (BA s)] 9)
          have hnw := Lib.hid (Blk.new w5 [.string (BA s)] 9)
          have hblk6 := hblk5.alloc (.cells #[.string (BA s)] 9)
          have hs5 := hlo5.size
          go_wp2_with (first
            | (refine wpList_app1 (m := 1) (news := [.string (BA s)]) rfl rfl undStrs infoStr (by omega) rfl hown6 rfl rfl hnw.out.row1 (by simp [Value.oneCell']) (by unfold maxLen; omega) (by omega) (by simp; omega) ?_; intro v2 w6 hv2 hg2
               have hf6 := owns_grown hown6 hg2
               have hblk7 := hblk6.fr hf6 (by decide)
               have z1 := hblk7.cell 1
               have y1 := hblk7.free 1
               simp only [List.getElem?_cons_zero, List.getElem?_cons_succ] at z1
               have hvf : ∃ va2 vc2, v2 = .slice va2 (ops.length + 1) vc2 := by
                 rcases hv2.2 with ⟨h1, h2⟩ | ⟨_, _, _, h1, _⟩
                 · exact absurd h2 (by omega)
                 · exact ⟨_, _, h1⟩
               obtain ⟨va2, vc2, rfl⟩ := hvf))
          have hf56 : Fr w.heap.size [9] w5 w6 := ((Fr.refl _ _ _).alloc _).trans hf6
          have hf7 : Fr w.heap.size [TFound] w6 (w6.setCell ⟨wb, 1, none⟩ (.slice va2 (ops.length + 1) vc2)) := (Fr.refl _ _ _).setB hbb hblk7 (by simp) _
          have hj6 := (hj5.fr hf56 (by decide) (by decide) (by decide) (by decide) (by decide) (by decide)).fr hf7 (by decide) (by decide) (by decide) (by decide) (by decide) (by decide)
          have hblk8 := hblk7.set 1 (.slice va2 (ops.length + 1) vc2)
          simp only [List.set_cons_zero, List.set_cons_succ] at hblk8
          have hown8 := owns_fr hv2 hf7 (by decide)
          have hlo7 := (hlo5.trans (hf56.low hs5)).trans (hf7.low (by have := hf56.size; omega))
          obtain ⟨w9, hw9⟩ : ∃ w9, w6.setCell ⟨wb, 1, none⟩ (.slice va2 (ops.length + 1) vc2) = w9 := ⟨_, rfl⟩
          rw [hw9] at hj6 hblk8 hown8 hlo7 ⊢
          clear hw9 hf7
          obtain ⟨ops2, ho2⟩ : ∃ ops2, ops ++ [s] = ops2 := ⟨_, rfl⟩
          have ho2l : ops2.length = ops.length + 1 := by rw [← ho2]; simp
          have ho2s : strsV ops ++ [.string (BA s)] = strsV ops2 := by rw [← ho2]; simp [strsV, strV]
          rw [ho2] at hj6
          rw [ho2s, ← ho2l] at hown8
          rw [← ho2l] at hblk8
          have hR5 : TellR w d j wb e (x + 1) ops2 data (.slice va2 ops2.length vc2) w9 := ⟨⟨D5, jj, hj6, HZ.out⟩, by omega, hblk8, hbb, hown8, by omega, hlo7⟩
          have hops2 : ops2.length ≤ 5 := by omega
          have HO := Lib.hid ho2l
          clear ho2 ho2s ho2l z1 hb5 y1
          obtain ⟨b5, s5, hJ5⟩ := hj6.jr
          have hlt5 := hblk8.lt
          have hG := Lib.hid (good_in (hJ5.pj.drew))
          have hL := left_in (hJ5.pj.drew) (hJ5.pl.drew) (by omega) (by simp only [stN]; omega)
          rw [show walLeft 5 (some ((e : Int), ops2.length)) = (5 : Int) - (ops2.length : Int) from rfl] at hL
          have hL := Lib.hid hL
          have hB5 := Lib.hid (hblk8.drew)
          have z1 := hblk8.cell 1
          simp only [List.getElem?_cons_zero, List.getElem?_cons_succ] at z1
          obtain ⟨L, hLL⟩ : ∃ L, ops2.length = L := ⟨_, rfl⟩
          rw [hLL] at z1 hL hB5
          have hL5 : L ≤ 5 := by omega
          have hwr : IntKind.i64.wrap (5 - (L : Int)) = 5 - (L : Int) := by rw [IntKind.wrap_i64]; omega
          have HLL := Lib.hid hLL
          clear hLL
          go_region_with (first
            | (go_at_call 17; refine hG.out.mono ?_; rintro r w7 ⟨rfl, rfl⟩)
            | (go_at_call 18; refine hL.out.mono ?_; rintro r w8 ⟨rfl, hb8⟩; have z1 := (hB5.out.below hb8 hlt5).cell 1; simp only [List.getElem?_cons_zero, List.getElem?_cons_succ] at z1))
          all_goals
            go_wp2
            exact ⟨⟨e, x + 1, ops2, _, _, rfl, by go_num, by omega, by omega, (hR5).keep ((Fr.refl _ _ _).drew.trans (Fr.of_below hb8))⟩, by simp [intOf]; omega⟩
    · obtain ⟨⟨D, jj, hj3, hz3⟩, hle, hblk, hbb, hown, hfw5, hlo⟩ := hR
      obtain ⟨-, va, vc, rfl, -⟩ := owns_cell hown
      obtain ⟨⟨sb3, osl3, hd3⟩, ho3, hi3, _⟩ := hj3
      have hi4 : Inv 2 5 (Dk.lay D.secs D.opens) e e jj data ops := by rw [ho3]; exact hi3
      have hO := Lib.hid (jr_open hd3 hz3 hlo.size (by omega) hi4)
      have hge : l.length ≤ x ∨ 20 ≤ x := by omega
      have z0 := hblk.cell 0
      have z1 := hblk.cell 1
      simp only [List.getElem?_cons_zero, List.getElem?_cons_succ] at z0 z1
      clear ho3 hz3 hlt
      rcases hge with hge | hge
      all_goals
        go_wp2_with fail
      all_goals
        refine hO.out.mono ?_
        rintro r w5 ⟨j', v', D5, m, rfl, ho5, -, -, -, -, hf5⟩
        obtain ⟨-, va2, vc2, rfl, -⟩ := owns_cell ho5
        have hX := Blk.new w5 [.string (BA data), .slice va2 ops.length vc2] TFound
        have hblk6 := (hblk.fr hf5 (by decide)).alloc (.cells #[.string (BA data), .slice va2 ops.length vc2] TFound)
        have hbA : Below w5.heap.size w5 (w5.alloc (.cells #[.string (BA data), .slice va2 ops.length vc2] TFound)) := (Below.refl _ _).alloc (Nat.le_refl _) _
        have hr1 := (StrRow.owns ho5).below hbA
        have hr2 := (StrRow.owns (owns_fr hown hf5 (by decide))).below hbA
        have hS := same_any data data _ _ ops ops _ hr1 hr2 (by omega) (by omega)
        rw [show decide (data = data ∧ ops = ops) = true by simp] at hS
        have HS := Lib.hid hS
        have hlo6 : Below w.heap.size w (w5.alloc (.cells #[.string (BA data), .slice va2 ops.length vc2] TFound)) := (hlo.trans (hf5.low hlo.size)).trans (hbA.mono (by have := hlo.size; have := hf5.size; omega))
        clear z0 z1 hS
        have z0 := hblk6.cell 0
        have z1 := hblk6.cell 1
        have x0 := hX.cell 0
        have x1 := hX.cell 1
        simp only [List.getElem?_cons_zero, List.getElem?_cons_succ] at z0 z1 x0 x1
        go_wp2_with fail
        refine HS.out.mono ?_
        rintro r w7 ⟨⟨rfl, hb7⟩⟩
        go_wp2_with fail
        go_ret
        exact ⟨rfl, hlo6.trans (hb7.mono hlo6.size)⟩
end Go.Proofs.YtkeamfdceehliaaGreatDoor

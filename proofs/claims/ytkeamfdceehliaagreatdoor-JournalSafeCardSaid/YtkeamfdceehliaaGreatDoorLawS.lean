/- JournalSafe, walked. -/
import Derived.Test.YtkeamfdceehliaaGreatDoorLaw4
namespace Go.Proofs.YtkeamfdceehliaaGreatDoor
open Go.RowKit
attribute [local go_sem] BA_size BA_extract BA_append BA_toList

set_option maxRecDepth 100000 in
set_option maxHeartbeats 16000000 in
theorem safe_ok (v0 : Value) (l : List TryM) (w : World) (hl : TriesAt w v0 l) : Calls Tryz.prog 6 #[v0] w fun r w' => r = .returned (.bool true) ∧ Below w.heap.size w w' := by
  obtain ⟨⟨a, cap, rfl, hT⟩, hfew⟩ := hl
  have HT := Lib.hid hT
  clear hT
  have hAw := Lib.hid (fun w1 => awake_ok w1)
  go_enter Tryz.func6, Tryz.ntmps6
  go_wp2_with fail
  refine (hAw.out _).mono ?_
  rintro r w0 ⟨rfl, hb0⟩
  have hN := Lib.hid (new_ok w.heap.size 10 (by omega) (by omega) w0 hb0.size)
  go_wp2_with fail
  refine hN.out.mono ?_
  rintro r w1 ⟨d, sb, rfl, hd1, hf1⟩
  have hF := Lib.hid (jr_format (k := 2) (n := 6) (data := [98, 101, 103, 105, 110]) hd1 rfl rfl rfl (Nat.le_trans hb0.size hf1.size) (by omega) (by omega) (by omega) (by omega) (by simp))
  go_wp2_with fail
  refine hF.out.mono ?_
  rintro r w2 ⟨j, D2, rfl, hj2, -, hf2⟩
  have hb2 : Below w.heap.size w w2 := Below.of_fr (((Fr.of_below (B := w.heap.size) (ts := TJs) hb0).trans (hf1.mono (Nat.le_refl _) (by simp))).trans hf2) (Nat.le_refl _)
  have hj3 := hj2.fr (w' := w2.alloc (.cells #[.string (BA [98, 101, 103, 105, 110]), .slice none 0 0] TFound)) ((Fr.refl w.heap.size [] w2).alloc _) (by simp) (by simp) (by simp) (by simp) (by simp) (by simp)
  have hR0 : SafeR w d j w2.heap.size 0 (w2.alloc (.cells #[.string (BA [98, 101, 103, 105, 110]), .slice none 0 0] TFound)) :=
    ⟨⟨D2, 1, 1, 0, _, [], _, hj3, by omega, ⟨Blk.new _ _ _, World.ownsRow_nil _ _ _ _⟩, hb2.size, hb2.alloc hb2.size _⟩⟩
  go_wp2_with fail
  obtain ⟨wb, hwb⟩ : ∃ wb, w2.heap.size = wb := ⟨_, rfl⟩
  rw [hwb] at hR0 ⊢
  clear hwb
  have HR0 := Lib.hid hR0
  go_loopg [5, 8] 14 (fun g jv i wr => ∃ (j x : Nat), jv = dp j ∧ i = .int .i64 x ∧ x ≤ l.length ∧ g + x = 14 ∧ SafeR w d j wb x wr)
  case atStart => exact ⟨j, 0, rfl, rfl, by omega, by omega, HR0.out⟩
  case round =>
    obtain ⟨j, x, rfl, rfl, hx, hgx, hR⟩ := hrel
    clear hR0 hj2 hj3
    by_cases hlt : x < l.length ∧ x < 14
    · obtain ⟨hlt1, hlt2⟩ := hlt
      obtain ⟨⟨sn, cr, tw, tx, fl, fs⟩, ht⟩ : ∃ t, l[x]? = some t := ⟨_, List.getElem?_eq_getElem hlt1⟩
      obtain ⟨b, o, fv, rfl, hta0⟩ := HT.out x _ ht
      obtain ⟨fa, fc, hfv⟩ : ∃ fa fc, fv = .slice fa fs.length fc := by obtain ⟨⟨fa, fc, h, _⟩, _⟩ := hta0.fates; exact ⟨fa, fc, h⟩
      subst hfv
      clear ht
      obtain ⟨D, E, e, jj, data, ops, v, hj, hE, hFo, hbb, hlo⟩ := hR.out
      have hta := hta0.below hlo
      obtain ⟨va, vc, rfl⟩ := hFo.form
      have q0 : wr.cell? ⟨b, o + x * 6, none⟩ = some (.bool sn) := hta.c0
      have q1 : wr.cell? ⟨b, o + x * 6 + 1, none⟩ = some (.bool cr) := hta.c1
      have q2 : wr.cell? ⟨b, o + x * 6 + 2, none⟩ = some (.bool tw) := hta.c2
      have q3 : wr.cell? ⟨b, o + x * 6 + 3, none⟩ = some (.string (BA tx)) := hta.c3
      have q4 : wr.cell? ⟨b, o + x * 6 + 4, none⟩ = some (.int .i64 fl) := hta.c4
      have q5 := hta.c5
      have z0 := hFo.blk.cell 0
      have z1 := hFo.blk.cell 1
      simp only [List.getElem?_cons_zero, List.getElem?_cons_succ] at z0 z1
      have hwlt := hFo.blk.lt
      -- the world with its two new blocks
      obtain ⟨w3, hw3⟩ : ∃ w3, (wr.alloc (.cells #[.bool sn, .bool cr, .bool tw, .string (BA tx), .int .i64 fl, .slice fa fs.length fc] TTry)).alloc (.cells #[.string (BA data), .slice va ops.length vc] TFound) = w3 := ⟨_, rfl⟩
      have hf3 : Fr w.heap.size [] wr w3 := by rw [← hw3]; exact ((Fr.refl _ _ _).alloc _).alloc _
      have htb : Blk w3 wr.heap.size [.bool sn, .bool cr, .bool tw, .string (BA tx), .int .i64 fl, .slice fa fs.length fc] TTry := by rw [← hw3]; exact Blk.alloc (Blk.new _ _ _) _
      have hnb : Blk w3 (wr.heap.size + 1) [.string (BA data), .slice va ops.length vc] TFound := by rw [← hw3]; exact Blk.newAt _ _ _ (by simp)
      have hFa := hFo.blk.alloc (.cells #[.bool sn, .bool cr, .bool tw, .string (BA tx), .int .i64 fl, .slice fa fs.length fc] TTry)
      have za0 := hFa.cell 0
      have za1 := hFa.cell 1
      have k0 := htb.cell 0
      have k1 := htb.cell 1
      have k2 := htb.cell 2
      have k3 := htb.cell 3
      have k4 := htb.cell 4
      have k5 := htb.cell 5
      simp only [List.getElem?_cons_zero, List.getElem?_cons_succ] at za0 za1 k0 k1 k2 k3 k4 k5
      have hfl7 : 0 ≤ fl % 8 ∧ fl % 8 < 8 := by omega
      have h7 := i64_and7 fl
      have hj4 := hj.fr hf3 (by simp) (by simp) (by simp) (by simp) (by simp) (by simp)
      have hFo3 := hFo.fr hf3 (by simp) (by simp)
      have hlo3 := hlo.trans (hf3.low hlo.size)
      have htx : tx.length ≤ 9223372036854775807 := hta0.text
      have hfts : FatesAt w (.slice fa fs.length fc) fs := hta0.fates
      have hflt := hta0.flt
      have HFT := Lib.hid hfts
      have HFL := Lib.hid hflt
      clear hfts hflt hta hta0 hFa hFo hj hR h7
      have h7 := i64_and7 fl
      obtain ⟨⟨sb4, osl4, hd4⟩, ho4, hi4, ⟨jb4, js4, hjr4⟩⟩ := hj4
      have hol4 : ops.length ≤ 6 := hi4.olen
      have hFail := Lib.hid (fail_in hd4 (fl % 8) (by omega))
      go_upto_if 55 with (go_at_call 20; refine hFail.out.mono ?_; rintro r w4 ⟨rfl, hd5, hf5⟩; have htb4 := htb.fr hf5 (by decide); have hnb4 := hnb.fr hf5 (by decide); have k0 := htb4.cell 0; have k3 := htb4.cell 3; simp only [List.getElem?_cons_zero, List.getElem?_cons_succ] at k0 k3)
      clear hw3 q0 q1 q2 q3 q4 q5 z0 z1 za0 za1
      have hj5 : Jrn w.heap.size w4 d j 2 6 (D.setFail (fl % 8)) E e jj data ops := ⟨⟨_, _, hd5⟩, ho4, hi4, _, _, hjr4.fr hf5 (by decide) (by decide) (by decide)⟩
      have hFo4 := hFo3.fr hf5 (by decide) (by decide)
      have hlo4 := hlo3.trans (hf5.low hlo3.size)
      have hsz4 : wr.heap.size + 2 ≤ w4.heap.size := by have := hf5.size; have := hnb.lt; omega
      go_cut [11] (fun f wx => ∃ er data2 ops2 v2 D', f = .int .i64 er ∧ TryDone w wx d wb (wr.heap.size + 1) wr.heap.size [.bool sn, .bool cr, .bool tw, .string (BA tx), .int .i64 fl, .slice fa fs.length fc] sn E e jj data ops (.slice va ops.length vc) er data2 ops2 v2 D')
      case first =>
        cases sn with
        | true =>
          have hSh := Lib.hid (fun W => short_any tx 86 htx (by omega) W)
          have y0 := hnb4.cell 0
          have y1 := hnb4.cell 1
          have u0 := hnb4.free 0
          have u1 := hnb4.free 1
          simp only [List.getElem?_cons_zero, List.getElem?_cons_succ] at y0 y1
          go_wp2_with (go_at_call 15; refine (hSh.out _).mono ?_; rintro r w5 ⟨rfl, rfl⟩)
          have hne : wb ≠ wr.heap.size + 1 := by omega
          have hfA : Fr w.heap.size [TFound] w4 ((w4.setCell ⟨wr.heap.size + 1, 0, none⟩ (.string (BA (tx.take 86)))).setCell ⟨wr.heap.size + 1, 1, none⟩ (.slice none 0 0)) := ((Fr.refl _ _ _).setB (by have := hlo.size; omega) hnb4 (by simp) _).setB (by have := hlo.size; omega) hnb4 (by simp) _
          have hnbA := (hnb4.set 0 (.string (BA (tx.take 86)))).set 1 (.slice none 0 0)
          have hFoA := (hFo4.other hnb4 (i := 0) hne (.string (BA (tx.take 86)))).other (hnb4.set 0 (.string (BA (tx.take 86)))) (i := 1) hne (.slice none 0 0)
          have htbA := (htb4.other (p := ⟨wr.heap.size + 1, 0, none⟩) (by simp) (.string (BA (tx.take 86)))).other (p := ⟨wr.heap.size + 1, 1, none⟩) (by simp) (.slice none 0 0)
          simp only [List.set_cons_zero, List.set_cons_succ] at hnbA
          have hloA := hlo4.trans (hfA.low hlo4.size)
          have hjA := hj5.fr hfA (by decide) (by decide) (by decide) (by decide) (by decide) (by decide)
          refine (jr_snapshot_try hjA (by omega) (s := tx.take 86) (by simp; omega)).mono ?_
          rintro r w5 ⟨er, sb5, osl5, D5, rfl, hd6, hout, hf6⟩
          have hDone : TryDone w w5 d wb (wr.heap.size + 1) wr.heap.size [.bool true, .bool cr, .bool tw, .string (BA tx), .int .i64 fl, .slice fa fs.length fc] true E e jj data ops (.slice va ops.length vc) er (tx.take 86) [] (.slice none 0 0) D5 := by
            refine ⟨⟨_, _, hd6⟩, hFoA.fr hf6 (by decide) (by decide), ⟨hnbA.fr hf6 (by decide), World.ownsRow_nil _ _ _ _⟩, htbA.fr hf6 (by decide), hloA.trans (hf6.low hloA.size), ?_, by simp⟩
            rcases hout with ⟨h1, h2⟩ | ⟨h1, h2⟩
            · exact .inl ⟨h1, fun f => ⟨_, _, _, Nat.le_refl _, h2 f⟩⟩
            · refine .inr (.inl ⟨h1, fun f => ?_⟩)
              rcases h2 f with ⟨E', h3, h4⟩ | h3
              · exact .inl ⟨E', h3, h4⟩
              · exact .inr ⟨_, _, _, Nat.le_refl _, h3⟩
          clear hout
          go_wp2
          go_meet
          case rel => exact ⟨er, _, _, _, _, rfl, hDone⟩
        | false =>
          have hSh := Lib.hid (fun W => short_any tx 43 htx (by omega) W)
          have hFoz0 := hFo4.blk.cell 1
          simp only [List.getElem?_cons_zero, List.getElem?_cons_succ] at hFoz0
          obtain ⟨s, hs⟩ : ∃ s, tx.take 43 = s := ⟨_, rfl⟩
          have hsl : s.length ≤ 43 := by rw [← hs]; simp; omega
          rw [hs] at hSh
          clear hs
          have hbe : Below w4.heap.size w4 (w4.alloc (.cells #[] 9)) := (Below.refl _ _).alloc (Nat.le_refl _) _
          have hFoe := hFo4.below hbe
          have e1 := hFoe.blk.cell 1
          simp only [List.getElem?_cons_zero, List.getElem?_cons_succ] at e1
          have hown0 := owns_empty w4
          have hol := hi4.olen
          have hsrc := hFoe.own
          have h1c := strsV_one ops
          have hs4e : w4.heap.size ≤ (w4.alloc (.cells #[] 9)).heap.size := by simp
          go_wp2_with (first
            | (go_at_call 15; refine (hSh.out _).mono ?_; rintro r w5 ⟨rfl, rfl⟩)
            | (refine wpList_appRow (s := .tmp 67) (x := .tmp 69) rfl rfl rfl hown0 rfl hsrc h1c (by omega) (by simp) ?_; intro v6 w6 hv6 hf6; rw [Nat.zero_add] at hv6; have hb6 : Below w4.heap.size w4 w6 := hbe.trans (hf6.low hs4e); have hs6 := hb6.size; obtain ⟨-, a6, c6, rfl, -⟩ := owns_cell hv6)
            | (refine wpList_app1 (s := .tmp 70) (x := .tmp 72) (m := 1) (news := [.string (BA s)]) rfl rfl undStrs infoStr (by omega) rfl (hv6.alloc _) rfl rfl (Blk.new _ [.string (BA s)] 9).row1 (by simp [Value.oneCell']) (by unfold maxLen; omega) (by omega) (by simp; omega) ?_; intro v8 w8 hv8 hg8; have hnx : NextIn w4 w8 (ops ++ [s]) v8 := NextIn.of hb6 hv6 (fun _ => hv8) hg8; have hnb8 := hnb4.below hnx.low hnb4.lt; have y1 := hnb8.cell 1; have u1 := hnb8.free 1; simp only [List.getElem?_cons_zero, List.getElem?_cons_succ] at y1; obtain ⟨a8, c8, rfl⟩ := form_succ hv8))
          obtain ⟨n8, hn8⟩ : ∃ n8, ops.length + 1 = n8 := ⟨_, rfl⟩
          rw [hn8] at hnx
          rw [hn8]
          have hN8 := Lib.hid hn8
          clear hn8 hv8 hg8 y1 u1 e1
          have hnbB : w.heap.size ≤ wr.heap.size + 1 := by have := hlo.size; omega
          have hw48 := hlo4.size
          have hf48 : Fr w.heap.size [TFound] w4 (w8.setCell ⟨wr.heap.size + 1, 1, none⟩ (.slice a8 n8 c8)) := ((Fr.of_below hnx.low).trans (Fr.refl _ _ w8)).setB hnbB hnb4 (by simp) _
          have hnbA := hnb8.set 1 (.slice a8 n8 c8)
          simp only [List.set_cons_zero, List.set_cons_succ] at hnbA
          have hne : wb ≠ wr.heap.size + 1 := by omega
          have hFoA := (hFo4.below hnx.low).other hnb8 (i := 1) hne (.slice a8 n8 c8)
          have htbA := (htb4.below hnx.low htb4.lt).other (p := ⟨wr.heap.size + 1, 1, none⟩) (by simp) (.slice a8 n8 c8)
          have hloA := hlo4.trans (hf48.low hw48)
          have hjA := hj5.fr hf48 (by decide) (by decide) (by decide) (by decide) (by decide) (by decide)
          have hownA := owns_other (owns_low hnx.own hw48) hnb8 (show TFound ≠ 9 by decide) 1 (.slice a8 n8 c8)
          obtain ⟨w9, hw9⟩ : ∃ w9, w8.setCell ⟨wr.heap.size + 1, 1, none⟩ (.slice a8 n8 c8) = w9 := ⟨_, rfl⟩
          rw [hw9] at hf48 hnbA hFoA htbA hloA hjA hownA ⊢
          clear hw9
          have hl8 : (ops ++ [s]).length = n8 := by rw [← hN8.out]; simp
          rw [← hl8] at hnbA hownA
          have hNxA : FoundIn w.heap.size w9 (wr.heap.size + 1) data (ops ++ [s]) (.slice a8 (ops ++ [s]).length c8) := ⟨hnbA, hownA⟩
          have hl7 : (ops ++ [s]).length ≤ 7 := by simp; omega
          by_cases hful : (ops).length = 6
          · refine (jr_append_full hjA hful hsl).mono ?_
            rintro r w5 ⟨rfl, hj6, hf6⟩
            obtain ⟨⟨sb6, osl6, hd6⟩, ho6, hi6, _⟩ := hj6
            have hDone : TryDone w w5 d wb (wr.heap.size + 1) wr.heap.size [.bool false, .bool cr, .bool tw, .string (BA tx), .int .i64 fl, .slice fa fs.length fc] false E e jj data ops (.slice va ops.length vc) 22 data (ops ++ [s]) (.slice a8 (ops ++ [s]).length c8) (D.setFail (fl % 8)) :=
              ⟨⟨_, _, hd6⟩, hFoA.fr hf6 (by decide) (by decide), hNxA.fr hf6 (by decide) (by decide), htbA.fr hf6 (by decide), hloA.trans (hf6.low hloA.size), .inr (.inr ⟨rfl, rfl, hful, fun f => by rw [ho6]; exact ⟨E, by omega, hi6⟩⟩), hl7⟩
            clear hful ho6 hl8
            go_wp2
            go_meet
            case rel => exact ⟨22, _, _, _, _, rfl, hDone⟩
          · refine (jr_append_try hjA (by omega) hsl).mono ?_
            rintro r w5 ⟨er, sb5, osl5, D5, rfl, hd6, hout, hf6⟩
            have hDone : TryDone w w5 d wb (wr.heap.size + 1) wr.heap.size [.bool false, .bool cr, .bool tw, .string (BA tx), .int .i64 fl, .slice fa fs.length fc] false E e jj data ops (.slice va ops.length vc) er data (ops ++ [s]) (.slice a8 (ops ++ [s]).length c8) D5 := by
              refine ⟨⟨_, _, hd6⟩, hFoA.fr hf6 (by decide) (by decide), hNxA.fr hf6 (by decide) (by decide), htbA.fr hf6 (by decide), hloA.trans (hf6.low hloA.size), ?_, hl7⟩
              rcases hout with ⟨h1, h2⟩ | ⟨h1, h2⟩
              · exact .inl ⟨h1, fun f => ⟨_, _, _, by omega, h2 f⟩⟩
              · refine .inr (.inl ⟨h1, fun f => ?_⟩)
                rcases h2 f with h3 | h3
                · exact .inl ⟨E, by omega, h3⟩
                · exact .inr ⟨_, _, _, by omega, h3⟩
            clear hout hful hl8
            go_wp2
            go_meet
            case rel => exact ⟨er, _, _, _, _, rfl, hDone⟩
      case rest =>
        obtain ⟨er, data2, ops2, v2, D6, rfl, hT6⟩ := hcut
        obtain ⟨sb6, osl6, hd6⟩ := hT6.dsk
        have hFail0 := Lib.hid (fail_in hd6 0 (by omega))
        clear hFail htb hnb hFo3 hlo3 k0 k1 k2 k3 k4 k5 htb4 hnb4 hFo4 hlo4 hj5 hjr4 hd4 hd5 hf3 hf5 hsz4 h7 ho4 hi4
        go_upto_if 81 with (go_at_call 20; refine hFail0.out.mono ?_; rintro r w7 ⟨rfl, hd7, hf7⟩; have hT7 := hT6.step hf7 (by decide) (by decide) (by decide) ⟨_, _, hd7⟩ (fun P h => h.fail 0); have k1 := hT7.tb.cell 1; simp only [List.getElem?_cons_zero, List.getElem?_cons_succ] at k1)
        go_cut [] (fun wx => ∃ D8, TryDone w wx d wb (wr.heap.size + 1) wr.heap.size [.bool sn, .bool cr, .bool tw, .string (BA tx), .int .i64 fl, .slice fa fs.length fc] sn E e jj data ops (.slice va ops.length vc) er data2 ops2 v2 D8 ∧ D8.fail = 0)
        case first =>
          cases cr with
          | true =>
            have k5 := hT7.tb.cell 5
            simp only [List.getElem?_cons_zero, List.getElem?_cons_succ] at k5
            have hCr := Lib.hid (crash_ok hd7 (HFT.out.below hT7.fr) HFL.out)
            go_wp2_with (go_at_call 11; refine hCr.out.mono ?_; rintro r w8 ⟨rfl, hd8, hf8⟩)
            have hT8 := hT7.step hf8 (by decide) (by decide) (by decide) ⟨_, _, hd8⟩ (fun P h => h.crash fs)
            go_meet
            case rel => exact ⟨_, hT8, rfl⟩
          | false =>
            go_wp2
            go_meet
            case rel => exact ⟨_, hT7, rfl⟩
        case rest =>
          obtain ⟨D8, hT8, hz8⟩ := hcut
          obtain ⟨E', e', jj', dF, oF, hE', hI, hrel8⟩ := hT8.found
          have hHr := Lib.hid hrel8
          clear hrel8 hT7 hT6 hd6 hd7 hf7 k1 hFail0
          obtain ⟨sb8, osl8, hd8⟩ := hT8.dsk
          have hO := Lib.hid (jr_open hd8 hz8 hT8.fr.size (by omega) hI)
          clear hz8
          go_upto_if 99 with (go_at_call 12; refine hO.out.mono ?_; rintro r w9 ⟨j9, v9, D9, m9, rfl, ho9, hj9, hz9, -, -, hf9⟩; obtain ⟨-, a9, c9, rfl, -⟩ := owns_cell ho9; have htb10 := (hT8.tb.fr hf9 (by decide)).alloc (.cells #[.string (BA dF), .slice a9 oF.length c9] TFound); have k2 := htb10.cell 2; simp only [List.getElem?_cons_zero, List.getElem?_cons_succ] at k2)
          have hX9 := Blk.new w9 [.string (BA dF), .slice a9 oF.length c9] TFound
          have hfA9 : Fr w.heap.size [] w9 (w9.alloc (.cells #[.string (BA dF), .slice a9 oF.length c9] TFound)) := (Fr.refl _ _ _).alloc _
          have hlo9 := hT8.fr.trans (hf9.low hT8.fr.size)
          have hs8 := hT8.fr.size
          have hOD : OpenDone w (w9.alloc (.cells #[.string (BA dF), .slice a9 oF.length c9] TFound)) d j9 wb (wr.heap.size + 1) w9.heap.size wr.heap.size [.bool sn, .bool cr, .bool tw, .string (BA tx), .int .i64 fl, .slice fa fs.length fc] E' e' jj' data ops (.slice va ops.length vc) data2 ops2 v2 dF oF (.slice a9 oF.length c9) :=
            ⟨⟨D9, hj9.fr hfA9 (by simp) (by simp) (by simp) (by simp) (by simp) (by simp), hz9⟩, (hT8.had.fr hf9 (by decide) (by decide)).fr hfA9 (by simp) (by simp), (hT8.nxt.fr hf9 (by decide) (by decide)).fr hfA9 (by simp) (by simp), ⟨hX9, owns_fr (owns_low ho9 hs8) hfA9 (by simp)⟩, htb10, hlo9.trans (hfA9.low hlo9.size)⟩
          have hfbB : w.heap.size ≤ w9.heap.size := hlo9.size
          obtain ⟨w10, hw10⟩ : ∃ w10, w9.alloc (.cells #[.string (BA dF), .slice a9 oF.length c9] TFound) = w10 := ⟨_, rfl⟩
          obtain ⟨fb, hfb⟩ : ∃ fb, w9.heap.size = fb := ⟨_, rfl⟩
          rw [hw10] at hOD k2 ⊢
          rw [hfb] at hOD hfbB ⊢
          have hne1 : wb ≠ fb := by rw [← hfb]; have := hT8.had.blk.lt; have := hf9.size; omega
          clear hw10 hfb hj9 hz9 hX9 hfA9 htb10 hf9 ho9 hd8 hO hI
          have hdl : (dF.length : Int) ≤ 1000000 ∨ True := .inr trivial
          obtain ⟨D10, hj10, hz10⟩ := hOD.jr
          have hol10 := hj10.inv.olen
          obtain ⟨⟨sb10, osl10, hd10⟩, ho10, hi10, -⟩ := hj10
          have hI10 : Inv 2 6 (Dk.lay D10.secs D10.opens) E' e' jj' dF oF := by rw [ho10]; exact hi10
          have hO2 := Lib.hid (jr_open hd10 hz10 hOD.fr.size (by omega) hI10)
          clear ho10 hz10
          go_cut [13] (fun jv wx => ∃ j11, jv = dp j11 ∧ OpenDone w wx d j11 wb (wr.heap.size + 1) fb wr.heap.size [.bool sn, .bool cr, .bool tw, .string (BA tx), .int .i64 fl, .slice fa fs.length fc] E' e' jj' data ops (.slice va ops.length vc) data2 ops2 v2 dF oF (.slice a9 oF.length c9))
          case first =>
            cases tw with
            | true =>
              go_wp2_with (go_at_call 12; refine hO2.out.mono ?_; rintro r w11 ⟨j11, v11, D11, m11, rfl, ho11, hj11, hz11, -, -, hf11⟩; obtain ⟨-, a11, c11, rfl, -⟩ := owns_cell ho11; have hF11 := (hOD.fnd.fr hf11 (by decide) (by decide)).below ((Below.refl _ _).alloc (Nat.le_refl _) (.cells #[.string (BA dF), .slice a11 oF.length c11] TFound)); have hX11 := Blk.new w11 [.string (BA dF), .slice a11 oF.length c11] TFound; have z0 := hF11.blk.cell 0; have z1 := hF11.blk.cell 1; have x0 := hX11.cell 0; have x1 := hX11.cell 1; simp only [List.getElem?_cons_zero, List.getElem?_cons_succ] at z0 z1 x0 x1)
              have hfA11 : Fr w.heap.size [] w11 (w11.alloc (.cells #[.string (BA dF), .slice a11 oF.length c11] TFound)) := (Fr.refl _ _ _).alloc _
              have hr1 := (StrRow.owns ho11).below ((Below.refl _ _).alloc (Nat.le_refl _) (.cells #[.string (BA dF), .slice a11 oF.length c11] TFound))
              have hr2 := StrRow.owns hF11.own
              have hS := same_any dF dF _ _ oF oF _ hr1 hr2 (by omega) (by omega)
              rw [show decide (dF = dF ∧ oF = oF) = true by simp] at hS
              have HS := Lib.hid hS
              have hlo11 := hOD.fr.trans (hf11.low hOD.fr.size)
              have hOD11 : OpenDone w (w11.alloc (.cells #[.string (BA dF), .slice a11 oF.length c11] TFound)) d j11 wb (wr.heap.size + 1) fb wr.heap.size [.bool sn, .bool cr, .bool true, .string (BA tx), .int .i64 fl, .slice fa fs.length fc] E' e' jj' data ops (.slice va ops.length vc) data2 ops2 v2 dF oF (.slice a9 oF.length c9) :=
                ⟨⟨D11, hj11.fr hfA11 (by simp) (by simp) (by simp) (by simp) (by simp) (by simp), hz11⟩, (hOD.had.fr hf11 (by decide) (by decide)).fr hfA11 (by simp) (by simp), (hOD.nxt.fr hf11 (by decide) (by decide)).fr hfA11 (by simp) (by simp), hF11, (hOD.tb.fr hf11 (by decide)).fr hfA11 (by simp), hlo11.trans (hfA11.low hlo11.size)⟩
              clear hS hz11 hj11
              refine HS.out.mono ?_
              rintro r w12 ⟨⟨rfl, hb12⟩⟩
              have hOD12 := hOD11.fr' (Fr.of_below hb12)
              go_wp2
              go_meet
              case rel => exact ⟨j11, rfl, hOD12⟩
            | false =>
              go_wp2
              go_meet
              case rel => exact ⟨j9, rfl, hOD⟩
          case rest =>
            obtain ⟨j13, rfl, hOD13⟩ := hcut
            clear hOD k2 hO2 hd10 hi10
            obtain ⟨w13, hw13⟩ : ∃ w13, w13 = wc := ⟨_, rfl⟩
            rw [← hw13] at hOD13 ⊢
            clear hw13
            have hS1 := same_any dF data _ _ oF ops _ (StrRow.owns hOD13.fnd.own) (StrRow.owns hOD13.had.own) (by omega) (by omega)
            have hS2 := fun (W : World) (hb : Below w13.heap.size w13 W) => same_any dF data2 _ _ oF ops2 W (StrRow.owns (hOD13.fnd.below hb).own) (StrRow.owns (hOD13.nxt.below hb).own) (by omega) (by have := hT8.few; omega)
            obtain ⟨od, hod⟩ : ∃ od, decide (dF = data ∧ oF = ops) = od := ⟨_, rfl⟩
            obtain ⟨nw, hnw⟩ : ∃ nw, decide (dF = data2 ∧ oF = ops2) = nw := ⟨_, rfl⟩
            rw [hod] at hS1
            rw [hnw] at hS2
            have HS1 := Lib.hid hS1
            have HS2 := Lib.hid hS2
            obtain ⟨a2, c2, rfl⟩ := hOD13.nxt.form
            have hcase : (er = 0 ∧ nw = true) ∨ (er = 18 ∧ (od = true ∨ nw = true)) ∨ (er = 22 ∧ sn = false ∧ ops.length = 6 ∧ od = true) := by
              rcases hHr.out with ⟨h1, h2, h3⟩ | ⟨h1, h2⟩ | ⟨h1, h2, h3, h4, h5⟩
              · exact .inl ⟨h1, by rw [← hnw]; simp [h2, h3]⟩
              · rcases h2 with ⟨h2, h3⟩ | ⟨h2, h3⟩
                · exact .inr (.inl ⟨h1, .inl (by rw [← hod]; simp [h2, h3])⟩)
                · exact .inr (.inl ⟨h1, .inr (by rw [← hnw]; simp [h2, h3])⟩)
              · exact .inr (.inr ⟨h1, h2, h3, by rw [← hod]; simp [h4, h5]⟩)
            clear hod hnw hS1 hS2
            have k0 := hOD13.tb.cell 0
            have z0 := hOD13.had.blk.cell 0
            have z1 := hOD13.had.blk.cell 1
            have x0 := hOD13.fnd.blk.cell 0
            have x1 := hOD13.fnd.blk.cell 1
            have y0 := hOD13.nxt.blk.cell 0
            have y1 := hOD13.nxt.blk.cell 1
            simp only [List.getElem?_cons_zero, List.getElem?_cons_succ] at k0 z0 z1 x0 x1 y0 y1
            go_wp2_with fail
            refine HS1.out.mono ?_
            rintro r w14 ⟨⟨rfl, hb14⟩⟩
            have hOD14 := hOD13.fr' (Fr.of_below hb14)
            clear k0 z0 z1 x0 x1 y0 y1
            have x0 := hOD14.fnd.blk.cell 0
            have x1 := hOD14.fnd.blk.cell 1
            have y0 := hOD14.nxt.blk.cell 0
            have y1 := hOD14.nxt.blk.cell 1
            simp only [List.getElem?_cons_zero, List.getElem?_cons_succ] at x0 x1 y0 y1
            go_wp2_with fail
            refine (HS2.out _ hb14).mono ?_
            rintro r w15 ⟨⟨rfl, hb15⟩⟩
            have hOD15 := hOD14.fr' (Fr.of_below hb15)
            clear x0 x1 y0 y1
            have k0 := hOD15.tb.cell 0
            have z0 := hOD15.had.blk.cell 0
            have z1 := hOD15.had.blk.cell 1
            have u0 := hOD15.had.blk.free 0
            have u1 := hOD15.had.blk.free 1
            have x0 := hOD15.fnd.blk.cell 0
            have x1 := hOD15.fnd.blk.cell 1
            simp only [List.getElem?_cons_zero, List.getElem?_cons_succ] at k0 z0 z1 x0 x1
            obtain ⟨lb, hlb⟩ : ∃ lb, ((ops.length : Int) != 6) = lb := ⟨_, rfl⟩
            have hlb6 : ops.length = 6 → lb = false := by rintro h; rw [← hlb, h]; rfl
            obtain ⟨⟨D15, hj15, hz15⟩, hh15, hn15, hfn15, ht15, hl15⟩ := hOD15
            have hff : Fr w.heap.size [TFound] w15 ((w15.setCell ⟨wb, 0, none⟩ (.string (BA dF))).setCell ⟨wb, 1, none⟩ (.slice a9 oF.length c9)) := ((Fr.refl _ _ _).setB hbb hh15.blk (by simp) _).setB hbb hh15.blk (by simp) _
            have hfin : SafeR w d j13 wb (x + 1) ((w15.setCell ⟨wb, 0, none⟩ (.string (BA dF))).setCell ⟨wb, 1, none⟩ (.slice a9 oF.length c9)) := by
              refine ⟨⟨D15, E', e', jj', dF, oF, .slice a9 oF.length c9, hj15.fr hff (by decide) (by decide) (by decide) (by decide) (by decide) (by decide), by omega, ⟨?_, ?_⟩, hbb, hl15.trans (hff.low hl15.size)⟩⟩
              · have := (hh15.blk.set 0 (.string (BA dF))).set 1 (.slice a9 oF.length c9)
                simpa using this
              · exact owns_fr hfn15.own hff (by decide)
            clear hz15
            have HC := Lib.hid hcase
            have H6 := Lib.hid hlb6
            have HF := Lib.hid hfin
            have hx1 : x + 1 ≤ l.length := by omega
            clear hcase hlb6 hfin hff ht15 hl15 hfn15 hn15 hh15 hj15 HS1 HS2 hOD13 hHr hT8 HFT HFL htx hlo hwlt hfl7 hbb hol4 hE hE' hfbB hne1 hdl hol10 hb14 hb15 hs8 hlo9 HT HR0 hF hN hAw hb0 hd1 hf1 hf2 hb2 hfew
            rcases HC.out with ⟨rfl, rfl⟩ | ⟨rfl, hon⟩ | ⟨rfl, rfl, h6, rfl⟩
            · clear HC H6
              go_wp2_with fail
              go_roundg (gk - 1)
              case measure => omega
              case rel => exact ⟨j13, x + 1, rfl, by go_num, hx1, by omega, HF.out⟩
            · cases nw with
              | true =>
                clear HC H6 hon
                go_wp2_with fail
                go_roundg (gk - 1)
                case measure => omega
                case rel => exact ⟨j13, x + 1, rfl, by go_num, hx1, by omega, HF.out⟩
              | false =>
                obtain rfl : od = true := by simpa using hon
                clear HC H6 hon
                go_wp2_with fail
                go_roundg (gk - 1)
                case measure => omega
                case rel => exact ⟨j13, x + 1, rfl, by go_num, hx1, by omega, HF.out⟩
            · obtain rfl := H6.out h6
              clear HC H6 h6
              go_wp2_with fail
              go_roundg (gk - 1)
              case measure => omega
              case rel => exact ⟨j13, x + 1, rfl, by go_num, hx1, by omega, HF.out⟩
    · obtain ⟨D, E, e, jj, data, ops, v, hj, hE, hFo, hbb, hlo⟩ := hR.out
      have hge : l.length ≤ x ∨ 14 ≤ x := by omega
      clear hlt hR hj hFo
      rcases hge with hge | hge
      all_goals
        go_wp2_with fail
      all_goals
        go_ret
        exact ⟨rfl, hlo⟩
end Go.Proofs.YtkeamfdceehliaaGreatDoor

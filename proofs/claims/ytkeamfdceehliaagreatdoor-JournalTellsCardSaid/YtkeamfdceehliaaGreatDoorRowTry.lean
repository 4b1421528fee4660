/- What a row's reading of a slice of tries says of the memory. -/
import Derived.Test.YtkeamfdceehliaaGreatDoorLaw4
import Derived.Test.YtkeamfdceehliaaGreatDoorTie
import Derived.Test.YtkeamfdceehliaaGreatDoorCards
import Derived.ProofKit
import Derived.OpenShut
import Derived.LaidMore
import Derived.Lay
import Derived.SevenTiedAt
import Derived.ChangeOld
import Derived.Deep.Slices
import Derived.Deep.Fields
import Derived.ChangeSame
namespace Go.Proofs.YtkeamfdceehliaaGreatDoor
open Go.ChangeShapes Go.WideShapes Go.ChangeAt Go.RowKit Go.Deep

theorem ownT : ownKnob Tryz.prog.godebug = none := by kernel_rfl
theorem laidOutT : laidOutB Tryz.prog = true := by kernel_rfl
theorem add_flat (b o k : Nat) : (⟨b, o, none⟩ : Addr).add k = ⟨b, o + k, none⟩ := by
  unfold Addr.add
  split
  · rename_i h
    subst h
    rfl
  · rfl
theorem cell_lt {w : World} {a : Addr} {v : Value} (h : w.cell? a = some v) : a.block < w.heap.size := by
  unfold World.cell? at h
  cases hb : w.heap[a.block]? with
  | none => rw [hb] at h; simp at h
  | some o => exact lt_of_get hb
theorem cell_spot {w : World} {a : Addr} {v : Value} (h : w.cell? a = some v) : a.spot = none := by
  unfold World.cell? at h
  cases hb : w.heap[a.block]? with
  | none => rw [hb] at h; simp at h
  | some o =>
    rw [hb] at h
    cases o with
    | cells c t z =>
      simp only at h
      cases hs : a.spot with
      | none => rfl
      | some x => rw [hs] at h; simp at h
    | _ => simp at h

section
variable {H : Type} {enc : TypeId × Value → H} {w : World} {base : Nat} {spare : Nat → Bool} {held : Bool}
/-- A slice of structs of one-cell fields, read: each field of each element. -/
theorem read_rows {t e : TypeId} {fs : Array Field} {fuel : Nat} {v : Value} {x : DataW H × List MemPlace} (ht : Tryz.prog.underlying t = some (.slice e)) (he : Tryz.prog.underlying e = some (.struct fs)) (hone : oneCellFields Tryz.prog fs = true) (hC : Tryz.prog.cellsOf e = fs.size)
    (h : DataW.trod enc Tryz.prog w base spare held fuel t [v] = some x) :
    ∃ a len cap, v = .slice a len cap ∧ len ≤ maxLen ∧ ∀ i, i < len → ∃ ad, a = some ad ∧ ∀ (j : Nat) (f : Field), fs[j]? = some f → ∃ u y n, w.cell? (ad.add (i * fs.size + j)) = some u ∧ DataW.trod enc Tryz.prog w base spare held n f.type [u] = some y := by
  rcases open_slice ht h with ⟨h0, _⟩ | ⟨a, len, cap, m, n, D, Pl, hcs, _, hl, hm, hmm, _, hi⟩
  · obtain rfl : v = .slice none 0 0 := by simpa using h0
    exact ⟨none, 0, 0, rfl, Nat.zero_le _, fun i hi => absurd hi (by omega)⟩
  · obtain rfl : v = .slice (some a) len cap := by simpa using hcs
    refine ⟨some a, len, cap, rfl, Nat.le_trans hl hm, fun i hil => ⟨a, rfl, fun j f hj => ?_⟩⟩
    have him : i < m := by
      rw [hmm]
      split <;> omega
    obtain ⟨cs, hc, ht'⟩ := hi i him
    rw [hC] at hc
    obtain ⟨ys, n', _, _, _, hyl, hf⟩ := DataW.trod_struct he ht'
    obtain ⟨_, hcl, hat⟩ := World.cells?_some hc
    obtain ⟨ho, hk⟩ := hone_of hone j f hj
    have hjl : j < fs.size := (Array.getElem?_eq_some_iff.1 hj).1
    have h1 := hf j f hj
    rw [ho, hk] at h1
    have h2 : (cs.drop j).take 1 = [cs[j]'(by omega)] := by
      rw [List.drop_eq_getElem_cons (by omega)]
      rfl
    rw [h2] at h1
    have h3 := hat j hjl
    rw [List.getElem?_eq_getElem (by omega), Go.Deep.add_add] at h3
    exact ⟨_, _, _, h3, h1.trans (List.getElem?_eq_getElem (by omega))⟩

theorem read_fates {fuel : Nat} {v : Value} {x : DataW H × List MemPlace} (h : DataW.trod enc Tryz.prog w base spare held fuel 41 [v] = some x) : ∃ fs, FatesAt w v fs ∧ ∀ b o n c, 0 < fs.length → v = .slice (some ⟨b, o, none⟩) n c → b < w.heap.size := by
  obtain ⟨a, len, cap, rfl, hm, hi⟩ := read_rows Tryz.underlying41 Tryz.underlying73 (by kernel_rfl) (by kernel_rfl) h
  have hE : ∀ i, ∃ f : Dk.Fate, i < len → ∃ b o, a = some ⟨b, o, none⟩ ∧ w.cell? ⟨b, o + i * 2, none⟩ = some (.int .i64 f.kind) ∧ w.cell? ⟨b, o + i * 2 + 1, none⟩ = some (.int .i64 f.at_) ∧ b < w.heap.size := by
    intro i
    by_cases hlt : i < len
    · obtain ⟨ad, rfl, hf⟩ := hi i hlt
      obtain ⟨ad0, h0, hf0⟩ := hi 0 (by omega)
      cases h0
      obtain ⟨u0, y0, n0, c0, _⟩ := hf0 0 _ rfl
      have hsp := cell_spot c0
      obtain ⟨b, o, sp⟩ := ad
      obtain rfl : sp = none := hsp
      obtain ⟨u1, y1, n1, c1, t1⟩ := hf 0 _ rfl
      obtain ⟨u2, y2, n2, c2, t2⟩ := hf 1 _ rfl
      rw [add_flat] at c1 c2
      obtain ⟨k1, e1, _, _⟩ := DataW.trod_int Tryz.underlying3 t1
      obtain ⟨k2, e2, _, _⟩ := DataW.trod_int Tryz.underlying3 t2
      obtain rfl : u1 = .int .i64 k1 := by simpa using e1
      obtain rfl : u2 = .int .i64 k2 := by simpa using e2
      exact ⟨⟨k1, k2⟩, fun _ => ⟨b, o, rfl, c1, c2, cell_lt c1⟩⟩
    · exact ⟨⟨0, 0⟩, fun h => absurd h hlt⟩
  refine ⟨(List.range len).map fun i => Classical.choose (hE i), ⟨⟨a, cap, by simp, fun i f hf => ?_⟩, by simpa [maxLen] using hm⟩, ?_⟩
  · have hil : i < len := by
      have := (List.getElem?_eq_some_iff.1 hf).1
      simpa using this
    obtain rfl : Classical.choose (hE i) = f := by simpa [hil] using hf
    exact Classical.choose_spec (hE i) hil
  · intro b o n c hl hv
    have hl0 : 0 < len := by simpa using hl
    obtain ⟨b', o', h1, _, _, h2⟩ := Classical.choose_spec (hE 0) hl0
    cases hv
    cases h1
    exact h2

theorem read_tries {fuel : Nat} {v : Value} {x : DataW H × List MemPlace} (h : DataW.trod enc Tryz.prog w base spare held fuel 38 [v] = some x) : ∃ l, TriesAt w v l := by
  obtain ⟨a, len, cap, rfl, hm, hi⟩ := read_rows Tryz.underlying38 Tryz.underlying43 (by kernel_rfl) (by kernel_rfl) h
  have hE : ∀ i, ∃ t : TryM, i < len → ∃ b o fv, a = some ⟨b, o, none⟩ ∧ TryAt w b (o + i * 6) t fv := by
    intro i
    by_cases hlt : i < len
    · obtain ⟨ad, rfl, hf⟩ := hi i hlt
      obtain ⟨ad0, h0, hf0⟩ := hi 0 (by omega)
      cases h0
      obtain ⟨u0, y0, n0, c0, _⟩ := hf0 0 _ rfl
      have hsp := cell_spot c0
      obtain ⟨b, o, sp⟩ := ad
      obtain rfl : sp = none := hsp
      clear c0
      obtain ⟨u0, y0, n0, c0, t0⟩ := hf 0 _ rfl
      obtain ⟨u1, y1, n1, c1, t1⟩ := hf 1 _ rfl
      obtain ⟨u2, y2, n2, c2, t2⟩ := hf 2 _ rfl
      obtain ⟨u3, y3, n3, c3, t3⟩ := hf 3 _ rfl
      obtain ⟨u4, y4, n4, c4, t4⟩ := hf 4 _ rfl
      obtain ⟨u5, y5, n5, c5, t5⟩ := hf 5 _ rfl
      rw [add_flat] at c0 c1 c2 c3 c4 c5
      obtain ⟨b0, e0, _⟩ := DataW.trod_bool Tryz.underlying4 t0
      obtain ⟨b1, e1, _⟩ := DataW.trod_bool Tryz.underlying4 t1
      obtain ⟨b2, e2, _⟩ := DataW.trod_bool Tryz.underlying4 t2
      obtain ⟨s3, e3, _, hs3⟩ := DataW.trod_string Tryz.underlying9 t3
      obtain ⟨k4, e4, _, _⟩ := DataW.trod_int Tryz.underlying3 t4
      obtain ⟨fs, hfs, hfl⟩ := read_fates t5
      obtain rfl : u0 = .bool b0 := by simpa using e0
      obtain rfl : u1 = .bool b1 := by simpa using e1
      obtain rfl : u2 = .bool b2 := by simpa using e2
      obtain rfl : u3 = .string s3 := by simpa using e3
      obtain rfl : u4 = .int .i64 k4 := by simpa using e4
      refine ⟨⟨b0, b1, b2, s3.data.toList, k4, fs⟩, fun _ => ⟨b, o, u5, rfl, c0, c1, c2, c3, c4, c5, hfs, hfl, ?_, cell_lt c0⟩⟩
      unfold maxLen at hs3
      simpa using hs3
    · exact ⟨⟨false, false, false, [], 0, []⟩, fun h => absurd h hlt⟩
  refine ⟨(List.range len).map fun i => Classical.choose (hE i), ⟨a, cap, by simp, fun i t ht => ?_⟩, by simpa [maxLen] using hm⟩
  have hil : i < len := by
    have := (List.getElem?_eq_some_iff.1 ht).1
    simpa using this
  obtain rfl : Classical.choose (hE i) = t := by simpa [hil] using ht
  exact Classical.choose_spec (hE i) hil
end
end Go.Proofs.YtkeamfdceehliaaGreatDoor

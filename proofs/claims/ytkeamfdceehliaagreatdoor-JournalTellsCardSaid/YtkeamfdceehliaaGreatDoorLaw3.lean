/- Tries in memory, as the laws JournalTells and JournalSafe take them. -/
import Derived.Test.YtkeamfdceehliaaGreatDoorLaw2
namespace Go.Proofs.YtkeamfdceehliaaGreatDoor
open Go.RowKit

theorem Fr.low {w w' : World} {B : Nat} {ts : List Nat} (h : Fr B ts w w') (hB : B ≤ w.heap.size) : Below B w w' := by
  have := h.below
  rwa [Nat.min_eq_left hB] at this

theorem owns_grown {w w1 : World} {B t n : Nat} {v : Value} {xs : List Value} (h : w.ownsRow B t 1 v n xs) (hg : w.grownBy w1 v.ownBlock) : Fr B [t] w w1 := by
  refine (Fr.refl B [t] w).grown hg (fun k hk => .inr ?_)
  rcases h.2 with ⟨hv, _⟩ | ⟨g, cap, cur, hv, hb, hh, _⟩
  · rw [hv] at hk
    cases hk
  · rw [hv] at hk
    cases hk
    exact ⟨hb, _, _, by simp, hh⟩

structure TryM where
  snaps : Bool
  crashes : Bool
  twice : Bool
  text : List UInt8
  fail : Int
  fates : List Dk.Fate

/-- A try at a place: six cells. -/
structure TryAt (w : World) (b o : Nat) (t : TryM) (fv : Value) : Prop where
  c0 : w.cell? ⟨b, o, none⟩ = some (.bool t.snaps)
  c1 : w.cell? ⟨b, o + 1, none⟩ = some (.bool t.crashes)
  c2 : w.cell? ⟨b, o + 2, none⟩ = some (.bool t.twice)
  c3 : w.cell? ⟨b, o + 3, none⟩ = some (.string (BA t.text))
  c4 : w.cell? ⟨b, o + 4, none⟩ = some (.int .i64 t.fail)
  c5 : w.cell? ⟨b, o + 5, none⟩ = some fv
  fates : FatesAt w fv t.fates
  flt : ∀ b o n c, 0 < t.fates.length → fv = .slice (some ⟨b, o, none⟩) n c → b < w.heap.size
  text : t.text.length ≤ 9223372036854775807
  lt : b < w.heap.size
structure TriesAt (w : World) (v : Value) (l : List TryM) : Prop where
  form : ∃ a cap, v = .slice a l.length cap ∧ ∀ i t, l[i]? = some t → ∃ b o fv, a = some ⟨b, o, none⟩ ∧ TryAt w b (o + i * 6) t fv
  few : l.length ≤ 9223372036854775807

theorem FatesAt.below {w w' : World} {v : Value} {fs : List Dk.Fate} (h : FatesAt w v fs) (hb : Below w.heap.size w w') : FatesAt w' v fs := by
  obtain ⟨⟨a, cap, hv, hc⟩, hf⟩ := h
  refine ⟨⟨a, cap, hv, fun i f hi => ?_⟩, hf⟩
  obtain ⟨b, o, ha, h1, h2, h3⟩ := hc i f hi
  exact ⟨b, o, ha, (hb.cell (p := ⟨b, o + i * 2, none⟩) h3).trans h1, (hb.cell (p := ⟨b, o + i * 2 + 1, none⟩) h3).trans h2, Nat.lt_of_lt_of_le h3 hb.size⟩
theorem TryAt.below {w w' : World} {b o : Nat} {t : TryM} {fv : Value} (h : TryAt w b o t fv) (hb : Below w.heap.size w w') : TryAt w' b o t fv :=
  ⟨(hb.cell (p := ⟨b, o, none⟩) h.lt).trans h.c0, (hb.cell (p := ⟨b, o + 1, none⟩) h.lt).trans h.c1, (hb.cell (p := ⟨b, o + 2, none⟩) h.lt).trans h.c2, (hb.cell (p := ⟨b, o + 3, none⟩) h.lt).trans h.c3, (hb.cell (p := ⟨b, o + 4, none⟩) h.lt).trans h.c4,
    (hb.cell (p := ⟨b, o + 5, none⟩) h.lt).trans h.c5, h.fates.below hb, fun b o n c z e => Nat.lt_of_lt_of_le (h.flt b o n c z e) hb.size, h.text, Nat.lt_of_lt_of_le h.lt hb.size⟩
end Go.Proofs.YtkeamfdceehliaaGreatDoor

/- Words of this seat: what a call leaves of the memory that was there ('Fr': below block B nothing is turned, from B on only blocks of the named types), and small lemmas on blocks. -/
import Derived.Test.YtkeamfdceehliaaGreatDoorProg
import Derived.WalkKit
import Derived.BigQuiet
import Derived.Deep.QuietTactic
import Derived.StillTailTactics
import Derived.Lib.Hide
import Derived.Laws.CopyOwn
namespace Go.Proofs.YtkeamfdceehliaaGreatDoor
open Go.RowKit

/-- A block of cells, of an element type, not frozen. -/
def Blk (w : World) (b : Nat) (cs : List Value) (t : Nat) : Prop := w.heap[b]? = some (.cells cs.toArray t (0, 0))

/-- Which old blocks a call may turn: those of cells, of one of these types. -/
def Touch (ts : List Nat) : Obj → Prop
  | .cells _ t _ => t ∈ ts
  | _ => False

structure Fr (B : Nat) (ts : List Nat) (w w' : World) : Prop where
  os : w'.os = w.os
  tape : w'.tape = w.tape
  output : w'.output = w.output
  size : w.heap.size ≤ w'.heap.size
  block : ∀ k o, w.heap[k]? = some o → (k < B ∨ ¬ Touch ts o) → w'.heap[k]? = some o

theorem lt_of_get {w : World} {k : Nat} {o : Obj} (h : w.heap[k]? = some o) : k < w.heap.size := (Array.getElem?_eq_some_iff.1 h).1

theorem Fr.refl (B : Nat) (ts : List Nat) (w : World) : Fr B ts w w := ⟨rfl, rfl, rfl, Nat.le_refl _, fun _ _ h _ => h⟩
theorem Fr.trans {B : Nat} {ts : List Nat} {a b c : World} (h : Fr B ts a b) (k : Fr B ts b c) : Fr B ts a c :=
  ⟨k.os.trans h.os, k.tape.trans h.tape, k.output.trans h.output, Nat.le_trans h.size k.size, fun i o hi ho => k.block i o (h.block i o hi ho) ho⟩
theorem Fr.mono {B B' : Nat} {ts ts' : List Nat} {w w' : World} (h : Fr B ts w w') (hB : B' ≤ B) (ht : ∀ t ∈ ts, t ∈ ts') : Fr B' ts' w w' :=
  ⟨h.os, h.tape, h.output, h.size, fun k o hk ho => h.block k o hk (ho.elim (fun x => .inl (Nat.lt_of_lt_of_le x hB)) (fun x => .inr (fun y => x (by
    cases o <;> simp only [Touch] at y ⊢
    exact ht _ y))))⟩
theorem Fr.drew {B : Nat} {ts : List Nat} {a w : World} (h : Fr B ts a w) : Fr B ts a w.drew := ⟨h.os, h.tape, h.output, h.size, h.block⟩
theorem Fr.drewN {B : Nat} {ts : List Nat} {a w : World} (h : Fr B ts a w) (n : Nat) : Fr B ts a (w.drewN n) := ⟨h.os, h.tape, h.output, h.size, h.block⟩
theorem Fr.alloc {B : Nat} {ts : List Nat} {a w : World} (h : Fr B ts a w) (o : Obj) : Fr B ts a (w.alloc o) :=
  h.trans ⟨rfl, rfl, rfl, by simp, fun k _ hk _ => (Below.heap_alloc w o k (lt_of_get hk)).trans hk⟩
/-- A store into a block that the call has made. -/
theorem Fr.setNew {B : Nat} {ts : List Nat} {a w : World} (h : Fr B ts a w) {p : Addr} (hp : a.heap.size ≤ p.block) (u : Value) : Fr B ts a (w.setCell p u) :=
  ⟨h.os, h.tape, h.output, by simpa [World.setCell] using h.size, fun k o hk ho => by
    rw [Below.heap_setCell _ _ _ _ (by have := lt_of_get hk; omega)]; exact h.block k o hk ho⟩
/-- A store into an old block of one of the types. -/
theorem Fr.setOld {B : Nat} {ts : List Nat} {a w : World} (h : Fr B ts a w) {p : Addr} {c : Array Value} {t : Nat} {fz : Nat × Nat} (hb : B ≤ p.block) (hc : a.heap[p.block]? = some (.cells c t fz)) (ht : t ∈ ts) (u : Value) : Fr B ts a (w.setCell p u) :=
  ⟨h.os, h.tape, h.output, by simpa [World.setCell] using h.size, fun k o hk ho => by
    by_cases e : k = p.block
    · subst e
      rw [hc] at hk
      cases hk
      exact absurd ht (ho.elim (fun x => absurd hb (by omega)) id)
    · rw [Below.heap_setCell _ _ _ _ e]; exact h.block k o hk ho⟩
theorem Fr.get {B : Nat} {ts : List Nat} {w w' : World} (h : Fr B ts w w') {k : Nat} {c : Array Value} {t : Nat} {fz : Nat × Nat} (hk : w.heap[k]? = some (.cells c t fz)) (ht : t ∉ ts) : w'.heap[k]? = some (.cells c t fz) :=
  h.block k _ hk (.inr ht)
theorem Fr.below {B : Nat} {ts : List Nat} {w w' : World} (h : Fr B ts w w') : Below (min B w.heap.size) w w' :=
  ⟨h.os, h.tape, h.output, h.size, fun k hk => by
    have hlt : k < w.heap.size := by omega
    have hs : w.heap[k]? = some w.heap[k] := by simp [hlt]
    rw [hs]
    exact h.block k _ hs (.inl (by omega))⟩
theorem Fr.cell {B : Nat} {ts : List Nat} {w w' : World} (h : Fr B ts w w') {p : Addr} {c : Array Value} {t : Nat} {fz : Nat × Nat} (hk : w.heap[p.block]? = some (.cells c t fz)) (ht : t ∉ ts) : w'.cell? p = w.cell? p :=
  World.cell?_of_block ((h.get hk ht).trans hk.symm)

theorem Blk.cell {w : World} {b : Nat} {cs : List Value} {t : Nat} (h : Blk w b cs t) (i : Nat) : w.cell? ⟨b, i, none⟩ = cs[i]? := by
  have := cell_of_row w b i _ _ _ h
  simpa using this
theorem Blk.free {w : World} {b : Nat} {cs : List Value} {t : Nat} (h : Blk w b cs t) (i : Nat) : w.frozen? ⟨b, i, none⟩ = false := frozen_of_row w b i _ _ h
theorem Blk.lt {w : World} {b : Nat} {cs : List Value} {t : Nat} (h : Blk w b cs t) : b < w.heap.size := lt_of_get h
theorem Blk.fr {B : Nat} {ts : List Nat} {w w' : World} {b : Nat} {cs : List Value} {t : Nat} (h : Blk w b cs t) (hf : Fr B ts w w') (ht : t ∉ ts) : Blk w' b cs t := hf.get h ht
theorem Blk.alloc {w : World} {b : Nat} {cs : List Value} {t : Nat} (h : Blk w b cs t) (o : Obj) : Blk (w.alloc o) b cs t := by
  unfold Blk; rw [Below.heap_alloc _ _ _ h.lt]; exact h
theorem Blk.new (w : World) (cs : List Value) (t : Nat) : Blk (w.alloc (.cells cs.toArray t)) w.heap.size cs t := heap_alloc_new _ _
theorem Blk.newAt (w : World) (cs : List Value) (t : Nat) {b : Nat} (hb : b = w.heap.size) : Blk (w.alloc (.cells cs.toArray t)) b cs t := by subst hb; exact Blk.new w cs t
theorem Blk.below {w w' : World} {B b : Nat} {cs : List Value} {t : Nat} (h : Blk w b cs t) (hb : Below B w w') (hlt : b < B) : Blk w' b cs t := (hb.block b hlt).trans h
theorem Fr.of_below {w w' : World} {B : Nat} {ts : List Nat} (h : Below w.heap.size w w') : Fr B ts w w' := ⟨h.os, h.tape, h.output, h.size, fun k _o hk _ => (h.block k (lt_of_get hk)).trans hk⟩
theorem Below.of_fr {w w' : World} {B : Nat} {ts : List Nat} (h : Fr B ts w w') (hB : w.heap.size ≤ B) : Below w.heap.size w w' := by
  have := h.below
  rwa [Nat.min_eq_right hB] at this
theorem Blk.set {w : World} {b : Nat} {cs : List Value} {t : Nat} (h : Blk w b cs t) (i : Nat) (u : Value) : Blk (w.setCell ⟨b, i, none⟩ u) b (cs.set i u) t := by
  have := heap_setCell_same w b i _ t u h
  simpa [Blk] using this
theorem Blk.other {w : World} {b : Nat} {cs : List Value} {t : Nat} (h : Blk w b cs t) {p : Addr} (hne : b ≠ p.block) (u : Value) : Blk (w.setCell p u) b cs t := by
  unfold Blk; rw [heap_setCell_other _ _ _ _ hne]; exact h
theorem Blk.drew {w : World} {b : Nat} {cs : List Value} {t : Nat} (h : Blk w b cs t) : Blk w.drew b cs t := h
theorem Blk.drewN {w : World} {b : Nat} {cs : List Value} {t : Nat} (h : Blk w b cs t) (n : Nat) : Blk (w.drewN n) b cs t := h
theorem Fr.setB {B : Nat} {ts : List Nat} {a w : World} (h : Fr B ts a w) {b i : Nat} {cs : List Value} {t : Nat} (hb : B ≤ b) (hc : Blk a b cs t) (ht : t ∈ ts) (u : Value) : Fr B ts a (w.setCell ⟨b, i, none⟩ u) :=
  h.setOld (p := ⟨b, i, none⟩) hb hc ht u
/-- Blocks of two types are two. -/
theorem Blk.ne {w : World} {b b' : Nat} {cs cs' : List Value} {t t' : Nat} (h : Blk w b cs t) (h' : Blk w b' cs' t') (ht : t ≠ t') : b ≠ b' := by
  rintro rfl
  unfold Blk at h h'
  rw [h] at h'
  cases h'
  exact ht rfl

theorem retB {a b : Bool} (h : a = b) : Ending.returned (.bool a) = Ending.returned (.bool b) := by rw [h]
theorem retI {k : IntKind} {a b : Int} (h : a = b) : Ending.returned (.int k a) = Ending.returned (.int k b) := by rw [h]
theorem retV {a b : Value} (h : a = b) : Ending.returned a = Ending.returned b := by rw [h]

/-- A byte in memory; a text's bytes; a text as a value. -/
def byteV (b : UInt8) : Value := .int .u8 b.toNat
def bytesV (l : List UInt8) : List Value := l.map byteV
def BA (l : List UInt8) : ByteArray := ⟨l.toArray⟩
def strV (l : List UInt8) : Value := .string (BA l)

end Go.Proofs.YtkeamfdceehliaaGreatDoor

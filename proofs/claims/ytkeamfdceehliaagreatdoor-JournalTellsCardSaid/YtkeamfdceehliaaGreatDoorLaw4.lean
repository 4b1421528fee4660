/- JournalSafe: what stands in memory between its steps. -/
import Derived.Test.YtkeamfdceehliaaGreatDoorLaw3
import Derived.Deep.DeepCutAuto
import Derived.Laws.AppendOwnNone
namespace Go.Proofs.YtkeamfdceehliaaGreatDoor
open Go.RowKit

abbrev TTry : Nat := 43
def OldP (E e jj : Nat) (data : List UInt8) (ops : List (List UInt8)) (t : List (List UInt8)) : Prop := ∃ E', E' ≤ E + 1 ∧ Inv 2 6 t E' e jj data ops
def NewP (E : Nat) (data : List UInt8) (ops : List (List UInt8)) (t : List (List UInt8)) : Prop := ∃ E' e' jj', E' ≤ E + 1 ∧ Inv 2 6 t E' e' jj' data ops

theorem owns_below {w w' : World} {B size n t : Nat} {v : Value} {xs : List Value} (h : w.ownsRow B t size v n xs) (hb : Below w.heap.size w w') : w'.ownsRow B t size v n xs := by
  have hlt := h.lt
  obtain ⟨h1, h2⟩ := h
  refine ⟨h1, h2.elim .inl (fun ⟨g, cap, cur, hv, hg, hh, r⟩ => .inr ⟨g, cap, cur, hv, hg, (hb.block g (lt_of_get hh)).trans hh, r⟩)⟩

theorem owns_empty (w : World) : (w.alloc (.cells #[] 9)).ownsRow w.heap.size 9 1 (.slice (some ⟨w.heap.size, 0, none⟩) 0 0) 0 (strsV []) :=
  ⟨rfl, .inr ⟨w.heap.size, 0, #[], rfl, Nat.le_refl _, heap_alloc_new _ _, Nat.le_refl _, by unfold maxLen; omega, rfl, rfl⟩⟩
theorem owns_news {w : World} {B g n c : Nat} {l : List (List UInt8)} (h : w.ownsRow B 9 1 (.slice (some ⟨g, 0, none⟩) n c) n (strsV l)) : ∀ j u, (strsV l)[j]? = some u → w.cell? ((⟨g, 0, none⟩ : Addr).add j) = some u := h.cells rfl
theorem strsV_one (l : List (List UInt8)) : ∀ u ∈ strsV l, u.oneCell' = true := by
  intro u hu
  unfold strsV at hu
  rw [List.mem_map] at hu
  obtain ⟨s, _, rfl⟩ := hu
  rfl

/-- A found in memory: a block, and the row that it points to. -/
structure FoundIn (B : Nat) (w : World) (b : Nat) (data : List UInt8) (ops : List (List UInt8)) (v : Value) : Prop where
  blk : Blk w b [.string (BA data), v] TFound
  own : w.ownsRow B 9 1 v ops.length (strsV ops)
theorem FoundIn.fr {B b : Nat} {w w' : World} {data : List UInt8} {ops : List (List UInt8)} {v : Value} {ts : List Nat} (h : FoundIn B w b data ops v) (hf : Fr B ts w w') (h1 : TFound ∉ ts) (h2 : 9 ∉ ts) : FoundIn B w' b data ops v :=
  ⟨h.blk.fr hf h1, owns_fr h.own hf h2⟩
theorem FoundIn.below {B b : Nat} {w w' : World} {data : List UInt8} {ops : List (List UInt8)} {v : Value} (h : FoundIn B w b data ops v) (hb : Below w.heap.size w w') : FoundIn B w' b data ops v :=
  ⟨h.blk.below hb h.blk.lt, owns_below h.own hb⟩
theorem FoundIn.other {B b : Nat} {w : World} {data : List UInt8} {ops : List (List UInt8)} {v : Value} (h : FoundIn B w b data ops v) {b2 i : Nat} {cs : List Value} (h2 : Blk w b2 cs TFound) (hne : b ≠ b2) (u : Value) : FoundIn B (w.setCell ⟨b2, i, none⟩ u) b data ops v :=
  ⟨h.blk.other hne u, owns_other h.own h2 (by decide) i u⟩
theorem FoundIn.form {B b : Nat} {w : World} {data : List UInt8} {ops : List (List UInt8)} {v : Value} (h : FoundIn B w b data ops v) : ∃ a c, v = .slice a ops.length c := by
  obtain ⟨-, a, c, hv, -⟩ := owns_cell h.own
  exact ⟨a, c, hv⟩

/-- append(own, a row that is read, nil or not). -/
theorem wpList_appRow {ops : Array Oper} {rest : List Oper} {o : Oper} {a : Act} {w : World} {Q : Exit → Act → World → Prop} {s x : Operand} {B B2 n m : Nat} {v u : Value} {xs news : List Value} (hgd : o.guard = none)
    (ho : o.op = .call { callee := .builtin .append, args := #[s, x], argTypes := #[31, 31] }) (hs : a.eval s = v) (hown : w.ownsRow B 9 1 v n xs) (hx : a.eval x = u) (hsrc : w.ownsRow B2 9 1 u m news)
    (h1 : ∀ y ∈ news, y.oneCell' = true) (h63 : n + m ≤ 1000000) (hbase : B ≤ w.heap.size)
    (h : ∀ v' w', w'.ownsRow B 9 1 v' (n + m) (xs ++ news) → Fr B [9] w w' → wpList Tryz.prog ops Q rest (a.put o.dst v') w') : wpList Tryz.prog ops Q (o :: rest) a w := by
  have hl := hsrc.1
  have hcells : ∀ g c, u = .slice (some ⟨g, 0, none⟩) m c → ∀ j y, news[j]? = some y → w.cell? ((⟨g, 0, none⟩ : Addr).add j) = some y := fun g c hu => hsrc.cells (by rw [hu]; rfl)
  rcases hsrc.2 with ⟨hu, h0⟩ | ⟨g, cap, cur, hu, _⟩
  · subst h0
    obtain rfl : news = [] := List.length_eq_zero_iff.1 (by omega)
    obtain ⟨i0, z0, hi0, _, _, _, _⟩ := infoStr.ex
    refine wpList_append_own_none hgd s x 31 ho B 9 i0 1 undStrs hi0 v n xs hs hown (hx.trans hu) ?_
    exact h v w (by simpa using hown) (Fr.refl _ _ _)
  · refine wpList_app1 (s := s) (x := x) (m := m) (news := news) hgd ho undStrs infoStr (by omega) hs hown (hx.trans hu) hl (hcells g cap hu) h1 (by unfold maxLen; omega) (by omega) hbase ?_
    intro v' w' hv' hg'
    exact h v' w' hv' (owns_grown hown hg')

theorem form_succ {w : World} {B t size n : Nat} {v : Value} {xs : List Value} (h : w.ownsRow B t size v (n + 1) xs) : ∃ a c, v = .slice a (n + 1) c := by
  rcases h.2 with ⟨_, h2⟩ | ⟨_, _, _, h1, _⟩
  · omega
  · exact ⟨_, _, h1⟩

/-- Behind the append: the copy's row is made, all that was there is as it was. -/
structure NextIn (w4 w8 : World) (l : List (List UInt8)) (v : Value) : Prop where
  low : Below w4.heap.size w4 w8
  own : w8.ownsRow w4.heap.size 9 1 v l.length (strsV l)
theorem NextIn.of {w4 w6 w8 : World} {ops : List (List UInt8)} {s : List UInt8} {v6 v8 : Value} (h6 : Below w4.heap.size w4 w6) (ho6 : w6.ownsRow w4.heap.size 9 1 v6 ops.length (strsV ops))
    (hv : (w6.alloc (.cells #[.string (BA s)] 9)).ownsRow w4.heap.size 9 1 v6 ops.length (strsV ops) → w8.ownsRow w4.heap.size 9 1 v8 (ops.length + 1) (strsV ops ++ [.string (BA s)])) (hg : (w6.alloc (.cells #[.string (BA s)] 9)).grownBy w8 v6.ownBlock) : NextIn w4 w8 (ops ++ [s]) v8 := by
  have ho7 := ho6.alloc (.cells #[.string (BA s)] 9)
  have hf8 := owns_grown ho7 hg
  have h7 : Below w4.heap.size w4 (w6.alloc (.cells #[.string (BA s)] 9)) := h6.alloc h6.size _
  refine ⟨h7.trans (hf8.low h7.size), ?_⟩
  have := hv ho7
  simpa [strsV, strV] using this

/-- Behind a try: what was, what would be, and the disk. -/
structure TryDone (w wx : World) (d wb nb tb : Nat) (cs : List Value) (sn : Bool) (E e jj : Nat) (data : List UInt8) (ops : List (List UInt8)) (v : Value) (er : Int) (data2 : List UInt8) (ops2 : List (List UInt8)) (v2 : Value) (D : Dk) : Prop where
  dsk : ∃ sb osl, DiskIn w.heap.size wx d sb osl D
  had : FoundIn w.heap.size wx wb data ops v
  nxt : FoundIn w.heap.size wx nb data2 ops2 v2
  tb : Blk wx tb cs TTry
  fr : Below w.heap.size w wx
  out : (er = 0 ∧ Fin (NewP E data2 ops2) D) ∨ (er = 18 ∧ Fin (fun t => OldP E e jj data ops t ∨ NewP E data2 ops2 t) D) ∨ (er = 22 ∧ sn = false ∧ ops.length = 6 ∧ Fin (OldP E e jj data ops) D)
  few : ops2.length ≤ 7

theorem TryDone.step {w wx wy : World} {d wb nb tb : Nat} {cs : List Value} {sn : Bool} {E e jj : Nat} {data : List UInt8} {ops : List (List UInt8)} {v : Value} {er : Int} {data2 : List UInt8} {ops2 : List (List UInt8)} {v2 : Value} {D D' : Dk} {ts : List Nat}
    (h : TryDone w wx d wb nb tb cs sn E e jj data ops v er data2 ops2 v2 D) (hf : Fr w.heap.size ts wx wy) (h1 : TFound ∉ ts) (h2 : 9 ∉ ts) (h3 : TTry ∉ ts) (hd : ∃ sb osl, DiskIn w.heap.size wy d sb osl D') (hfin : ∀ P, Fin P D → Fin P D') :
    TryDone w wy d wb nb tb cs sn E e jj data ops v er data2 ops2 v2 D' := by
  refine ⟨hd, h.had.fr hf h1 h2, h.nxt.fr hf h1 h2, h.tb.fr hf h3, h.fr.trans (hf.low h.fr.size), ?_, h.few⟩
  rcases h.out with ⟨a, b⟩ | ⟨a, b⟩ | ⟨a, b, c, d⟩
  · exact .inl ⟨a, hfin _ b⟩
  · exact .inr (.inl ⟨a, hfin _ b⟩)
  · exact .inr (.inr ⟨a, b, c, hfin _ d⟩)
/-- What Open finds behind it. -/
theorem TryDone.found {w wx : World} {d wb nb tb : Nat} {cs : List Value} {sn : Bool} {E e jj : Nat} {data : List UInt8} {ops : List (List UInt8)} {v : Value} {er : Int} {data2 : List UInt8} {ops2 : List (List UInt8)} {v2 : Value} {D : Dk}
    (h : TryDone w wx d wb nb tb cs sn E e jj data ops v er data2 ops2 v2 D) : ∃ E' e' jj' dF oF, E' ≤ E + 1 ∧ Inv 2 6 (Dk.lay D.secs D.opens) E' e' jj' dF oF ∧
      ((er = 0 ∧ dF = data2 ∧ oF = ops2) ∨ (er = 18 ∧ ((dF = data ∧ oF = ops) ∨ (dF = data2 ∧ oF = ops2))) ∨ (er = 22 ∧ sn = false ∧ ops.length = 6 ∧ dF = data ∧ oF = ops)) := by
  obtain ⟨sb, osl, hd⟩ := h.dsk
  rcases h.out with ⟨a, b⟩ | ⟨a, b⟩ | ⟨a, b, c, g⟩
  · obtain ⟨E', e', jj', h1, h2⟩ := b.lay hd
    exact ⟨E', e', jj', data2, ops2, h1, h2, .inl ⟨a, rfl, rfl⟩⟩
  · rcases b.lay hd with ⟨E', h1, h2⟩ | ⟨E', e', jj', h1, h2⟩
    · exact ⟨E', e, jj, data, ops, h1, h2, .inr (.inl ⟨a, .inl ⟨rfl, rfl⟩⟩)⟩
    · exact ⟨E', e', jj', data2, ops2, h1, h2, .inr (.inl ⟨a, .inr ⟨rfl, rfl⟩⟩)⟩
  · obtain ⟨E', h1, h2⟩ := g.lay hd
    exact ⟨E', e, jj, data, ops, h1, h2, .inr (.inr ⟨a, b, c, rfl, rfl⟩)⟩

/-- Behind Open: what was, what would be, what was found. -/
structure OpenDone (w wx : World) (d j wb nb fb tb : Nat) (cs : List Value) (E e jj : Nat) (data : List UInt8) (ops : List (List UInt8)) (v : Value) (data2 : List UInt8) (ops2 : List (List UInt8)) (v2 : Value) (dF : List UInt8) (oF : List (List UInt8)) (vF : Value) : Prop where
  jr : ∃ D, Jrn w.heap.size wx d j 2 6 D E e jj dF oF ∧ D.fail = 0
  had : FoundIn w.heap.size wx wb data ops v
  nxt : FoundIn w.heap.size wx nb data2 ops2 v2
  fnd : FoundIn w.heap.size wx fb dF oF vF
  tb : Blk wx tb cs TTry
  fr : Below w.heap.size w wx
theorem OpenDone.fr' {w wx wy : World} {d j wb nb fb tb : Nat} {cs : List Value} {E e jj : Nat} {data : List UInt8} {ops : List (List UInt8)} {v : Value} {data2 : List UInt8} {ops2 : List (List UInt8)} {v2 : Value} {dF : List UInt8} {oF : List (List UInt8)} {vF : Value}
    (h : OpenDone w wx d j wb nb fb tb cs E e jj data ops v data2 ops2 v2 dF oF vF) (hf : Fr w.heap.size [] wx wy) : OpenDone w wy d j wb nb fb tb cs E e jj data ops v data2 ops2 v2 dF oF vF := by
  obtain ⟨⟨D, hj, hz⟩, h1, h2, h3, h4, h5⟩ := h
  exact ⟨⟨D, hj.fr hf (by simp) (by simp) (by simp) (by simp) (by simp) (by simp), hz⟩, h1.fr hf (by simp) (by simp), h2.fr hf (by simp) (by simp), h3.fr hf (by simp) (by simp), h4.fr hf (by simp), h5.trans (hf.low h5.size)⟩

/-- How far the tries have come. -/
structure SafeR (w : World) (d j wb i : Nat) (wr : World) : Prop where
  out : ∃ D E e jj data ops v, Jrn w.heap.size wr d j 2 6 D E e jj data ops ∧ E ≤ 1 + i ∧ FoundIn w.heap.size wr wb data ops v ∧ w.heap.size ≤ wb ∧ Below w.heap.size w wr
end Go.Proofs.YtkeamfdceehliaaGreatDoor

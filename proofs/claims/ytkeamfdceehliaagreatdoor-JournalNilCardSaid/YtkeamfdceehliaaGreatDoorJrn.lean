/- A journal in memory, over a disk that shows what it holds: what each of its calls comes to. -/
import Derived.Test.YtkeamfdceehliaaGreatDoorInv3
import Derived.Test.YtkeamfdceehliaaGreatDoorJour5
namespace Go.Proofs.YtkeamfdceehliaaGreatDoor
open Go.RowKit

abbrev TJs : List Nat := [TDisk, TSec, TWr, TSlots, TLog, TJour]

theorem DiskIn.fail0 {B d sb : Nat} {osl : Value} {D : Dk} {w : World} (h : DiskIn B w d sb osl D) : Sec64 D.secs := h.len

/-- A journal that is good, over a disk without open writes. -/
structure Jrn (B : Nat) (w : World) (d j k n : Nat) (D : Dk) (E e jj : Nat) (data : List UInt8) (ops : List (List UInt8)) : Prop where
  dsk : ∃ sb osl, DiskIn B w d sb osl D
  op : D.opens = []
  inv : Inv k n D.secs E e jj data ops
  jr : ∃ b s, JourIn B w d j b s k n true E jj (some ((e : Int), ops.length)) true e

theorem JourIn.fr {B : Nat} {w w' : World} {d j b s k n : Nat} {rd : Bool} {nw last : Int} {st : Option (Int × Nat)} {g : Bool} {ep : Int} {ts : List Nat} (h : JourIn B w d j b s k n rd nw last st g ep) (hf : Fr B ts w w') (h1 : TJour ∉ ts) (h2 : TLog ∉ ts) (h3 : TSlots ∉ ts) : JourIn B w' d j b s k n rd nw last st g ep :=
  ⟨h.pj.fr hf h1, h.pl.fr hf h2, h.ps.fr hf h3, h.bj, h.bb, h.bs⟩
theorem Jrn.fr {B : Nat} {w w' : World} {d j k n : Nat} {D : Dk} {E e jj : Nat} {data : List UInt8} {ops : List (List UInt8)} {ts : List Nat} (h : Jrn B w d j k n D E e jj data ops) (hf : Fr B ts w w') (h1 : TJour ∉ ts) (h2 : TLog ∉ ts) (h3 : TSlots ∉ ts) (h4 : TDisk ∉ ts) (h5 : TSec ∉ ts) (h6 : TWr ∉ ts) : Jrn B w' d j k n D E e jj data ops := by
  obtain ⟨⟨sb, osl, hd⟩, op, inv, b, s, hj⟩ := h
  exact ⟨⟨sb, osl, hd.fr hf h4 h5 h6⟩, op, inv, b, s, hj.fr hf h1 h2 h3⟩

/-- An empty disk is begun. -/
theorem jr_format {B d sb k n : Nat} {osl : Value} {D : Dk} {w : World} {data : List UInt8} (hD : DiskIn B w d sb osl D) (hs : D.secs = List.replicate (2 * k + n) Dk.zsec) (hop : D.opens = []) (hf : D.fail = 0) (hB : B ≤ w.heap.size) (h1 : 1 ≤ k) (h2 : k ≤ 64) (h3 : 1 ≤ n) (h4 : n ≤ 200) (hl : data.length ≤ 43 * k) :
    Calls Tryz.prog 9 #[dp d, .int .i64 k, .string (BA data)] w fun r w' => ∃ j D', r = .returned (.tuple #[dp j, .int .i64 0]) ∧ Jrn B w' d j k n D' 1 1 0 data [] ∧ D'.fail = 0 ∧ Fr B TJs w w' := by
  have hrd := zero_read k n D hs h1 hf hop
  have hr := readsN_same (2 * k) D
  have hw : wrJ (-1) = 0 := rfl
  rcases puAll_form (0 * k) k 1 data (readsN (2 * k) D) (by rw [hr.2.1, hop]) with ⟨_, h, _⟩ | ⟨hp1, f, hf0, _, hp2⟩
  · exact absurd (hr.2.2 hf) h
  · have hslen : D.secs.length = 2 * k + n := by rw [hs]; simp
    refine (format_ok hD hB h1 h2 (by omega) (by omega) (by rw [hrd]) (by rw [hrd]; simp only; omega) (by rw [hrd]; simp [hr.2.1, hop]) (D2 := { readsN (2 * k) D with secs := Dk.lay (readsN (2 * k) D).secs (wrs (0 * k) 1 data k), opens := [], fail := f }) (by rw [hrd]; simp only [hw]; exact Prod.ext hp1 hp2)).mono ?_
    rintro r w' ⟨j, b, s, rfl, ⟨osl', hd'⟩, hj', hfr⟩
    refine ⟨j, _, rfl, ⟨⟨sb, osl', hd'⟩, rfl, ?_, b, s, ?_⟩, hf0 (hr.2.2 hf), hfr⟩
    · simp only [hr.1, hs]
      exact Inv.first k n h1 h2 h4 data hl
    · rw [hrd] at hj'
      have e1 : D.secs.length - 2 * k = n := by omega
      rw [e1] at hj'
      simpa [hw] using hj'

variable {B d j k n : Nat} {D : Dk} {E e jj : Nat} {data : List UInt8} {ops : List (List UInt8)} {w : World}

theorem jr_append (hJ : Jrn B w d j k n D E e jj data ops) (hf : D.fail = 0) (hm : ops.length < n) {s : List UInt8} (hs : s.length ≤ 43) :
    Calls Tryz.prog 10 #[dp j, .string (BA s)] w fun r w' => ∃ D', r = .returned (.int .i64 0) ∧ Jrn B w' d j k n D' E e jj data (ops ++ [s]) ∧ D'.fail = 0 ∧ Fr B TJs w w' := by
  obtain ⟨⟨sb, osl, hd⟩, op, inv, b, s0, hj⟩ := hJ
  have hlen := inv.len
  have hEb := inv.Eb
  have heE := inv.eE
  rcases lgAll_form (2 * k + ops.length) (mkSec s e ops.length) D op with ⟨_, h, _⟩ | ⟨hp1, f, hf0, _, hp2⟩
  · exact absurd hf h
  · refine append_key hd hj hm (by omega) (by omega) hs (by rw [op]; simp) _ ?_
    simp only [hp1, hp2]
    rintro r w' ⟨rfl, ⟨osl', hd'⟩, hj', hfr⟩
    refine ⟨_, rfl, ⟨⟨sb, osl', hd'⟩, rfl, inv.appDone hm hs, b, s0, ?_⟩, hf0 hf, hfr.mono (Nat.le_refl _) (by simp)⟩
    simpa using hj'
theorem jr_append_full (hJ : Jrn B w d j k n D E e jj data ops) (hm : ops.length = n) {s : List UInt8} (hs : s.length ≤ 43) :
    Calls Tryz.prog 10 #[dp j, .string (BA s)] w fun r w' => r = .returned (.int .i64 22) ∧ Jrn B w' d j k n D E e jj data ops ∧ Fr B TJs w w' := by
  obtain ⟨⟨sb, osl, hd⟩, op, inv, b, s0, hj⟩ := hJ
  refine (append_full hd hj (by omega) hs).mono ?_
  rintro r w' ⟨rfl, hd', hj', hfr⟩
  exact ⟨rfl, ⟨⟨sb, osl, hd'⟩, op, inv, b, s0, hj'⟩, hfr.mono (Nat.le_refl _) (by simp)⟩
theorem jr_snapshot (hJ : Jrn B w d j k n D E e jj data ops) (hf : D.fail = 0) (hE : E < 250) {s : List UInt8} (hs : s.length ≤ 43 * k) :
    Calls Tryz.prog 16 #[dp j, .string (BA s)] w fun r w' => ∃ D', r = .returned (.int .i64 0) ∧ Jrn B w' d j k n D' (E + 1) (E + 1) (1 - jj) s [] ∧ D'.fail = 0 ∧ Fr B TJs w w' := by
  obtain ⟨⟨sb, osl, hd⟩, op, inv, b, s0, hj⟩ := hJ
  have hlen := inv.len
  have hk2 := inv.k2
  have hw := wrJ_eq inv.j1
  rcases puAll_form ((1 - jj) * k) k (E + 1 : Nat) s D op with ⟨_, h, _⟩ | ⟨hp1, f, hf0, _, hp2⟩
  · exact absurd hf h
  · have he : ((E : Int) + 1) = ((E + 1 : Nat) : Int) := by omega
    refine snap_key hd hj hk2 (by omega) (by omega) (by omega) (by rw [op]; simp) _ ?_
    simp only [hw, he, hp1, hp2]
    rintro r w' ⟨rfl, ⟨osl', hd'⟩, hj', hfr⟩
    refine ⟨_, rfl, ⟨⟨sb, osl', hd'⟩, rfl, inv.snapDone hE hs hd.len, b, s0, ?_⟩, hf0 hf, hfr⟩
    simpa using hj'

/-- What a try leaves of a disk: however its open writes come there, P holds. -/
def Fin (P : List (List UInt8) → Prop) (D : Dk) : Prop := ∀ f : Nat → Nat, P (tornTo f D.opens D.secs D.opens.length)
theorem Fin.lay {P : List (List UInt8) → Prop} {D : Dk} (h : Fin P D) {B d sb : Nat} {osl : Value} {w : World} (hd : DiskIn B w d sb osl D) : P (Dk.lay D.secs D.opens) := by
  rw [lay_all _ _ hd.len (fun o ho => (hd.olen o ho).2)]
  exact h _
theorem Fin.crash {P : List (List UInt8) → Prop} {D : Dk} (h : Fin P D) (fs : List Dk.Fate) : Fin P (D.crash fs).2 := by
  intro f
  show P (Dk.crashTo fs D.opens D.secs D.opens.length).1
  rw [crashTo_torn]
  exact h _
theorem Fin.fail {P : List (List UInt8) → Prop} {D : Dk} (h : Fin P D) (m : Int) : Fin P (D.setFail m) := h

/-- An Append, faults and all. -/
theorem jr_append_try (hJ : Jrn B w d j k n D E e jj data ops) (hm : ops.length < n) {s : List UInt8} (hs : s.length ≤ 43) :
    Calls Tryz.prog 10 #[dp j, .string (BA s)] w fun r w' => ∃ er sb osl D', r = .returned (.int .i64 er) ∧ DiskIn B w' d sb osl D' ∧
      ((er = 0 ∧ Fin (fun t => Inv k n t E e jj data (ops ++ [s])) D') ∨ (er = 18 ∧ Fin (fun t => Inv k n t E e jj data ops ∨ Inv k n t E e jj data (ops ++ [s])) D')) ∧ Fr B TJs w w' := by
  obtain ⟨⟨sb, osl, hd⟩, op, inv, b, s0, hj⟩ := hJ
  have hlen := inv.len
  have hEb := inv.Eb
  have heE := inv.eE
  refine append_key hd hj hm (by omega) (by omega) hs (by rw [op]; simp) _ ?_
  rcases lgAll_form (2 * k + ops.length) (mkSec s e ops.length) D op with ⟨hp1, h, f, _, hp2⟩ | ⟨hp1, f, hf0, _, hp2⟩
  · rcases hp2 with hp2 | hp2
    all_goals
      simp only [hp1, hp2]
      rintro r w' ⟨rfl, ⟨osl', hd'⟩, hj', hfr⟩
      refine ⟨_, sb, osl', _, rfl, hd', .inr ⟨rfl, ?_⟩, hfr.mono (Nat.le_refl _) (by simp)⟩
    · intro f
      exact .inl inv
    · intro f
      exact inv.appAny hm hs f
  · simp only [hp1, hp2]
    rintro r w' ⟨rfl, ⟨osl', hd'⟩, hj', hfr⟩
    refine ⟨_, sb, osl', _, rfl, hd', .inl ⟨rfl, ?_⟩, hfr.mono (Nat.le_refl _) (by simp)⟩
    intro f
    exact inv.appDone hm hs
/-- A Snapshot, faults and all. -/
theorem jr_snapshot_try (hJ : Jrn B w d j k n D E e jj data ops) (hE : E < 250) {s : List UInt8} (hs : s.length ≤ 43 * k) :
    Calls Tryz.prog 16 #[dp j, .string (BA s)] w fun r w' => ∃ er sb osl D', r = .returned (.int .i64 er) ∧ DiskIn B w' d sb osl D' ∧
      ((er = 0 ∧ Fin (fun t => Inv k n t (E + 1) (E + 1) (1 - jj) s []) D') ∨ (er = 18 ∧ Fin (fun t => (∃ E', E' ≤ E + 1 ∧ Inv k n t E' e jj data ops) ∨ Inv k n t (E + 1) (E + 1) (1 - jj) s []) D')) ∧ Fr B TJs w w' := by
  obtain ⟨⟨sb, osl, hd⟩, op, inv, b, s0, hj⟩ := hJ
  have hlen := inv.len
  have hk2 := inv.k2
  have hw := wrJ_eq inv.j1
  have he : ((E : Int) + 1) = ((E + 1 : Nat) : Int) := by omega
  refine snap_key hd hj hk2 (by omega) (by omega) (by omega) (by rw [op]; simp) _ ?_
  rcases puAll_form ((1 - jj) * k) k (E + 1 : Nat) s D op with ⟨hp1, h, c, f, hc, _, hp2⟩ | ⟨hp1, f, hf0, _, hp2⟩
  · simp only [hw, he, hp1, hp2]
    rintro r w' ⟨rfl, ⟨osl', hd'⟩, hj', hfr⟩
    refine ⟨_, sb, osl', _, rfl, hd', .inr ⟨rfl, ?_⟩, hfr⟩
    intro f
    show _ ∨ _
    simp only [wrs_len]
    rcases inv.snapAny hE hs c hc f with ⟨E', h1, _, h2⟩ | ⟨_, h2⟩
    · exact .inl ⟨E', h1, h2⟩
    · exact .inr h2
  · simp only [hw, he, hp1, hp2]
    rintro r w' ⟨rfl, ⟨osl', hd'⟩, hj', hfr⟩
    refine ⟨_, sb, osl', _, rfl, hd', .inl ⟨rfl, ?_⟩, hfr⟩
    intro f
    exact inv.snapDone hE hs hd.len

/-- Open, where nothing fails. -/
theorem jr_open {sb : Nat} {osl : Value} (hD : DiskIn B w d sb osl D) (hf : D.fail = 0) (hB : B ≤ w.heap.size) (hn : 1 ≤ n) (inv : Inv k n (Dk.lay D.secs D.opens) E e jj data ops) :
    Calls Tryz.prog 12 #[dp d, .int .i64 k] w fun r w' => ∃ j v D' m, r = .returned (.tuple #[dp j, .agg #[.string (BA data), v], .int .i64 0]) ∧ w'.ownsRow w.heap.size 9 1 v ops.length (strsV ops) ∧ Jrn B w' d j k n D' E e jj data ops ∧ D'.fail = 0 ∧ D' = readsN (2 * k + m) (flushed D) ∧ m ≤ n ∧ Fr B TJs w w' := by
  have hlen := inv.len
  have he := inv.e1
  have hbd : D.bad = false := bad0 hf
  have hFf : (flushed D).fail = 0 := by simp [flushed, Dk.tick, hf]
  have hrd := inv.read (flushed D) rfl hFf rfl
  have hr := readsN_same (2 * k) (flushed D)
  obtain ⟨m, hm, hsc⟩ := inv.scan (readsN (2 * k) (flushed D)) (by rw [hr.1]; rfl) (hr.2.2 hFf) (by rw [hr.2.1]; rfl)
  rw [readsN_add] at hsc
  have hr2 := readsN_same (2 * k + m) (flushed D)
  have hop : opAll k n D = (0, readsN (2 * k + m) (flushed D)) := by
    unfold opAll
    rw [if_neg (by simp [hbd]), hrd]
    simp only
    rw [if_neg (by simp), if_neg (by omega), hsc]
  refine open_all hD hB inv.k1 inv.k2 hn (by rw [lay_len] at hlen; omega) _ ⟨?_, ?_⟩
  · intro w' er osl' her hop2 _ _
    rw [hop] at hop2
    exact absurd (Prod.mk.inj hop2).1.symm her
  · intro w' j b s v _ _ hd' hj' ho' hfr
    rw [hop] at hd'
    rw [hrd] at hj' ho'
    simp only [hsc] at hj' ho'
    rw [hrd]
    refine ⟨j, v, _, m, rfl, ho', ⟨⟨sb, _, hd'⟩, by rw [hr2.2.1]; rfl, by rw [hr2.1]; exact inv, b, s, hj'⟩, hr2.2.2 hFf, rfl, hm, hfr.mono (Nat.le_refl _) (by simp)⟩
end Go.Proofs.YtkeamfdceehliaaGreatDoor

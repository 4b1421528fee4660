/- A region that draws its order, walked in ONE order: first operations that yield the same in every world (L), then those that leave the world alone (H), then the rest in the one order that the edges leave (T). -/
import Derived.StillTail
import Derived.KernelRfl
import Derived.Laws.World
namespace Go.Proofs.YtkeamfdceehliaaGreatDoor

section
variable {P : Program} {ops : Array Oper} {Q : Exit → Act → World → Prop}

def bnd (e : Edge) : Bool := Region.binds .any e
def freeOf (ops : Array Oper) (j : Nat) (rem : List Nat) : Bool :=
  match ops[j]? with
  | some o => o.after.all fun e => !bnd e || (decide (e.on < ops.size) && !rem.contains e.on)
  | none => false
def reachB (ops : Array Oper) : Nat → Nat → Nat → Bool
  | 0, _, _ => false
  | k + 1, t, h => match ops[t]? with
    | some o => o.after.any fun e => bnd e && (e.on == h || reachB ops k e.on h)
    | none => false
def apartB (ops : Array Oper) (i j : Nat) : Bool :=
  match ops[i]?, ops[j]? with
  | some oi, some oj => oi.apart ops oj
  | _, _ => false

structure St (ops : Array Oper) (listed : Array Bool) (rem : List Nat) : Prop where
  size : listed.size = ops.size
  un : ∀ j, j < ops.size → (listed.getD j true = false ↔ j ∈ rem)
  closed : ∀ j oj, ops[j]? = some oj → listed.getD j false = true → ∀ e ∈ oj.after, bnd e = true → listed.getD e.on false = true

theorem St.isTrue {listed : Array Bool} {rem : List Nat} (s : St ops listed rem) {j : Nat} : listed.getD j false = true ↔ j < ops.size ∧ j ∉ rem := by
  by_cases h : j < ops.size
  · have := s.un j h
    have hj : j < listed.size := by rw [s.size]; exact h
    simp [hj] at this ⊢
    constructor
    · intro ht
      refine ⟨h, fun hm => ?_⟩
      have := this.2 hm
      rw [ht] at this
      cases this
    · rintro ⟨_, hn⟩
      cases hv : listed[j] with
      | true => rfl
      | false => exact absurd (this.1 hv) hn
  · have hj : ¬ j < listed.size := by rw [s.size]; exact h
    simp [h, hj]

theorem St.ready {listed : Array Bool} {rem : List Nat} (s : St ops listed rem) {j : Nat} : j ∈ Region.ready .any ops listed ↔ j < ops.size ∧ j ∈ rem ∧ freeOf ops j rem = true := by
  rw [mem_ready]
  constructor
  · rintro ⟨h1, o, ho, hall⟩
    have hlt : j < ops.size := (Array.getElem?_eq_some_iff.1 ho).1
    refine ⟨hlt, (s.un j hlt).1 h1, ?_⟩
    unfold freeOf
    rw [ho]
    simp only
    rw [Array.all_eq_true_iff_forall_mem]
    intro e he
    cases hb : bnd e with
    | false => rfl
    | true =>
      have := s.isTrue.1 (hall e he hb)
      simp [this]
  · rintro ⟨hlt, hm, hf⟩
    refine ⟨(s.un j hlt).2 hm, ops[j], by simp [hlt], fun e he hb => ?_⟩
    unfold freeOf at hf
    rw [show ops[j]? = some ops[j] by simp [hlt]] at hf
    simp only at hf
    rw [Array.all_eq_true_iff_forall_mem] at hf
    have := hf e he
    have hb' : bnd e = true := hb
    simp [hb'] at this
    exact s.isTrue.2 this

theorem St.set {listed : Array Bool} {rem : List Nat} (s : St ops listed rem) {i : Nat} (hi : i ∈ Region.ready .any ops listed) : St ops (listed.setIfInBounds i true) (rem.filter (· != i)) := by
  have hr := s.ready.1 hi
  obtain ⟨_, oi, hoi, hall⟩ := mem_ready.1 hi
  refine ⟨by simp [s.size], fun j hj => ?_, fun j oj hj hl e he hb => ?_⟩
  · by_cases e : i = j
    · subst e
      have : i < listed.size := by rw [s.size]; exact hj
      simp [this]
    · rw [getD_set_ne true e, s.un j hj]
      simp [Ne.symm e]
  · by_cases hij : i = j
    · subst hij
      have : oj = oi := Option.some.inj (hj.symm.trans hoi)
      subst this
      exact getD_set_true (hall e he hb)
    · rw [getD_set_ne false hij] at hl
      exact getD_set_true (s.closed j oj hj hl e he hb)

theorem St.init : St ops (Array.replicate ops.size false) (List.range ops.size) := by
  refine ⟨by simp, fun j hj => by simp [hj], fun j oj hj hl => ?_⟩
  rw [getD_replicate_false] at hl
  cases hl

theorem reach_listed {listed : Array Bool} {rem : List Nat} (s : St ops listed rem) : ∀ (k j h : Nat), listed.getD j false = true → reachB ops k j h = true → listed.getD h false = true
  | 0, _, _, _, hr => by simp [reachB] at hr
  | k + 1, j, h, hj, hr => by
    unfold reachB at hr
    split at hr
    · rename_i o ho
      obtain ⟨e, he, hb⟩ := Array.any_eq_true'.1 hr
      simp only [Bool.and_eq_true, Bool.or_eq_true, beq_iff_eq] at hb
      have h1 := s.closed j o ho hj e he hb.1
      rcases hb.2 with rfl | h2
      · exact h1
      · exact reach_listed s k _ _ h1 h2
    · cases hr

/-- What waits for something that is still to come is not ready. -/
theorem St.blocked {listed : Array Bool} {rem : List Nat} (s : St ops listed rem) {k t h : Nat} (hr : reachB ops k t h = true) (hh : h ∈ rem) (hlt : h < ops.size) : t ∉ Region.ready .any ops listed := by
  intro ht
  obtain ⟨_, ot, hot, hall⟩ := mem_ready.1 ht
  cases k with
  | zero => simp [reachB] at hr
  | succ k =>
    unfold reachB at hr
    rw [hot] at hr
    simp only at hr
    obtain ⟨e, he, hb⟩ := Array.any_eq_true'.1 hr
    simp only [Bool.and_eq_true, Bool.or_eq_true, beq_iff_eq] at hb
    have h1 := hall e he hb.1
    have h2 : listed.getD h false = true := by
      rcases hb.2 with rfl | h2
      · exact h1
      · exact reach_listed s k _ _ h1 h2
    exact (s.isTrue.1 h2).2 hh

def waitsB (ops : Array Oper) (j i : Nat) : Bool := Region.waitsFor .any ops j i

/-- First: operations that yield the same in whatever world. -/
def okL (ops : Array Oper) : List Nat → List Nat → Bool
  | [], _ => true
  | i :: L, rest => decide (i < ops.size) && !(L ++ rest).contains i && freeOf ops i (i :: (L ++ rest)) && (L ++ rest).all (fun j => waitsB ops j i || apartB ops i j) && okL ops L rest
def wpPure (P : Program) (ops : Array Oper) (R : Act → Prop) : List Nat → Act → Prop
  | [], a => R a
  | i :: L, a => ∃ o v, ops[i]? = some o ∧ o.guard = none ∧ (∀ w, (execOp a.eval o).run P w = .ok (.value v) w) ∧ wpPure P ops R L (a.put o.dst v)

theorem filter_fresh {i : Nat} {l : List Nat} (h : i ∉ l) : (i :: l).filter (· != i) = l := by
  rw [List.filter_cons]
  simp
  intro x hx e
  subst e
  exact h hx

theorem phaseL (hs : Region.noSelect ops = true) (hQ : ∀ c (a : Act) (d : Option Tmp) v w, Q (.panic c) (a.put d v) w → Q (.panic c) a w) (rest : List Nat) (fuel : Nat) (w : World) :
    ∀ (L : List Nat) (listed : Array Bool) (a : Act), okL ops L rest = true → St ops listed (L ++ rest) →
      wpPure P ops (fun a' => ∀ listed', St ops listed' rest → wpAny P .any ops Q fuel listed' a' w) L a → wpAny P .any ops Q (L.length + fuel) listed a w
  | [], listed, a, _, s, h => by simpa using h listed s
  | i :: L, listed, a, hok, s, h => by
    simp only [okL, Bool.and_eq_true, decide_eq_true_eq, Bool.not_eq_true'] at hok
    obtain ⟨⟨⟨⟨hlt, hni⟩, hfree⟩, hall⟩, hrest⟩ := hok
    obtain ⟨o, v, ho, hg, hrun, hnext⟩ := h
    have hni' : i ∉ L ++ rest := by simpa using hni
    have hr : i ∈ Region.ready .any ops listed := s.ready.2 ⟨hlt, by simp, hfree⟩
    have s' := s.set hr
    rw [List.cons_append, filter_fresh hni'] at s'
    have ih := phaseL hs hQ rest fuel w L _ _ hrest s' hnext
    rw [show (i :: L).length + fuel = (L.length + fuel) + 1 by simp; omega]
    refine wpAny_first ho (Region.noSelect_spec hs) (fun c a w => hQ c a _ _ w) _ listed a w (fun j oj hj hne hl hw => ?_) hr (.inl ⟨by simp [Region.wanted, hg], hrun⟩) ih
    have hjlt : j < ops.size := (Array.getElem?_eq_some_iff.1 hj).1
    have hjm : j ∈ L ++ rest := by
      have := (s.un j hjlt).1 hl
      rw [List.cons_append] at this
      exact (List.mem_cons.1 this).resolve_left hne
    have hc := List.all_eq_true.1 hall j hjm
    simp only [Bool.or_eq_true] at hc
    rcases hc with hc | hc
    · obtain ⟨oj', hj', e, he, hb, hon⟩ := Region.waitsFor_spec hc
      have : oj' = oj := Option.some.inj (hj'.symm.trans hj)
      subst this
      exact absurd hon (hw e he hb)
    · simpa [apartB, ho, hj] using hc

/-- Then: operations that leave the world alone, in any order of their own; all that follows waits for each of them. -/
def okTopo (ops : Array Oper) : List Nat → List Nat → Bool
  | [], _ => true
  | i :: r, T => decide (i < ops.size) && !(r ++ T).contains i && freeOf ops i (i :: (r ++ T)) && r.all (fun j => waitsB ops j i || apartB ops i j) && okTopo ops r T
def wpHold (P : Program) (ops : Array Oper) (w : World) (R : Act → Prop) : List Nat → Act → Prop
  | [], a => R a
  | i :: r, a => stOp P ops w i (wpHold P ops w R r) a

theorem hold_front (hs : Region.noSelect ops = true) {w : World} {R : Act → Prop} {T : List Nat} (j : Nat) (oj : Oper) (hoj : ops[j]? = some oj) :
    ∀ (l : List Nat) (a : Act), j ∈ l → okTopo ops l T = true → (∀ i ∈ l, waitsB ops j i = false) → wpHold P ops w R l a → stOp P ops w j (wpHold P ops w R (l.filter (· != j))) a
  | [], _, hj, _, _, _ => by cases hj
  | i :: r, a, hj, hok, hw, h => by
    simp only [okTopo, Bool.and_eq_true, decide_eq_true_eq, Bool.not_eq_true'] at hok
    obtain ⟨⟨⟨⟨hlt, hni⟩, hfree⟩, hall⟩, hrest⟩ := hok
    have hni' : i ∉ r := fun hm => by simp [hm] at hni
    by_cases e : i = j
    · subst e
      rw [filter_fresh hni']
      exact h
    · have hjr : j ∈ r := (List.mem_cons.1 hj).resolve_left (Ne.symm e)
      rw [List.filter_cons, if_pos (by simpa using e)]
      have hi : ops[i]? = some ops[i] := by simp [hlt]
      obtain ⟨v, hy, hK⟩ := yieldsAt_of_stOp hi h
      have ih := hold_front hs j oj hoj r _ hjr hrest (fun i hi => hw i (by simp [hi])) hK
      have hc := List.all_eq_true.1 hall j hjr
      rw [hw i (by simp), Bool.false_or] at hc
      have hap : ops[i].apart ops oj = true := by simpa [apartB, hi, hoj] using hc
      have := stOp_put hoj hap (Region.noSelect_spec hs i _ · · hi) (Region.noSelect_spec hs j _ · · hoj) hy ih
      exact stOp_mono (fun a' ⟨hy', hk⟩ => YieldsAt.stOp hi hy' hk) this

theorem okTopo_filter {T : List Nat} {j : Nat} : ∀ (l : List Nat), okTopo ops l T = true → okTopo ops (l.filter (· != j)) T = true
  | [], _ => rfl
  | i :: r, hok => by
    simp only [okTopo, Bool.and_eq_true, decide_eq_true_eq, Bool.not_eq_true'] at hok
    obtain ⟨⟨⟨⟨hlt, hni⟩, hfree⟩, hall⟩, hrest⟩ := hok
    have ih := okTopo_filter (j := j) r hrest
    rw [List.filter_cons]
    split
    · simp only [okTopo, Bool.and_eq_true, decide_eq_true_eq, Bool.not_eq_true']
      have hsub : ∀ x, x ∈ r.filter (· != j) ++ T → x ∈ r ++ T := fun x hx => by
        rcases List.mem_append.1 hx with h | h
        · exact List.mem_append.2 (.inl (List.mem_filter.1 h).1)
        · exact List.mem_append.2 (.inr h)
      refine ⟨⟨⟨⟨hlt, ?_⟩, ?_⟩, ?_⟩, ih⟩
      · cases hc : (r.filter (· != j) ++ T).contains i with
        | false => rfl
        | true =>
          have := hsub i (by simpa using hc)
          rw [show (r ++ T).contains i = true by simpa using this] at hni
          cases hni
      · unfold freeOf at hfree ⊢
        split at hfree
        · rename_i o ho
          rw [Array.all_eq_true_iff_forall_mem] at hfree ⊢
          intro e he
          have := hfree e he
          cases hb : bnd e with
          | false => rfl
          | true =>
            simp only [hb, Bool.not_true, Bool.false_or, Bool.and_eq_true, decide_eq_true_eq, Bool.not_eq_true'] at this ⊢
            refine ⟨this.1, ?_⟩
            cases hc : (i :: (r.filter (· != j) ++ T)).contains e.on with
            | false => rfl
            | true =>
              have h1 : e.on ∈ i :: (r ++ T) := by
                have : e.on ∈ i :: (r.filter (· != j) ++ T) := by simpa using hc
                rcases List.mem_cons.1 this with h | h
                · exact List.mem_cons.2 (.inl h)
                · exact List.mem_cons.2 (.inr (hsub _ h))
              rw [show (i :: (r ++ T)).contains e.on = true by simpa using h1] at this
              exact absurd this.2 (by simp)
        · cases hfree
      · exact List.all_eq_true.2 fun x hx => List.all_eq_true.1 hall x (List.mem_filter.1 hx).1
    · exact ih

theorem okTopo_lt {T : List Nat} : ∀ (l : List Nat), okTopo ops l T = true → ∀ i ∈ l, i < ops.size
  | [], _, _, h => by cases h
  | i :: r, hok, x, hx => by
    simp only [okTopo, Bool.and_eq_true, decide_eq_true_eq, Bool.not_eq_true'] at hok
    rcases List.mem_cons.1 hx with rfl | h
    · exact hok.1.1.1.1
    · exact okTopo_lt r hok.2 x h

theorem okTopo_fresh {T : List Nat} : ∀ (l : List Nat), okTopo ops l T = true → ∀ i ∈ l, i ∉ T
  | [], _, _, h => by cases h
  | i :: r, hok, x, hx => by
    simp only [okTopo, Bool.and_eq_true, decide_eq_true_eq, Bool.not_eq_true'] at hok
    rcases List.mem_cons.1 hx with rfl | h
    · intro hT
      have := hok.1.1.1.2
      rw [show (r ++ T).contains x = true by simp [hT]] at this
      cases this
    · exact okTopo_fresh r hok.2 x h

theorem okTopo_nodup {T : List Nat} : ∀ (l : List Nat), okTopo ops l T = true → l.Nodup
  | [], _ => List.nodup_nil
  | y :: l, ho => by
    simp only [okTopo, Bool.and_eq_true, decide_eq_true_eq, Bool.not_eq_true'] at ho
    refine List.nodup_cons.2 ⟨fun hm => ?_, okTopo_nodup l ho.2⟩
    have := ho.1.1.1.2
    rw [show (l ++ T).contains y = true by simp [hm]] at this
    cases this

theorem phaseH (hs : Region.noSelect ops = true) (T : List Nat) (fuel K : Nat) (w : World) : ∀ (n : Nat) (H : List Nat) (listed : Array Bool) (a : Act), H.length = n → okTopo ops H T = true →
    (∀ t ∈ T, ∀ h ∈ H, reachB ops K t h = true) → St ops listed (H ++ T) →
    wpHold P ops w (fun a' => ∀ listed', St ops listed' T → wpAny P .any ops Q fuel listed' a' w) H a → wpAny P .any ops Q (n + fuel) listed a w := by
  intro n
  induction n with
  | zero =>
    intro H listed a hl _ _ s h
    obtain rfl : H = [] := List.eq_nil_of_length_eq_zero hl
    simpa using h listed s
  | succ n ih =>
    intro H listed a hl hok hbl s h
    have hready : ∀ j, j ∈ Region.ready .any ops listed → j ∈ H := fun j hj => by
      have hr := s.ready.1 hj
      rcases List.mem_append.1 hr.2.1 with h1 | h1
      · exact h1
      · match H, hl, hbl, s, hok with
        | i :: r, _, hbl, s, hok =>
          exact absurd hj (s.blocked (hbl j h1 i (by simp)) (by simp) (okTopo_lt _ hok i (by simp)))
    rw [show n + 1 + fuel = (n + fuel) + 1 by omega]
    refine ⟨fun h0 => ?_, fun j hj => ?_⟩
    · match H, hl, hok, s with
      | i :: r, _, hok, s =>
        simp only [okTopo, Bool.and_eq_true, decide_eq_true_eq, Bool.not_eq_true'] at hok
        have : i ∈ Region.ready .any ops listed := s.ready.2 ⟨hok.1.1.1.1, by simp, by simpa using hok.1.1.2⟩
        rw [h0] at this
        cases this
    · have hjH := hready j hj
      have hr := s.ready.1 hj
      have hoj : ops[j]? = some ops[j] := by simp [hr.1]
      have hw : ∀ i ∈ H, waitsB ops j i = false := fun i hi => by
        cases hc : waitsB ops j i with
        | false => rfl
        | true =>
          obtain ⟨oj', hj', e, he, hb, hon⟩ := Region.waitsFor_spec hc
          obtain ⟨_, o2, ho2, hall⟩ := mem_ready.1 hj
          have : oj' = o2 := Option.some.inj (hj'.symm.trans ho2)
          subst this
          have := s.isTrue.1 (hall e he hb)
          rw [hon] at this
          exact absurd (List.mem_append.2 (.inl hi)) this.2
      have hf := hold_front hs j _ hoj H a hjH hok hw h
      have s' := s.set hj
      have hnT : j ∉ T := okTopo_fresh H hok j hjH
      have hfT : T.filter (· != j) = T := List.filter_eq_self.2 fun x hx => by
        simp only [bne_iff_ne, ne_eq]
        rintro rfl
        exact hnT hx
      rw [List.filter_append, hfT] at s'
      have hlen : (H.filter (· != j)).length = n := by
        have hnd : H.Nodup := okTopo_nodup H hok
        have h1 : (H.filter (· != j)) = H.erase j := (List.Nodup.erase_eq_filter hnd j).symm
        rw [h1, List.length_erase_of_mem hjH, hl]
        omega
      refine wpOp_of_stOp (fun a' hk => ?_) hf
      exact ih _ _ a' hlen (okTopo_filter H hok) (fun t ht h hh => hbl t ht h (List.mem_filter.1 hh).1) s' hk

/-- Last: what has one order only. -/
def okT (ops : Array Oper) (K : Nat) : List Nat → Bool
  | [] => true
  | t :: r => decide (t < ops.size) && !r.contains t && freeOf ops t (t :: r) && r.all (fun u => reachB ops K u t) && okT ops K r

theorem phaseT (K : Nat) : ∀ (T : List Nat) (listed : Array Bool) (a : Act) (w : World), okT ops K T = true → St ops listed T → wpOps P ops Q T a w → wpAny P .any ops Q T.length listed a w
  | [], listed, a, w, _, s, h => by
    refine ⟨?_, h⟩
    cases hr : Region.ready .any ops listed with
    | nil => rfl
    | cons x xs =>
      have := (s.ready (j := x)).1 (by rw [hr]; simp)
      cases this.2.1
  | t :: r, listed, a, w, hok, s, h => by
    simp only [okT, Bool.and_eq_true, decide_eq_true_eq, Bool.not_eq_true'] at hok
    obtain ⟨⟨⟨⟨hlt, hni⟩, hfree⟩, hall⟩, hrest⟩ := hok
    have hni' : t ∉ r := by simpa using hni
    have hr : t ∈ Region.ready .any ops listed := s.ready.2 ⟨hlt, by simp, hfree⟩
    refine ⟨fun h0 => (by rw [h0] at hr; cases hr), fun j hj => ?_⟩
    have hj' := s.ready.1 hj
    have : j = t := by
      rcases List.mem_cons.1 hj'.2.1 with h1 | h1
      · exact h1
      · exact absurd hj (s.blocked (List.all_eq_true.1 hall j h1) (by simp) hlt)
    subst this
    rw [wpOps_cons] at h
    have s' := s.set hj
    rw [filter_fresh hni'] at s'
    exact wpOp_mono (fun a' w' hk => phaseT K r _ a' w' hrest s' hk) h

def planB (ops : Array Oper) (L H T : List Nat) : Bool :=
  Region.noSelect ops && (L.length + H.length + T.length == ops.size) && (List.range ops.size).all (fun j => (L ++ (H ++ T)).contains j) && okL ops L (H ++ T) && okTopo ops H T && T.all (fun t => H.all fun h => reachB ops ops.size t h) && okT ops ops.size T

def getOps (ops : Array Oper) (T : List Nat) : List Oper := T.filterMap (ops[·]?)

theorem wpOps_getOps : ∀ (T : List Nat) (a : Act) (w : World), wpList P ops Q (getOps ops T) a w → wpOps P ops Q T a w
  | [], a, w, h => h
  | t :: r, a, w, h => by
    unfold getOps at h
    rw [List.filterMap_cons] at h
    cases ho : ops[t]? with
    | none =>
      rw [ho] at h
      simp only [wpOps, ho]
      exact wpOps_getOps r a w h
    | some o =>
      rw [ho] at h
      simp only [wpList] at h
      simp only [wpOps, ho]
      split
      · rename_i hw
        rw [if_pos hw] at h
        exact h.imp (fun h => Oper.wp_mono (fun a w hk => wpOps_getOps r a w hk) h) id
      · rename_i hw
        rw [if_neg hw] at h
        exact wpOps_getOps r _ w h

theorem wp_region_plan {id : Nat} {a : Act} {w : World} (L H T : List Nat) (hm : P.follows .mixedOrders = true) (hB : planB ops L H T = true)
    (hQ : ∀ c (a : Act) (d : Option Tmp) v w, Q (.panic c) (a.put d v) w → Q (.panic c) a w)
    (h : wpPure P ops (wpHold P ops w.drew (fun a' => wpList P ops Q (getOps ops T) a' w.drew) H) L a) :
    (Code.region id ops true).wp P Q a w := by
  simp only [planB, Bool.and_eq_true, beq_iff_eq] at hB
  obtain ⟨⟨⟨⟨⟨⟨hsel, hlen⟩, hall⟩, hL⟩, hH⟩, hbl⟩, hT⟩ := hB
  refine wp_region_any hm ?_
  have s0 : St ops (Array.replicate ops.size false) (L ++ (H ++ T)) := by
    have s := St.init (ops := ops)
    refine ⟨s.size, fun j hj => ?_, s.closed⟩
    rw [s.un j hj]
    constructor
    · intro _
      have := List.all_eq_true.1 hall j (List.mem_range.2 hj)
      simpa using this
    · intro _
      exact List.mem_range.2 hj
  rw [← hlen, Nat.add_assoc]
  refine phaseL hsel hQ (H ++ T) (H.length + T.length) _ L _ a hL (by rw [Nat.add_assoc] at hlen; rw [hlen]; exact s0) ?_
  have mono : ∀ (L : List Nat) (R R' : Act → Prop) (a : Act), (∀ a, R a → R' a) → wpPure P ops R L a → wpPure P ops R' L a := by
    intro L
    induction L with
    | nil => intro R R' a hr h; exact hr _ h
    | cons i L ih => intro R R' a hr ⟨o, v, h1, h2, h3, h4⟩; exact ⟨o, v, h1, h2, h3, ih _ _ _ hr h4⟩
  have monoH : ∀ (H : List Nat) (w : World) (R R' : Act → Prop) (a : Act), (∀ a, R a → R' a) → wpHold P ops w R H a → wpHold P ops w R' H a := by
    intro H
    induction H with
    | nil => intro w R R' a hr h; exact hr _ h
    | cons i H ih => intro w R R' a hr h; exact stOp_mono (fun a' => ih w R R' a' hr) h
  refine mono L _ _ a (fun a' ha' listed' s' => ?_) h
  refine phaseH hsel T T.length ops.size _ H.length H listed' a' rfl hH (fun t ht h hh => List.all_eq_true.1 (List.all_eq_true.1 hbl t ht) h hh) s' ?_
  exact monoH H _ _ _ a' (fun a'' h'' listed'' s'' => phaseT ops.size T listed'' a'' _ hT s'' (wpOps_getOps T a'' _ h'')) ha'

/-- The steps of the two first parts, each behind a variable. -/
theorem wpPure_step {R : Act → Prop} {i : Nat} {L : List Nat} {a : Act} {o : Oper} {v : Value} (ho : ops[i]? = some o) (hg : o.guard = none) (hr : ∀ w, (execOp a.eval o).run P w = .ok (.value v) w)
    (h : wpPure P ops R L (a.put o.dst v)) : wpPure P ops R (i :: L) a := ⟨o, v, ho, hg, hr, h⟩
theorem wpHold_step {w : World} {R : Act → Prop} {i : Nat} {H : List Nat} {a : Act} {o : Oper} (ho : ops[i]? = some o)
    (h : ∀ K : Act → Prop, (∀ a, wpHold P ops w R H a → K a) → if Region.wanted o (yielded ops a.tmps) then o.still P a w K else K (a.put o.dst undef)) : wpHold P ops w R (i :: H) a := by
  unfold wpHold stOp
  rw [ho]
  exact h _ (fun _ h => h)
theorem wpHold_val {w : World} {R : Act → Prop} {i : Nat} {H : List Nat} {a : Act} {o : Oper} {v : Value} (ho : ops[i]? = some o) (hg : o.guard = none) (hr : (execOp a.eval o).run P w = .ok (.value v) w)
    (h : wpHold P ops w R H (a.put o.dst v)) : wpHold P ops w R (i :: H) a :=
  wpHold_step ho fun K hK => by rw [if_pos (by simp [Region.wanted, hg])]; unfold Oper.still; rw [hr]; exact ⟨rfl, hK _ h⟩

/-! The same, where the held operations need not come ahead of all that turns memory: each yields the same in every world of a class C, and what may come ahead of it keeps to the class. -/

def YieldsN (P : Program) (ops : Array Oper) (C : World → Prop) (o : Oper) (v : Value) (a : Act) : Prop :=
  (Region.wanted o (yielded ops a.tmps) = true ∧ ∀ w, C w → (execOp a.eval o).run P w = .ok (.value v) w) ∨ (Region.wanted o (yielded ops a.tmps) = false ∧ v = undef)
theorem YieldsN.of_same {C : World → Prop} {o : Oper} {v : Value} {a a' : Act} (hy : YieldsN P ops C o v a) (he : execOp a'.eval o = execOp a.eval o)
    (hw : Region.wanted o (yielded ops a'.tmps) = Region.wanted o (yielded ops a.tmps)) : YieldsN P ops C o v a' := by
  unfold YieldsN at *
  rw [he, hw]
  exact hy

theorem wpOp_putY {Y : Act → Prop} {_i j : Nat} {oi oj : Oper} {v : Value} (hj : ops[j]? = some oj) (hap : oi.apart ops oj = true) (hsj : ∀ cs b, oj.op ≠ .select cs b)
    (hQ : ∀ c (a : Act) (d : Option Tmp) v w, Q (.panic c) (a.put d v) w → Q (.panic c) a w) (keep : ∀ a, Y a → ∀ u, Y (a.put oj.dst u)) (keepD : ∀ (a : Act) d, Y a → Y { a with defers := d :: a.defers })
    {K : Act → World → Prop} {a : Act} {w : World} (hy : Y a) (h : wpOp P ops Q j K (a.put oi.dst v) w) : wpOp P ops Q j (fun a' w' => Y a' ∧ K (a'.put oi.dst v) w') a w := by
  obtain ⟨h1, h2, h3⟩ := Oper.apart_spec hap
  unfold wpOp at *
  simp only [hj] at *
  rw [wanted_put oj a oi.dst v h1] at h
  split
  · rename_i hw
    simp only [hw, if_true] at h
    rcases h with h | ⟨hasks, hlets⟩
    case inr => exact .inr ⟨by unfold Oper.asks at *; rw [execOp_put oj hsj a oi.dst v h1] at hasks; exact hasks, hlets⟩
    refine .inl ?_
    unfold Oper.wp at *
    rw [execOp_put oj hsj a oi.dst v h1] at h
    generalize (execOp a.eval oj).run P w = r at *
    cases r with
    | ok n w' =>
      cases n <;> simp only [Oper.upon] at h ⊢
      case value u => exact ⟨keep a hy u, by rw [← Act.put_comm a v u h2]; exact h⟩
      case skip => exact ⟨keep a hy _, by rw [← Act.put_comm a v undef h2]; exact h⟩
      case defer d =>
        refine ⟨keep _ (keepD _ d hy) _, ?_⟩
        rw [← Act.put_comm _ v undef h2, ← Act.put_defers]
        exact h
      case enter f args =>
        refine Calls.mono h fun e w'' he => ?_
        cases e with
        | returned u => exact ⟨keep a hy u, by rw [← Act.put_comm a v u h2]; exact he⟩
        | panicked c => exact hQ _ _ _ _ _ he
        | outgrown => exact he
      case row row args => exact Rows.mono h fun u w'' he => ⟨keep a hy u, by rw [← Act.put_comm a v u h2]; exact he⟩
    | halt x w' =>
      cases x <;> simp only [Oper.upon] at h ⊢
      case panic u => exact hQ _ _ _ _ _ h
  · rename_i hw
    simp only [hw] at h
    exact ⟨keep a hy _, by rw [← Act.put_comm a v undef h2]; exact h⟩

def wpHoldN (P : Program) (ops : Array Oper) (C : World → Prop) (R : Act → Prop) : List Nat → Act → Prop
  | [], a => R a
  | i :: r, a => ∃ o v, ops[i]? = some o ∧ YieldsN P ops C o v a ∧ wpHoldN P ops C R r (a.put o.dst v)
def wpT (P : Program) (ops : Array Oper) (C : World → Prop) (Q : Exit → Act → World → Prop) (R : Act → World → Prop) (T2 : List Nat) : Nat → List Nat → Act → World → Prop
  | 0, _, a, w => R a w
  | n + 1, rem, a, w => ∀ j ∈ rem.filter (freeOf ops · (rem ++ T2)), wpOp P ops Q j (fun a' w' => C w' ∧ wpT P ops C Q R T2 n (rem.filter (· != j)) a' w') a w

theorem wpHoldN_mono {C : World → Prop} {R R' : Act → Prop} (hr : ∀ a, R a → R' a) : ∀ (H : List Nat) (a : Act), wpHoldN P ops C R H a → wpHoldN P ops C R' H a
  | [], a, h => hr a h
  | _i :: H, _a, ⟨o, v, h1, h2, h3⟩ => ⟨o, v, h1, h2, wpHoldN_mono hr H _ h3⟩

theorem holdN_front (hs : Region.noSelect ops = true) {C : World → Prop} {R : Act → Prop} {T : List Nat} (j : Nat) (oj : Oper) (hoj : ops[j]? = some oj) :
    ∀ (l : List Nat) (a : Act), j ∈ l → okTopo ops l T = true → (∀ i ∈ l, waitsB ops j i = false) → wpHoldN P ops C R l a → ∃ v, YieldsN P ops C oj v a ∧ wpHoldN P ops C R (l.filter (· != j)) (a.put oj.dst v)
  | [], _, hj, _, _, _ => by cases hj
  | i :: r, a, hj, hok, hw, ⟨oi, v, hoi, hy, hK⟩ => by
    simp only [okTopo, Bool.and_eq_true, decide_eq_true_eq, Bool.not_eq_true'] at hok
    obtain ⟨⟨⟨⟨hlt, hni⟩, hfree⟩, hall⟩, hrest⟩ := hok
    have hni' : i ∉ r := fun hm => by simp [hm] at hni
    by_cases e : i = j
    · subst e
      have : oi = oj := Option.some.inj (hoi.symm.trans hoj)
      subst this
      rw [filter_fresh hni']
      exact ⟨v, hy, hK⟩
    · have hjr : j ∈ r := (List.mem_cons.1 hj).resolve_left (Ne.symm e)
      rw [List.filter_cons, if_pos (by simpa using e)]
      obtain ⟨u, hu, hn⟩ := holdN_front hs j oj hoj r _ hjr hrest (fun i hi => hw i (by simp [hi])) hK
      have hc := List.all_eq_true.1 hall j hjr
      rw [hw i (by simp), Bool.false_or] at hc
      have hap : oi.apart ops oj = true := by simpa [apartB, hoi, hoj] using hc
      obtain ⟨h1, h2, h3⟩ := Oper.apart_spec hap
      have hsj := fun cs b => Region.noSelect_spec hs j oj cs b hoj
      have hsi := fun cs b => Region.noSelect_spec hs i oi cs b hoi
      refine ⟨u, hu.of_same (execOp_put oj hsj a oi.dst v h1).symm (wanted_put oj a oi.dst v h1).symm, oi, v, hoi, hy.of_same (execOp_put oi hsi a oj.dst u h3) (wanted_put oi a oj.dst u h3), ?_⟩
      rw [← Act.put_comm a v u h2]
      exact hn

theorem holdN_seq (hs : Region.noSelect ops = true) (hQ : ∀ c (a : Act) (d : Option Tmp) v w, Q (.panic c) (a.put d v) w → Q (.panic c) a w) {C : World → Prop} {R : Act → World → Prop} {T1 T2 : List Nat} {n : Nat} {w : World}
    (j : Nat) (oj : Oper) (hoj : ops[j]? = some oj) (hjT : j ∈ T1.filter (freeOf ops · (T1 ++ T2))) :
    ∀ (H : List Nat) (a : Act), (∀ h ∈ H, h < ops.size ∧ apartB ops h j = true) → wpHoldN P ops C (fun a' => wpT P ops C Q R T2 (n + 1) T1 a' w) H a →
      wpOp P ops Q j (fun a'' w'' => C w'' ∧ wpHoldN P ops C (fun a' => wpT P ops C Q R T2 n (T1.filter (· != j)) a' w'') H a'') a w
  | [], a, _, h => h j hjT
  | i :: H, a, hap, ⟨oi, v, hoi, hy, hK⟩ => by
    have ih := holdN_seq hs hQ j oj hoj hjT H _ (fun h hh => hap h (by simp [hh])) hK
    have ha : oi.apart ops oj = true := by simpa [apartB, hoi, hoj] using (hap i (by simp)).2
    obtain ⟨h1, h2, h3⟩ := Oper.apart_spec ha
    have hsi := fun cs b => Region.noSelect_spec hs i oi cs b hoi
    have := wpOp_putY (_i := i) (Y := YieldsN P ops C oi v) hoj ha (Region.noSelect_spec hs j oj · · hoj) hQ
      (fun a hy u => hy.of_same (execOp_put oi hsi a oj.dst u h3) (wanted_put oi a oj.dst u h3)) (fun a d hy => hy.of_same rfl rfl) hy ih
    exact wpOp_mono (fun a' w' ⟨g1, g2, g3⟩ => ⟨g2, oi, v, hoi, g1, g3⟩) this

theorem wpOp_of_YieldsN {C : World → Prop} {i : Nat} {o : Oper} {v : Value} {a : Act} {w : World} {K : Act → World → Prop} (hi : ops[i]? = some o) (hy : YieldsN P ops C o v a) (hC : C w) (h : K (a.put o.dst v) w) : wpOp P ops Q i K a w := by
  unfold wpOp
  simp only [hi]
  rcases hy with ⟨hw, hv⟩ | ⟨hw, rfl⟩
  · simp only [hw, if_true, Oper.wp, hv w hC, Oper.upon]; exact .inl h
  · simp only [hw, Bool.false_eq_true, if_false]; exact h

theorem freeOf_sub {j : Nat} {r r' : List Nat} (h : freeOf ops j r = true) (hs : ∀ x ∈ r', x ∈ r) : freeOf ops j r' = true := by
  unfold freeOf at h ⊢
  split at h
  · rename_i o ho
    rw [Array.all_eq_true_iff_forall_mem] at h ⊢
    intro e he
    have := h e he
    cases hb : bnd e with
    | false => rfl
    | true =>
      simp only [hb, Bool.not_true, Bool.false_or, Bool.and_eq_true, decide_eq_true_eq, Bool.not_eq_true'] at this ⊢
      refine ⟨this.1, ?_⟩
      cases hc : r'.contains e.on with
      | false => rfl
      | true =>
        have h1 := hs e.on (by simpa using hc)
        rw [show r.contains e.on = true by simpa using h1] at this
        exact absurd this.2 (by simp)
  · cases h

theorem topo_free {T : List Nat} {i : Nat} {r : List Nat} (hok : okTopo ops (i :: r) T = true) : i < ops.size ∧ freeOf ops i (i :: (r ++ T)) = true := by
  simp only [okTopo, Bool.and_eq_true, decide_eq_true_eq, Bool.not_eq_true'] at hok
  exact ⟨hok.1.1.1.1, hok.1.1.2⟩

theorem filter_len {l : List Nat} (hnd : l.Nodup) {j : Nat} (hj : j ∈ l) {n : Nat} (hl : l.length = n + 1) : (l.filter (· != j)).length = n := by
  have h1 : (l.filter (· != j)) = l.erase j := (List.Nodup.erase_eq_filter hnd j).symm
  rw [h1, List.length_erase_of_mem hj, hl]
  omega

theorem filter_out {l : List Nat} {j : Nat} (hj : j ∉ l) : l.filter (· != j) = l := List.filter_eq_self.2 fun x hx => by
  simp only [bne_iff_ne, ne_eq]
  rintro rfl
  exact hj hx

theorem phaseN (hs : Region.noSelect ops = true) (hQ : ∀ c (a : Act) (d : Option Tmp) v w, Q (.panic c) (a.put d v) w → Q (.panic c) a w) (C : World → Prop) (T2 : List Nat) (fuel K : Nat) :
    ∀ (n : Nat) (H T1 : List Nat) (listed : Array Bool) (a : Act) (w : World), H.length + T1.length = n → okTopo ops H (T1 ++ T2) = true → okTopo ops T1 T2 = true →
      (∀ t ∈ T1, ∀ h ∈ H, (waitsB ops t h || apartB ops h t) = true) → (∀ t ∈ T2, ∀ h ∈ H ++ T1, reachB ops K t h = true) → St ops listed (H ++ (T1 ++ T2)) → C w →
      wpHoldN P ops C (fun a' => wpT P ops C Q (fun a'' w'' => ∀ listed', St ops listed' T2 → wpAny P .any ops Q fuel listed' a'' w'') T2 T1.length T1 a' w) H a → wpAny P .any ops Q (n + fuel) listed a w := by
  intro n
  induction n with
  | zero =>
    intro H T1 listed a w hl _ _ _ _ s _ h
    obtain rfl : H = [] := List.eq_nil_of_length_eq_zero (by omega)
    obtain rfl : T1 = [] := List.eq_nil_of_length_eq_zero (by omega)
    simpa using h listed s
  | succ n ih =>
    intro H T1 listed a w hl hokH hokT hap hbl s hC h
    rw [show n + 1 + fuel = (n + fuel) + 1 by omega]
    refine ⟨fun h0 => ?_, fun j hj => ?_⟩
    · match H, T1, hl, hokH, hokT, s with
      | i :: r, T1, _, hokH, _, s =>
        have hf := topo_free hokH
        have : i ∈ Region.ready .any ops listed := s.ready.2 ⟨hf.1, by simp, by simpa using hf.2⟩
        rw [h0] at this
        cases this
      | [], i :: r, _, _, hokT, s =>
        have hf := topo_free hokT
        have : i ∈ Region.ready .any ops listed := s.ready.2 ⟨hf.1, by simp, by simpa using hf.2⟩
        rw [h0] at this
        cases this
      | [], [], hl, _, _, _ => simp at hl
    · have hr := s.ready.1 hj
      have hoj : ops[j]? = some ops[j] := by simp [hr.1]
      have hwait : ∀ i ∈ H ++ (T1 ++ T2), waitsB ops j i = false := fun i hi => by
        cases hc : waitsB ops j i with
        | false => rfl
        | true =>
          obtain ⟨oj', hj', e, he, hb, hon⟩ := Region.waitsFor_spec hc
          obtain ⟨_, o2, ho2, hall⟩ := mem_ready.1 hj
          have : oj' = o2 := Option.some.inj (hj'.symm.trans ho2)
          subst this
          have := s.isTrue.1 (hall e he hb)
          rw [hon] at this
          exact absurd hi this.2
      have s' := s.set hj
      rw [List.filter_append, List.filter_append] at s'
      have hjm := hr.2.1
      by_cases hjH : j ∈ H
      · have hnT : j ∉ T1 ++ T2 := okTopo_fresh H hokH j hjH
        have h1 : j ∉ T1 := fun hm => hnT (by simp [hm])
        have h2 : j ∉ T2 := fun hm => hnT (by simp [hm])
        rw [filter_out h1, filter_out h2] at s'
        obtain ⟨v, hy, hK⟩ := holdN_front hs j _ hoj H a hjH hokH (fun i hi => hwait i (by simp [hi])) h
        refine wpOp_of_YieldsN hoj hy hC ?_
        have hHl : H.length = (H.length - 1) + 1 := by
          have := List.length_pos_of_mem hjH
          omega
        refine ih _ T1 _ _ w ?_ (okTopo_filter H hokH) hokT (fun t ht h hh => hap t ht h (List.mem_filter.1 hh).1) (fun t ht h hh => hbl t ht h ?_) s' hC hK
        · rw [filter_len (okTopo_nodup H hokH) hjH hHl]; omega
        · rcases List.mem_append.1 hh with hh | hh
          · exact List.mem_append.2 (.inl (List.mem_filter.1 hh).1)
          · exact List.mem_append.2 (.inr hh)
      · have hjT : j ∈ T1 := by
          rcases List.mem_append.1 hjm with h1 | h1
          · exact absurd h1 hjH
          rcases List.mem_append.1 h1 with h2 | h2
          · exact h2
          · cases hHT : H ++ T1 with
            | nil =>
              obtain ⟨e1, e2⟩ := List.append_eq_nil_iff.1 hHT
              rw [e1, e2] at hl
              simp at hl
            | cons x l =>
              have hx : x ∈ H ++ T1 := by rw [hHT]; simp
              refine absurd hj (s.blocked (hbl j h2 x hx) ?_ ?_)
              · rcases List.mem_append.1 hx with hx | hx <;> simp [hx]
              · rcases List.mem_append.1 hx with hx | hx
                · exact okTopo_lt _ hokH x hx
                · exact okTopo_lt _ hokT x hx
        have h2 : j ∉ T2 := okTopo_fresh T1 hokT j hjT
        rw [filter_out hjH, filter_out h2] at s'
        have hTl : T1.length = (T1.length - 1) + 1 := by
          have := List.length_pos_of_mem hjT
          omega
        rw [hTl] at h
        have hfr : j ∈ T1.filter (freeOf ops · (T1 ++ T2)) := List.mem_filter.2 ⟨hjT, freeOf_sub hr.2.2 (fun x hx => List.mem_append.2 (.inr hx))⟩
        have := holdN_seq hs hQ j _ hoj hfr H a (fun h hh => ⟨okTopo_lt _ hokH h hh, by
          have := hap j hjT h hh
          rw [hwait h (by simp [hh]), Bool.false_or] at this
          exact this⟩) h
        have hfl := filter_len (okTopo_nodup T1 hokT) hjT hTl
        refine wpOp_mono (fun a' w' ⟨g1, g2⟩ => ?_) this
        refine ih H _ _ a' w' (by rw [hfl]; omega) ?_ (okTopo_filter T1 hokT) (fun t ht h hh => hap t (List.mem_filter.1 ht).1 h hh) (fun t ht h hh => hbl t ht h ?_) s' g1 (by rw [hfl]; exact g2)
        · have : ∀ l, okTopo ops l (T1 ++ T2) = true → okTopo ops l (T1.filter (· != j) ++ T2) = true := by
            intro l
            induction l with
            | nil => intro _; rfl
            | cons i r ihl =>
              intro hok
              simp only [okTopo, Bool.and_eq_true, decide_eq_true_eq, Bool.not_eq_true'] at hok ⊢
              obtain ⟨⟨⟨⟨hlt, hni⟩, hfree⟩, hall⟩, hrest⟩ := hok
              have hsub : ∀ x, x ∈ r ++ (T1.filter (· != j) ++ T2) → x ∈ r ++ (T1 ++ T2) := fun x hx => by
                rcases List.mem_append.1 hx with h | h
                · exact List.mem_append.2 (.inl h)
                · rcases List.mem_append.1 h with h | h
                  · exact List.mem_append.2 (.inr (List.mem_append.2 (.inl (List.mem_filter.1 h).1)))
                  · exact List.mem_append.2 (.inr (List.mem_append.2 (.inr h)))
              refine ⟨⟨⟨⟨hlt, ?_⟩, freeOf_sub hfree (fun x hx => ?_)⟩, hall⟩, ihl hrest⟩
              · cases hc : (r ++ (T1.filter (· != j) ++ T2)).contains i with
                | false => rfl
                | true =>
                  rw [show (r ++ (T1 ++ T2)).contains i = true by simpa using hsub i (by simpa using hc)] at hni
                  cases hni
              · rcases List.mem_cons.1 hx with h | h
                · exact List.mem_cons.2 (.inl h)
                · exact List.mem_cons.2 (.inr (hsub x h))
          exact this H hokH
        · rcases List.mem_append.1 hh with hh | hh
          · exact List.mem_append.2 (.inl hh)
          · exact List.mem_append.2 (.inr (List.mem_filter.1 hh).1)

def planN (ops : Array Oper) (L H T1 T2 : List Nat) : Bool :=
  Region.noSelect ops && (L.length + (H.length + T1.length) + T2.length == ops.size) && (List.range ops.size).all (fun j => (L ++ (H ++ (T1 ++ T2))).contains j) && okL ops L (H ++ (T1 ++ T2)) && okTopo ops H (T1 ++ T2) && okTopo ops T1 T2 &&
    T1.all (fun t => H.all fun h => waitsB ops t h || apartB ops h t) && T2.all (fun t => (H ++ T1).all fun h => reachB ops ops.size t h) && okT ops ops.size T2

theorem wp_region_planN {id : Nat} {a : Act} {w : World} (C : World → Prop) (L H T1 T2 : List Nat) (hm : P.follows .mixedOrders = true) (hB : planN ops L H T1 T2 = true) (hC : C w.drew)
    (hQ : ∀ c (a : Act) (d : Option Tmp) v w, Q (.panic c) (a.put d v) w → Q (.panic c) a w)
    (h : wpPure P ops (wpHoldN P ops C (fun a' => wpT P ops C Q (fun a'' w'' => wpList P ops Q (getOps ops T2) a'' w'') T2 T1.length T1 a' w.drew) H) L a) :
    (Code.region id ops true).wp P Q a w := by
  simp only [planN, Bool.and_eq_true, beq_iff_eq] at hB
  obtain ⟨⟨⟨⟨⟨⟨⟨⟨hsel, hlen⟩, hall⟩, hL⟩, hH⟩, hT1⟩, hap⟩, hbl⟩, hT2⟩ := hB
  refine wp_region_any hm ?_
  have s0 : St ops (Array.replicate ops.size false) (L ++ (H ++ (T1 ++ T2))) := by
    have s := St.init (ops := ops)
    refine ⟨s.size, fun j hj => ?_, s.closed⟩
    rw [s.un j hj]
    constructor
    · intro _
      have := List.all_eq_true.1 hall j (List.mem_range.2 hj)
      simpa using this
    · intro _
      exact List.mem_range.2 hj
  rw [← hlen, Nat.add_assoc]
  refine phaseL hsel hQ (H ++ (T1 ++ T2)) ((H.length + T1.length) + T2.length) _ L _ a hL (by rw [Nat.add_assoc] at hlen; rw [hlen]; exact s0) ?_
  have mono : ∀ (L : List Nat) (R R' : Act → Prop) (a : Act), (∀ a, R a → R' a) → wpPure P ops R L a → wpPure P ops R' L a := by
    intro L
    induction L with
    | nil => intro R R' a hr h; exact hr _ h
    | cons i L ih => intro R R' a hr ⟨o, v, h1, h2, h3, h4⟩; exact ⟨o, v, h1, h2, h3, ih _ _ _ hr h4⟩
  have monoT : ∀ (n : Nat) (T1 : List Nat) (R R' : Act → World → Prop) (a : Act) (w : World), (∀ a w, R a w → R' a w) → wpT P ops C Q R T2 n T1 a w → wpT P ops C Q R' T2 n T1 a w := by
    intro n
    induction n with
    | zero => intro T1 R R' a w hr h; exact hr _ _ h
    | succ n ih => intro T1 R R' a w hr h j hj; exact wpOp_mono (fun a' w' ⟨g1, g2⟩ => ⟨g1, ih _ R R' a' w' hr g2⟩) (h j hj)
  refine mono L _ _ a (fun a' ha' listed' s' => ?_) h
  refine phaseN hsel hQ C T2 T2.length ops.size _ H T1 listed' a' _ rfl hH hT1 (fun t ht h hh => List.all_eq_true.1 (List.all_eq_true.1 hap t ht) h hh) (fun t ht h hh => List.all_eq_true.1 (List.all_eq_true.1 hbl t ht) h hh) s' hC ?_
  exact wpHoldN_mono (fun a'' h'' => monoT _ _ _ _ a'' _ (fun a3 w3 h3 listed3 s3 => phaseT ops.size T2 listed3 a3 w3 hT2 s3 (wpOps_getOps T2 a3 w3 h3)) h'') H a' ha'

theorem wpHoldN_step {C : World → Prop} {R : Act → Prop} {i : Nat} {H : List Nat} {a : Act} {o : Oper} {v : Value} (ho : ops[i]? = some o) (hg : o.guard = none) (hr : ∀ w, C w → (execOp a.eval o).run P w = .ok (.value v) w)
    (h : wpHoldN P ops C R H (a.put o.dst v)) : wpHoldN P ops C R (i :: H) a := ⟨o, v, ho, .inl ⟨by simp [Region.wanted, hg], hr⟩, h⟩
/-- The steps of T1: which operations may come now is reckoned; one goal for each. -/
theorem wpT_one {C : World → Prop} {R : Act → World → Prop} {T2 rem : List Nat} {n j : Nat} {a : Act} {w : World} {o : Oper} (hr : rem.filter (freeOf ops · (rem ++ T2)) = [j]) (ho : ops[j]? = some o) (hg : o.guard = none)
    (h : o.wp P a w (fun a' w' => C w' ∧ wpT P ops C Q R T2 n (rem.filter (· != j)) a' w') Q) : wpT P ops C Q R T2 (n + 1) rem a w := by
  intro i hi
  rw [hr] at hi
  obtain rfl : i = j := by simpa using hi
  unfold wpOp
  rw [ho]
  simp only
  rw [if_pos (by simp [Region.wanted, hg])]
  exact .inl h
theorem wpT_two {C : World → Prop} {R : Act → World → Prop} {T2 rem : List Nat} {n j k : Nat} {a : Act} {w : World} {o o' : Oper} (hr : rem.filter (freeOf ops · (rem ++ T2)) = [j, k]) (ho : ops[j]? = some o) (hg : o.guard = none) (ho' : ops[k]? = some o') (hg' : o'.guard = none)
    (h : o.wp P a w (fun a' w' => C w' ∧ wpT P ops C Q R T2 n (rem.filter (· != j)) a' w') Q) (h' : o'.wp P a w (fun a' w' => C w' ∧ wpT P ops C Q R T2 n (rem.filter (· != k)) a' w') Q) : wpT P ops C Q R T2 (n + 1) rem a w := by
  intro i hi
  rw [hr] at hi
  simp only [List.mem_cons, List.not_mem_nil, or_false] at hi
  rcases hi with rfl | rfl
  · unfold wpOp
    rw [ho]
    simp only
    rw [if_pos (by simp [Region.wanted, hg])]
    exact .inl h
  · unfold wpOp
    rw [ho']
    simp only
    rw [if_pos (by simp [Region.wanted, hg'])]
    exact .inl h'
theorem wp_val {o : Oper} {a : Act} {w w' : World} {K : Act → World → Prop} {v : Value} (hr : (execOp a.eval o).run P w = .ok (.value v) w') (h : K (a.put o.dst v) w') : o.wp P a w K Q := by
  unfold Oper.wp; rw [hr]; exact h
theorem wp_skp {o : Oper} {a : Act} {w w' : World} {K : Act → World → Prop} (hr : (execOp a.eval o).run P w = .ok .skip w') (h : K (a.put o.dst undef) w') : o.wp P a w K Q := by
  unfold Oper.wp; rw [hr]; exact h

/-! The same steps, the operation's parts as they stand in the text. -/
theorem put_lit (l : List Value) (ds : List Deferred) (d : Nat) (v : Value) : (Act.mk l.toArray ds).put (some d) v = ⟨(l.set d v).toArray, ds⟩ := by
  simp [Act.put]
theorem put_none (a : Act) (v : Value) : a.put none v = a := rfl
theorem pureS {R : Act → Prop} {i : Nat} {L : List Nat} {a : Act} {v : Value} {dst : Option Tmp} {op : Op} {ty : TypeId} {pos : String} {after : Array Edge} (ho : ops[i]? = some ⟨dst, op, ty, pos, after, none⟩)
    (hr : ∀ w, (execOp a.eval ⟨dst, op, ty, pos, after, none⟩).run P w = .ok (.value v) w) (h : wpPure P ops R L (a.put dst v)) : wpPure P ops R (i :: L) a := wpPure_step ho rfl hr h
theorem holdS {C : World → Prop} {R : Act → Prop} {i : Nat} {H : List Nat} {a : Act} {v : Value} {dst : Option Tmp} {op : Op} {ty : TypeId} {pos : String} {after : Array Edge} (ho : ops[i]? = some ⟨dst, op, ty, pos, after, none⟩)
    (hr : ∀ w, C w → (execOp a.eval ⟨dst, op, ty, pos, after, none⟩).run P w = .ok (.value v) w) (h : wpHoldN P ops C R H (a.put dst v)) : wpHoldN P ops C R (i :: H) a := wpHoldN_step ho rfl hr h
theorem oneS {C : World → Prop} {R : Act → World → Prop} {T2 rem rem' : List Nat} {n j : Nat} {a : Act} {w w' : World} {v : Value} {dst : Option Tmp} {op : Op} {ty : TypeId} {pos : String} {after : Array Edge}
    (hr : (rem.filter (freeOf ops · (rem ++ T2)) = [j]) ∧ rem.filter (· != j) = rem') (ho : ops[j]? = some ⟨dst, op, ty, pos, after, none⟩)
    (hx : (execOp a.eval ⟨dst, op, ty, pos, after, none⟩).run P w = .ok (.value v) w') (hC : C w') (h : wpT P ops C Q R T2 n rem' (a.put dst v) w') : wpT P ops C Q R T2 (n + 1) rem a w :=
  wpT_one hr.1 ho rfl (wp_val hx ⟨hC, by rw [hr.2]; exact h⟩)
theorem oneU {C : World → Prop} {R : Act → World → Prop} {T2 rem rem' : List Nat} {n j : Nat} {a : Act} {w w' : World} {op : Op} {ty : TypeId} {pos : String} {after : Array Edge}
    (hr : (rem.filter (freeOf ops · (rem ++ T2)) = [j]) ∧ rem.filter (· != j) = rem') (ho : ops[j]? = some ⟨none, op, ty, pos, after, none⟩)
    (hx : (execOp a.eval ⟨none, op, ty, pos, after, none⟩).run P w = .ok .skip w') (hC : C w') (h : wpT P ops C Q R T2 n rem' a w') : wpT P ops C Q R T2 (n + 1) rem a w :=
  wpT_one hr.1 ho rfl (wp_skp hx ⟨hC, by rw [hr.2]; exact h⟩)
theorem oneC {C : World → Prop} {R : Act → World → Prop} {T2 rem rem' : List Nat} {n j : Nat} {a : Act} {w : World} {dst : Option Tmp} {op : Op} {ty : TypeId} {pos : String} {after : Array Edge} {f : FuncId} {args : Array Value}
    (hr : (rem.filter (freeOf ops · (rem ++ T2)) = [j]) ∧ rem.filter (· != j) = rem') (ho : ops[j]? = some ⟨dst, op, ty, pos, after, none⟩)
    (hx : (execOp a.eval ⟨dst, op, ty, pos, after, none⟩).run P w = .ok (.enter f args) w) (h : Calls P f args w fun e w'' => ∃ v, e = .returned v ∧ C w'' ∧ wpT P ops C Q R T2 n rem' (a.put dst v) w'') : wpT P ops C Q R T2 (n + 1) rem a w :=
  wpT_one hr.1 ho rfl (by
    unfold Oper.wp
    rw [hx]
    exact h.mono fun e w'' ⟨v, he, hC, hk⟩ => by subst he; exact ⟨hC, by rw [hr.2]; exact hk⟩)
theorem wp_enter {o : Oper} {a : Act} {w : World} {K : Act → World → Prop} {f : FuncId} {args : Array Value} (hx : (execOp a.eval o).run P w = .ok (.enter f args) w) (h : Calls P f args w fun e w'' => ∃ v, e = .returned v ∧ K (a.put o.dst v) w'') : o.wp P a w K Q := by
  unfold Oper.wp
  rw [hx]
  exact h.mono fun e w'' ⟨v, he, hk⟩ => by subst he; exact hk
theorem wpT_all {C : World → Prop} {R : Act → World → Prop} {T2 rem : List Nat} {rs : List Nat} {n : Nat} {a : Act} {w : World} (hr : rem.filter (freeOf ops · (rem ++ T2)) = rs)
    (h : ∀ j ∈ rs, wpOp P ops Q j (fun a' w' => C w' ∧ wpT P ops C Q R T2 n (rem.filter (· != j)) a' w') a w) : wpT P ops C Q R T2 (n + 1) rem a w := by
  intro j hj
  rw [hr] at hj
  exact h j hj
theorem wpOp_want {K : Act → World → Prop} {i : Nat} {a : Act} {w w' : World} {v : Value} {dst : Option Tmp} {op : Op} {ty : TypeId} {pos : String} {after : Array Edge} {g : Option (Nat × Bool)} (ho : ops[i]? = some ⟨dst, op, ty, pos, after, g⟩)
    (hw : Region.wanted ⟨dst, op, ty, pos, after, g⟩ (yielded ops a.tmps) = true) (hx : (execOp a.eval ⟨dst, op, ty, pos, after, g⟩).run P w = .ok (.value v) w') (h : K (a.put dst v) w') : wpOp P ops Q i K a w := by
  unfold wpOp
  rw [ho]
  simp only
  rw [if_pos hw]
  exact .inl (wp_val hx h)
theorem wpOp_skip {K : Act → World → Prop} {i : Nat} {a : Act} {w : World} {dst : Option Tmp} {op : Op} {ty : TypeId} {pos : String} {after : Array Edge} {g : Option (Nat × Bool)} (ho : ops[i]? = some ⟨dst, op, ty, pos, after, g⟩)
    (hw : Region.wanted ⟨dst, op, ty, pos, after, g⟩ (yielded ops a.tmps) = false) (h : K (a.put dst undef) w) : wpOp P ops Q i K a w := by
  unfold wpOp
  rw [ho]
  simp only
  rw [if_neg (by simp [hw])]
  exact h
/-- Two may come: a goal for each. -/
theorem twoS {C : World → Prop} {R : Act → World → Prop} {T2 rem rj rk : List Nat} {n j k : Nat} {a : Act} {w : World} {dst dst' : Option Tmp} {op op' : Op} {ty ty' : TypeId} {pos pos' : String} {after after' : Array Edge}
    (hr : (rem.filter (freeOf ops · (rem ++ T2)) = [j, k]) ∧ rem.filter (· != j) = rj ∧ rem.filter (· != k) = rk) (ho : ops[j]? = some ⟨dst, op, ty, pos, after, none⟩) (ho' : ops[k]? = some ⟨dst', op', ty', pos', after', none⟩)
    (h : (⟨dst, op, ty, pos, after, none⟩ : Oper).wp P a w (fun a' w' => C w' ∧ wpT P ops C Q R T2 n rj a' w') Q) (h' : (⟨dst', op', ty', pos', after', none⟩ : Oper).wp P a w (fun a' w' => C w' ∧ wpT P ops C Q R T2 n rk a' w') Q) : wpT P ops C Q R T2 (n + 1) rem a w :=
  wpT_two hr.1 ho rfl ho' rfl (by rw [hr.2.1]; exact h) (by rw [hr.2.2]; exact h')
theorem g0 : getOps ops [] = [] := rfl
theorem g1 {t : Nat} {r : List Nat} {l : List Oper} {dst : Option Tmp} {op : Op} {ty : TypeId} {pos : String} {after : Array Edge} {guard : Option (Nat × Bool)} (h : ops[t]? = some ⟨dst, op, ty, pos, after, guard⟩) (hl : getOps ops r = l) : getOps ops (t :: r) = ⟨dst, op, ty, pos, after, guard⟩ :: l := by
  unfold getOps
  rw [List.filterMap_cons, h]
  simp only
  rw [← hl]
  rfl
theorem endT {C : World → Prop} {T1 T2 : List Nat} {l : List Oper} {a : Act} {w : World} (hl : getOps ops T2 = l) (h : wpList P ops Q l a w) : wpT P ops C Q (fun a'' w'' => wpList P ops Q (getOps ops T2) a'' w'') T2 0 T1 a w := by
  subst hl; exact h
end
end Go.Proofs.YtkeamfdceehliaaGreatDoor

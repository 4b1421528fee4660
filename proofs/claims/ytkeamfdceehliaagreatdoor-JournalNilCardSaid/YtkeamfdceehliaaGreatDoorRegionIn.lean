/- The same plan for a region that is walked inside a fence that lets everything in (a loop's round, an iterator): Region's text, turned. -/
import Derived.Test.YtkeamfdceehliaaGreatDoorRegion
import Derived.OrdersIn
import Derived.TacticsIn
import Derived.RangeFuncCalls
namespace Go.Proofs.YtkeamfdceehliaaGreatDoor

section
variable {F : Fence} {n : Nat} {P : Program} {ops : Array Oper} {Q : Exit → Act → World → Prop}

def notDefer : Op → Bool
  | .defer _ => false
  | _ => true
def noDefer (ops : Array Oper) : Bool := ops.all fun o => notDefer o.op
structure Open (F : Fence) (ops : Array Oper) : Prop where
  fn : ∀ f, F.fn f
  depth : F.depth = none
  defer : noDefer ops = true
theorem Open.sem (h : Open F ops) {i : Nat} {o : Oper} (ho : ops[i]? = some o) (ρ : Operand → Value) : o.semAt F.round ρ = execOp ρ o := by
  refine Oper.semAt_eq _ _ _ fun c hc => ?_
  have := h.defer
  unfold noDefer at this
  rw [Array.all_eq_true_iff_forall_mem] at this
  have := this o (Array.mem_of_getElem? ho)
  rw [hc] at this
  simp [notDefer] at this
theorem Open.want (h : Open F ops) {i : Nat} {o : Oper} (ho : ops[i]? = some o) {a : Act} {w : World} {K : Act → World → Prop} (hu : o.uponIn F n P a K Q ((execOp a.eval o).run P w)) : o.wpIn F n P a w K Q :=
  ⟨fun f _ => h.fn f, by rw [h.sem ho]; exact hu⟩

theorem wpOpIn_putY (hF : Open F ops) {Y : Act → Prop} {_i j : Nat} {oi oj : Oper} {v : Value} (hj : ops[j]? = some oj) (hap : oi.apart ops oj = true) (hsj : ∀ cs b, oj.op ≠ .select cs b)
    (hQ : ∀ c (a : Act) (d : Option Tmp) v w, Q (.panic c) (a.put d v) w → Q (.panic c) a w) (keep : ∀ a, Y a → ∀ u, Y (a.put oj.dst u)) (keepD : ∀ (a : Act) d, Y a → Y { a with defers := d :: a.defers })
    {K : Act → World → Prop} {a : Act} {w : World} (hy : Y a) (h : wpOpIn F n P ops Q j K (a.put oi.dst v) w) : wpOpIn F n P ops Q j (fun a' w' => Y a' ∧ K (a'.put oi.dst v) w') a w := by
  obtain ⟨h1, h2, h3⟩ := Oper.apart_spec hap
  unfold wpOpIn at h ⊢
  simp only [hj] at h ⊢
  rw [wanted_put oj a oi.dst v h1] at h
  split
  · rename_i hw
    simp only [hw, if_true] at h
    unfold Oper.wpIn at h
    have h := h.2
    rw [hF.sem hj] at h
    refine hF.want hj ?_
    rw [execOp_put oj hsj a oi.dst v h1] at h
    generalize (execOp a.eval oj).run P w = r at *
    cases r with
    | ok x w' =>
      cases x <;> simp only [Oper.uponIn] at h ⊢
      case value u => exact ⟨keep a hy u, by rw [← Act.put_comm a v u h2]; exact h⟩
      case skip => exact ⟨keep a hy _, by rw [← Act.put_comm a v undef h2]; exact h⟩
      case defer d =>
        refine ⟨keep _ (keepD _ d hy) _, ?_⟩
        rw [← Act.put_comm _ v undef h2, ← Act.put_defers]
        exact h
      case enter f args =>
        refine ⟨h.1, CallsIn.mono h.2 fun e w'' he => ?_⟩
        cases e with
        | returned u => exact ⟨keep a hy u, by rw [← Act.put_comm a v u h2]; exact he⟩
        | panicked c => exact hQ _ _ _ _ _ he
        | outgrown => exact he
      case row row args => exact ⟨h.1, RowsIn.mono h.2 fun u w'' he => ⟨keep a hy u, by rw [← Act.put_comm a v u h2]; exact he⟩⟩
      case round l f tmps assign body =>
        refine ⟨h.1, RoundIn.mono h.2 fun e w'' he => ?_⟩
        cases e with
        | returned u => exact ⟨keep a hy u, by rw [← Act.put_comm a v u h2]; exact he⟩
        | panicked c => exact hQ _ _ _ _ _ he
        | outgrown => exact he
    | halt x w' =>
      cases x <;> simp only [Oper.uponIn] at h ⊢
      case panic u => exact hQ _ _ _ _ _ h
  · rename_i hw
    simp only [hw] at h
    exact ⟨fun f _ => hF.fn f, keep a hy _, by rw [← Act.put_comm a v undef h2]; exact h.2⟩

def wpTIn (F : Fence) (n : Nat) (P : Program) (ops : Array Oper) (C : World → Prop) (Q : Exit → Act → World → Prop) (R : Act → World → Prop) (T2 : List Nat) : Nat → List Nat → Act → World → Prop
  | 0, _, a, w => R a w
  | m + 1, rem, a, w => ∀ j ∈ rem.filter (freeOf ops · (rem ++ T2)), wpOpIn F n P ops Q j (fun a' w' => C w' ∧ wpTIn F n P ops C Q R T2 m (rem.filter (· != j)) a' w') a w

theorem holdN_seqIn (hF : Open F ops) (hs : Region.noSelect ops = true) (hQ : ∀ c (a : Act) (d : Option Tmp) v w, Q (.panic c) (a.put d v) w → Q (.panic c) a w) {C : World → Prop} {R : Act → World → Prop} {T1 T2 : List Nat} {m : Nat} {w : World}
    (j : Nat) (oj : Oper) (hoj : ops[j]? = some oj) (hjT : j ∈ T1.filter (freeOf ops · (T1 ++ T2))) :
    ∀ (H : List Nat) (a : Act), (∀ h ∈ H, h < ops.size ∧ apartB ops h j = true) → wpHoldN P ops C (fun a' => wpTIn F n P ops C Q R T2 (m + 1) T1 a' w) H a →
      wpOpIn F n P ops Q j (fun a'' w'' => C w'' ∧ wpHoldN P ops C (fun a' => wpTIn F n P ops C Q R T2 m (T1.filter (· != j)) a' w'') H a'') a w
  | [], a, _, h => h j hjT
  | i :: H, a, hap, ⟨oi, v, hoi, hy, hK⟩ => by
    have ih := holdN_seqIn hF hs hQ j oj hoj hjT H _ (fun h hh => hap h (by simp [hh])) hK
    have ha : oi.apart ops oj = true := by simpa [apartB, hoi, hoj] using (hap i (by simp)).2
    obtain ⟨h1, h2, h3⟩ := Oper.apart_spec ha
    have hsi := fun cs b => Region.noSelect_spec hs i oi cs b hoi
    have := wpOpIn_putY (_i := i) hF (Y := YieldsN P ops C oi v) hoj ha (Region.noSelect_spec hs j oj · · hoj) hQ
      (fun a hy u => hy.of_same (execOp_put oi hsi a oj.dst u h3) (wanted_put oi a oj.dst u h3)) (fun a d hy => hy.of_same rfl rfl) hy ih
    exact wpOpIn_mono (fun a' w' ⟨g1, g2, g3⟩ => ⟨g2, oi, v, hoi, g1, g3⟩) this

theorem wpOpIn_of_YieldsN (hF : Open F ops) {C : World → Prop} {i : Nat} {o : Oper} {v : Value} {a : Act} {w : World} {K : Act → World → Prop} (hi : ops[i]? = some o) (hy : YieldsN P ops C o v a) (hC : C w) (h : K (a.put o.dst v) w) : wpOpIn F n P ops Q i K a w := by
  unfold wpOpIn
  simp only [hi]
  rcases hy with ⟨hw, hv⟩ | ⟨hw, rfl⟩
  · simp only [hw, if_true]
    refine hF.want hi ?_
    rw [hv w hC]
    exact h
  · simp only [hw, Bool.false_eq_true, if_false]; exact ⟨fun f _ => hF.fn f, h⟩

theorem phaseNIn (hF : Open F ops) (hs : Region.noSelect ops = true) (hQ : ∀ c (a : Act) (d : Option Tmp) v w, Q (.panic c) (a.put d v) w → Q (.panic c) a w) (C : World → Prop) (T2 : List Nat) (fuel K : Nat) :
    ∀ (m : Nat) (H T1 : List Nat) (listed : Array Bool) (a : Act) (w : World), H.length + T1.length = m → okTopo ops H (T1 ++ T2) = true → okTopo ops T1 T2 = true →
      (∀ t ∈ T1, ∀ h ∈ H, (waitsB ops t h || apartB ops h t) = true) → (∀ t ∈ T2, ∀ h ∈ H ++ T1, reachB ops K t h = true) → St ops listed (H ++ (T1 ++ T2)) → C w →
      wpHoldN P ops C (fun a' => wpTIn F n P ops C Q (fun a'' w'' => ∀ listed', St ops listed' T2 → wpAnyIn F n P .any ops Q fuel listed' a'' w'') T2 T1.length T1 a' w) H a → wpAnyIn F n P .any ops Q (m + fuel) listed a w := by
  intro m
  induction m with
  | zero =>
    intro H T1 listed a w hl _ _ _ _ s _ h
    obtain rfl : H = [] := List.eq_nil_of_length_eq_zero (by omega)
    obtain rfl : T1 = [] := List.eq_nil_of_length_eq_zero (by omega)
    simpa using h listed s
  | succ m ih =>
    intro H T1 listed a w hl hokH hokT hap hbl s hC h
    rw [show m + 1 + fuel = (m + fuel) + 1 by omega]
    refine ⟨fun h0 => ?_, fun j hj => ?_⟩
    · match H, T1, hl, hokH, hokT, s with
      | i :: r, T1, _, hokH, _, s =>
        have hf := topo_free hokH
        have : i ∈ Region.ready .any ops listed := s.ready.2 ⟨hf.1, by simp, by simpa using hf.2⟩
        rw [h0] at this
        cases this
      | [], i :: r, _, _, hokT, s =>
        have hf := topo_free hokT
        have : i ∈ Region.ready .any ops listed := s.ready.2 ⟨hf.1, by simp, by simpa using hf.2⟩
        rw [h0] at this
        cases this
      | [], [], hl, _, _, _ => simp at hl
    · have hr := s.ready.1 hj
      have hoj : ops[j]? = some ops[j] := by simp [hr.1]
      have hwait : ∀ i ∈ H ++ (T1 ++ T2), waitsB ops j i = false := fun i hi => by
        cases hc : waitsB ops j i with
        | false => rfl
        | true =>
          obtain ⟨oj', hj', e, he, hb, hon⟩ := Region.waitsFor_spec hc
          obtain ⟨_, o2, ho2, hall⟩ := mem_ready.1 hj
          have : oj' = o2 := Option.some.inj (hj'.symm.trans ho2)
          subst this
          have := s.isTrue.1 (hall e he hb)
          rw [hon] at this
          exact absurd hi this.2
      have s' := s.set hj
      rw [List.filter_append, List.filter_append] at s'
      have hjm := hr.2.1
      by_cases hjH : j ∈ H
      · have hnT : j ∉ T1 ++ T2 := okTopo_fresh H hokH j hjH
        have h1 : j ∉ T1 := fun hm => hnT (by simp [hm])
        have h2 : j ∉ T2 := fun hm => hnT (by simp [hm])
        rw [filter_out h1, filter_out h2] at s'
        obtain ⟨v, hy, hK⟩ := holdN_front hs j _ hoj H a hjH hokH (fun i hi => hwait i (by simp [hi])) h
        refine wpOpIn_of_YieldsN hF hoj hy hC ?_
        have hHl : H.length = (H.length - 1) + 1 := by
          have := List.length_pos_of_mem hjH
          omega
        refine ih _ T1 _ _ w ?_ (okTopo_filter H hokH) hokT (fun t ht h hh => hap t ht h (List.mem_filter.1 hh).1) (fun t ht h hh => hbl t ht h ?_) s' hC hK
        · rw [filter_len (okTopo_nodup H hokH) hjH hHl]; omega
        · rcases List.mem_append.1 hh with hh | hh
          · exact List.mem_append.2 (.inl (List.mem_filter.1 hh).1)
          · exact List.mem_append.2 (.inr hh)
      · have hjT : j ∈ T1 := by
          rcases List.mem_append.1 hjm with h1 | h1
          · exact absurd h1 hjH
          rcases List.mem_append.1 h1 with h2 | h2
          · exact h2
          · cases hHT : H ++ T1 with
            | nil =>
              obtain ⟨e1, e2⟩ := List.append_eq_nil_iff.1 hHT
              rw [e1, e2] at hl
              simp at hl
            | cons x l =>
              have hx : x ∈ H ++ T1 := by rw [hHT]; simp
              refine absurd hj (s.blocked (hbl j h2 x hx) ?_ ?_)
              · rcases List.mem_append.1 hx with hx | hx <;> simp [hx]
              · rcases List.mem_append.1 hx with hx | hx
                · exact okTopo_lt _ hokH x hx
                · exact okTopo_lt _ hokT x hx
        have h2 : j ∉ T2 := okTopo_fresh T1 hokT j hjT
        rw [filter_out hjH, filter_out h2] at s'
        have hTl : T1.length = (T1.length - 1) + 1 := by
          have := List.length_pos_of_mem hjT
          omega
        rw [hTl] at h
        have hfr : j ∈ T1.filter (freeOf ops · (T1 ++ T2)) := List.mem_filter.2 ⟨hjT, freeOf_sub hr.2.2 (fun x hx => List.mem_append.2 (.inr hx))⟩
        have := holdN_seqIn hF hs hQ j _ hoj hfr H a (fun h hh => ⟨okTopo_lt _ hokH h hh, by
          have := hap j hjT h hh
          rw [hwait h (by simp [hh]), Bool.false_or] at this
          exact this⟩) h
        have hfl := filter_len (okTopo_nodup T1 hokT) hjT hTl
        refine wpOpIn_mono (fun a' w' ⟨g1, g2⟩ => ?_) this
        refine ih H _ _ a' w' (by rw [hfl]; omega) ?_ (okTopo_filter T1 hokT) (fun t ht h hh => hap t (List.mem_filter.1 ht).1 h hh) (fun t ht h hh => hbl t ht h ?_) s' g1 (by rw [hfl]; exact g2)
        · have : ∀ l, okTopo ops l (T1 ++ T2) = true → okTopo ops l (T1.filter (· != j) ++ T2) = true := by
            intro l
            induction l with
            | nil => intro _; rfl
            | cons i r ihl =>
              intro hok
              simp only [okTopo, Bool.and_eq_true, decide_eq_true_eq, Bool.not_eq_true'] at hok ⊢
              obtain ⟨⟨⟨⟨hlt, hni⟩, hfree⟩, hall⟩, hrest⟩ := hok
              have hsub : ∀ x, x ∈ r ++ (T1.filter (· != j) ++ T2) → x ∈ r ++ (T1 ++ T2) := fun x hx => by
                rcases List.mem_append.1 hx with h | h
                · exact List.mem_append.2 (.inl h)
                · rcases List.mem_append.1 h with h | h
                  · exact List.mem_append.2 (.inr (List.mem_append.2 (.inl (List.mem_filter.1 h).1)))
                  · exact List.mem_append.2 (.inr (List.mem_append.2 (.inr h)))
              refine ⟨⟨⟨⟨hlt, ?_⟩, freeOf_sub hfree (fun x hx => ?_)⟩, hall⟩, ihl hrest⟩
              · cases hc : (r ++ (T1.filter (· != j) ++ T2)).contains i with
                | false => rfl
                | true =>
                  rw [show (r ++ (T1 ++ T2)).contains i = true by simpa using hsub i (by simpa using hc)] at hni
                  cases hni
              · rcases List.mem_cons.1 hx with h | h
                · exact List.mem_cons.2 (.inl h)
                · exact List.mem_cons.2 (.inr (hsub x h))
          exact this H hokH
        · rcases List.mem_append.1 hh with hh | hh
          · exact List.mem_append.2 (.inl hh)
          · exact List.mem_append.2 (.inr (List.mem_filter.1 hh).1)

theorem phaseTIn (K : Nat) : ∀ (T : List Nat) (listed : Array Bool) (a : Act) (w : World), okT ops K T = true → St ops listed T → wpOpsIn F n P ops Q T a w → wpAnyIn F n P .any ops Q T.length listed a w
  | [], listed, a, w, _, s, h => by
    refine ⟨?_, h⟩
    cases hr : Region.ready .any ops listed with
    | nil => rfl
    | cons x xs =>
      have := (s.ready (j := x)).1 (by rw [hr]; simp)
      cases this.2.1
  | t :: r, listed, a, w, hok, s, h => by
    simp only [okT, Bool.and_eq_true, decide_eq_true_eq, Bool.not_eq_true'] at hok
    obtain ⟨⟨⟨⟨hlt, hni⟩, hfree⟩, hall⟩, hrest⟩ := hok
    have hni' : t ∉ r := by simpa using hni
    have hr : t ∈ Region.ready .any ops listed := s.ready.2 ⟨hlt, by simp, hfree⟩
    refine ⟨fun h0 => (by rw [h0] at hr; cases hr), fun j hj => ?_⟩
    have hj' := s.ready.1 hj
    have : j = t := by
      rcases List.mem_cons.1 hj'.2.1 with h1 | h1
      · exact h1
      · exact absurd hj (s.blocked (List.all_eq_true.1 hall j h1) (by simp) hlt)
    subst this
    rw [wpOpsIn_cons] at h
    have s' := s.set hj
    rw [filter_fresh hni'] at s'
    exact wpOpIn_mono (fun a' w' hk => phaseTIn K r _ a' w' hrest s' hk) h

theorem wpOpsIn_getOps : ∀ (T : List Nat) (a : Act) (w : World), wpListIn F n P ops Q (getOps ops T) a w → wpOpsIn F n P ops Q T a w
  | [], a, w, h => h
  | t :: r, a, w, h => by
    unfold getOps at h
    rw [List.filterMap_cons] at h
    cases ho : ops[t]? with
    | none =>
      rw [ho] at h
      simp only [wpOpsIn, ho]
      exact wpOpsIn_getOps r a w h
    | some o =>
      rw [ho] at h
      simp only [wpListIn] at h
      simp only [wpOpsIn, ho]
      split
      · rename_i hw
        rw [if_pos hw] at h
        exact Oper.wpIn_mono (fun a w hk => wpOpsIn_getOps r a w hk) h
      · rename_i hw
        rw [if_neg hw] at h
        exact ⟨h.1, wpOpsIn_getOps r _ w h.2⟩

theorem wpIn_region_planN {id : Nat} {a : Act} {w : World} (hF : Open F ops) (C : World → Prop) (H T1 T2 : List Nat) (hm : P.follows .mixedOrders = true) (hB : planN ops [] H T1 T2 = true) (hC : C w.drew)
    (hQ : ∀ c (a : Act) (d : Option Tmp) v w, Q (.panic c) (a.put d v) w → Q (.panic c) a w)
    (h : wpHoldN P ops C (fun a' => wpTIn F n P ops C Q (fun a'' w'' => wpListIn F n P ops Q (getOps ops T2) a'' w'') T2 T1.length T1 a' w.drew) H a) :
    (Code.region id ops true).wpIn F n P Q a w := by
  simp only [planN, Bool.and_eq_true, beq_iff_eq, List.length_nil, Nat.zero_add, List.nil_append] at hB
  obtain ⟨⟨⟨⟨⟨⟨⟨⟨hsel, hlen⟩, hall⟩, hL⟩, hH⟩, hT1⟩, hap⟩, hbl⟩, hT2⟩ := hB
  refine wpIn_region_any hm ?_
  have s0 : St ops (Array.replicate ops.size false) (H ++ (T1 ++ T2)) := by
    have s := St.init (ops := ops)
    refine ⟨s.size, fun j hj => ?_, s.closed⟩
    rw [s.un j hj]
    constructor
    · intro _
      have := List.all_eq_true.1 hall j (List.mem_range.2 hj)
      simpa using this
    · intro _
      exact List.mem_range.2 hj
  have monoT : ∀ (m : Nat) (T1 : List Nat) (R R' : Act → World → Prop) (a : Act) (w : World), (∀ a w, R a w → R' a w) → wpTIn F n P ops C Q R T2 m T1 a w → wpTIn F n P ops C Q R' T2 m T1 a w := by
    intro m
    induction m with
    | zero => intro T1 R R' a w hr h; exact hr _ _ h
    | succ m ih => intro T1 R R' a w hr h j hj; exact wpOpIn_mono (fun a' w' ⟨g1, g2⟩ => ⟨g1, ih _ R R' a' w' hr g2⟩) (h j hj)
  have hl2 : ops.size = (H.length + T1.length) + T2.length := hlen.symm
  have := phaseNIn (n := n) (Q := Q) hF hsel hQ C T2 T2.length ops.size _ H T1 (Array.replicate ops.size false) a _ rfl hH hT1 (fun t ht h hh => List.all_eq_true.1 (List.all_eq_true.1 hap t ht) h hh) (fun t ht h hh => List.all_eq_true.1 (List.all_eq_true.1 hbl t ht) h hh) s0 hC
    (wpHoldN_mono (fun a'' h'' => monoT _ _ _ _ a'' _ (fun a3 w3 h3 listed3 s3 => phaseTIn ops.size T2 listed3 a3 w3 hT2 s3 (wpOpsIn_getOps T2 a3 w3 h3)) h'') H a h)
  rwa [← hl2] at this

theorem wpTIn_all {C : World → Prop} {R : Act → World → Prop} {T2 rem : List Nat} {rs : List Nat} {m : Nat} {a : Act} {w : World} (hr : rem.filter (freeOf ops · (rem ++ T2)) = rs)
    (h : ∀ j ∈ rs, wpOpIn F n P ops Q j (fun a' w' => C w' ∧ wpTIn F n P ops C Q R T2 m (rem.filter (· != j)) a' w') a w) : wpTIn F n P ops C Q R T2 (m + 1) rem a w := by
  intro j hj
  rw [hr] at hj
  exact h j hj
theorem wpOpIn_val (hF : Open F ops) {K : Act → World → Prop} {i : Nat} {a : Act} {w w' : World} {v : Value} {dst : Option Tmp} {op : Op} {ty : TypeId} {pos : String} {after : Array Edge} (ho : ops[i]? = some ⟨dst, op, ty, pos, after, none⟩)
    (hx : (execOp a.eval ⟨dst, op, ty, pos, after, none⟩).run P w = .ok (.value v) w') (h : K (a.put dst v) w') : wpOpIn F n P ops Q i K a w := by
  unfold wpOpIn
  rw [ho]
  simp only
  rw [if_pos (by simp [Region.wanted])]
  exact hF.want ho (by rw [hx]; exact h)
theorem wpOpIn_enter (hF : Open F ops) {K : Act → World → Prop} {i : Nat} {a : Act} {w : World} {dst : Option Tmp} {op : Op} {ty : TypeId} {pos : String} {after : Array Edge} {f : FuncId} {args : Array Value} (ho : ops[i]? = some ⟨dst, op, ty, pos, after, none⟩)
    (hx : (execOp a.eval ⟨dst, op, ty, pos, after, none⟩).run P w = .ok (.enter f args) w) (h : CallsIn F (n - 1) P f args w fun e w'' => ∃ v, e = .returned v ∧ K (a.put dst v) w'') : wpOpIn F n P ops Q i K a w := by
  unfold wpOpIn
  rw [ho]
  simp only
  rw [if_pos (by simp [Region.wanted])]
  refine hF.want ho ?_
  rw [hx, Oper.uponIn_enter]
  refine ⟨fun hd => ?_, h.mono fun e w'' ⟨v, he, hk⟩ => ?_⟩
  · rw [hF.depth] at hd
    cases hd
  · subst he
    exact hk
theorem endTIn {C : World → Prop} {T1 T2 : List Nat} {l : List Oper} {a : Act} {w : World} (hl : getOps ops T2 = l) (h : wpListIn F n P ops Q l a w) : wpTIn F n P ops C Q (fun a'' w'' => wpListIn F n P ops Q (getOps ops T2) a'' w'') T2 0 T1 a w := by
  subst hl; exact h
end
end Go.Proofs.YtkeamfdceehliaaGreatDoor

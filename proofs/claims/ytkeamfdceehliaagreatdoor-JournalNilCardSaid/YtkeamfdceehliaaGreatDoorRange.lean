/- A range over a function whose iterator turns memory of its own: the statement and its rounds, plainly. -/
import Derived.Test.YtkeamfdceehliaaGreatDoorBase
import Derived.RangeFuncNested
import Derived.RangeFuncRecord
namespace Go.Proofs.YtkeamfdceehliaaGreatDoor
open Go.RowKit
section
variable {P : Program}

def backPost (l : Nat) (rec : LoopState → Option Code → Loop) (R : Ending → World → Prop) : Exit → Act → World → Prop
  | .normal, _, w => w.heap[l]? = some (.loop (rec .busy none)) ∧ R (.returned (.bool true)) (w.putObj l (.loop (rec .ready none)))
  | .ret, _, w => w.heap[l]? = some (.loop (rec .busy none)) ∧ R (.returned (.bool false)) (w.putObj l (.loop (rec .done (some .ret))))
  | .exit id, _, w => w.heap[l]? = some (.loop (rec .busy none)) ∧ R (.returned (.bool false)) (w.putObj l (.loop (rec .done (some (.exit id)))))
  | .goto t, _, w => w.heap[l]? = some (.loop (rec .busy none)) ∧ R (.returned (.bool false)) (w.putObj l (.loop (rec .done (some (.goto t)))))
  | .panic _, _, _ => False
  | .outgrown, _, _ => False

theorem range_plain {g : Operand} {ps : Array Tmp} {assign body : Code} {Q : Exit → Act → World → Prop} {a : Act} {W0 : World} {gf : Nat} {lb : Array Value} (m : Nat)
    (hg : a.eval g = .func (.func gf) #[] lb) (eg : ∀ args w, (callFunc gf args).run P w = .ok (.enter gf args) w)
    (h : ∀ (rec : LoopState → Option Code → Loop),
      (∀ (m : Nat) (W : World) (args : Array Value) (R : Ending → World → Prop), W.heap[W0.heap.size + 1]? = some (.loop (rec .ready none)) → args.size = ps.size →
        assign.wpIn (Fence.wide.inRound (W0.heap.size + 1)) m P (Exit.then (fun a1 w1 => w1 = W ∧ body.wpIn (Fence.wide.inRound (W0.heap.size + 1)) m P (backPost (W0.heap.size + 1) rec R) a1 (W.putObj (W0.heap.size + 1) (.loop (rec .busy none)))) (fun _ _ _ => False))
          { tmps := (ps.zip args).foldl (fun t (p, v) => t.setIfInBounds p v) a.tmps, defers := [] } W →
        YieldAt Fence.wide m P (W0.heap.size + 1) args W R) →
      CallsIn Fence.wide (m - 1) P gf (#[.func (.yield (W0.heap.size + 1)) #[] #[]] ++ lb) ((W0.alloc (.deferred (some []))).alloc (.loop (rec .ready none))) (fun e w3 => (∃ v, e = .returned v) ∧
        ((w3.heap[W0.heap.size + 1]? = some (.loop (rec .ready none)) ∧ Q .normal { a with defers := { target := .collected W0.heap.size, args := #[] } :: a.defers } (w3.putObj (W0.heap.size + 1) (.loop (rec .exhausted none)))) ∨
          (∃ c, w3.heap[W0.heap.size + 1]? = some (.loop (rec .done (some c))) ∧ c.wp P Q { a with defers := { target := .collected W0.heap.size, args := #[] } :: a.defers } (w3.putObj (W0.heap.size + 1) (.loop (rec .exhausted (some c)))))))) :
    (Code.rangeFunc g ps assign body).wp P Q a W0 := by
  refine (wpIn_wide (n := m)).1 (wpIn_rangeFunc ?_)
  intro fn hfn
  obtain ⟨rec, hrec⟩ : ∃ rec : LoopState → Option Code → Loop, rec = fun st pe => { state := st, pending := pe, fn, tmps := a.tmps, params := ps, assign, body, defers := W0.heap.size } := ⟨_, rfl⟩
  obtain ⟨W1, hW1⟩ : ∃ W1, (W0.alloc (.deferred (some []))).alloc (.loop (rec .ready none)) = W1 := ⟨_, rfl⟩
  have h := h rec ?_
  · rw [hW1] at h
    refine ⟨W0.heap.size + 1, [{ target := .collected W0.heap.size, args := #[] }], W1, { target := .fn (.func gf) lb, args := #[.func (.yield (W0.heap.size + 1)) #[] #[]] }, W1, gf,
      #[.func (.yield (W0.heap.size + 1)) #[] #[]] ++ lb, W1, ?_, ?_, ?_, ?_, ?_, ?_⟩
    · rw [← hW1, hrec]
      exact run_enterLoop_outer _ _ _ _ _
    · simp only [resolve, hg]
      simp [go_sem]
    · intro f' _
      exact trivial
    · simp [invoke, go_sem, eg]
    · intro hd
      simp [Fence.wide] at hd
    · refine CallsIn.mono h ?_
      rintro e w3 ⟨⟨v, rfl⟩, ⟨hl, hq⟩ | ⟨c, hl, hq⟩⟩
      · refine ⟨none, w3.putObj (W0.heap.size + 1) (.loop (rec .exhausted none)), ?_, hq⟩
        have := run_endLoop (P := P) hl (by rw [hrec]; simp)
        rw [hrec] at this ⊢
        exact this
      · refine ⟨some c, w3.putObj (W0.heap.size + 1) (.loop (rec .exhausted (some c))), ?_, wpIn_wide.2 hq⟩
        have := run_endLoop (P := P) hl (by rw [hrec]; simp)
        rw [hrec] at this ⊢
        exact this
  · intro m W args R hl hs hw
    have hy := run_yield (P := P) (args := args) hl (by rw [hrec]; exact hs)
    rw [hrec] at hy
    refine ⟨fn, _, assign, body, hy, roundIn_of_wpIn hfn (wpIn_mono hw ?_)⟩
    have fin : ∀ (jump : Option Code) (W3 : World), W3.heap[W0.heap.size + 1]? = some (.loop (rec .busy none)) → (Instr.endRound (W0.heap.size + 1) jump).run P W3 = .ok (.bool jump.isNone) (W3.putObj (W0.heap.size + 1) (.loop (rec (if jump.isNone then .ready else .done) jump))) := fun jump W3 hl3 => by
      have := run_endRound (P := P) jump hl3
      rw [hrec] at this ⊢
      exact this
    intro e a1 w1 hq
    cases e with
    | normal =>
      obtain ⟨e1, hb⟩ := hq
      rw [e1]
      refine ⟨W.putObj (W0.heap.size + 1) (.loop (rec .busy none)), ?_, wpIn_mono hb ?_⟩
      · have := run_beginRound (P := P) hl (by rw [hrec])
        rw [hrec] at this ⊢
        exact this
      intro e a2 w2 hq
      cases e with
      | normal => exact ⟨_, _, fin none _ hq.1, hq.2⟩
      | ret => exact ⟨_, _, fin (some .ret) _ hq.1, hq.2⟩
      | exit id => exact ⟨_, _, fin (some (.exit id)) _ hq.1, hq.2⟩
      | goto t => exact ⟨_, _, fin (some (.goto t)) _ hq.1, hq.2⟩
      | panic c => exact hq
      | outgrown => exact hq
    | ret => exact hq
    | exit id => exact hq
    | goto t => exact hq
    | panic c => exact hq
    | outgrown => exact hq
end
end Go.Proofs.YtkeamfdceehliaaGreatDoor

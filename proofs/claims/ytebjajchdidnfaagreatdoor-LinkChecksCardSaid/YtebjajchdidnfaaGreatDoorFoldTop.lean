/-
  A part of the road: an evaluator over abstract memory with a proved simulation, and what is reckoned by it. Written by an AI agent; no person has read it.
-/
import Derived.Test.YtebjajchdidnfaaGreatDoorFoldDrawn4
import Derived.Carry
import Derived.HandedShaped
set_option linter.all false
namespace Go.Fold
open Go.RowKit
variable {P : Program}

/-! ### A call, as the kit speaks of it -/

theorem calls_of_enters {f : FuncId} {args : Array Value} {w w' : World} {u : Value} (h : EntersN P f args w u w') : Calls P f args w (fun e w'' => e = .returned u ∧ w'' = w') := by
  intro cs
  obtain ⟨fr, h1, h2⟩ := h cs
  exact ⟨.returned u, w', fr, ⟨rfl, rfl⟩, h1, h2.fn, h2.leaving⟩

/-- and back: what the kit has proved of a call -/
theorem enters_of_calls {f : FuncId} {args : Array Value} {w w' : World} {u : Value} (h : Calls P f args w (fun e w'' => e = .returned u ∧ w'' = w')) : EntersN P f args w u w' := by
  intro cs
  obtain ⟨e, w1, fr, ⟨rfl, rfl⟩, h2, h3, h4⟩ := h cs
  obtain ⟨k1, k2, k3, fd, k4, k5⟩ := h4
  exact ⟨fr, h2, ⟨k1, k2, k3, h3, fd, by rw [← h3]; exact k4, k5⟩⟩

/-- nothing that is there may be written -/
def Still (m : Map) (A : AH) : Prop := ∀ B x b, m B = some x → A.get B = some b → b.wr = false

theorem Sim.below {m m' : Map} {A A' : AH} {w w' : World} (h : Sim P m A w m' A' w') (hs : Still m A) : Below w.heap.size w w' :=
  ⟨h.env.1, h.env.2.1, h.env.2.2, h.heap, fun r hr => h.kept r hr fun B x b hm _ hg => hs B x b hm hg⟩

/-- what the evaluator finds, the machine does -/
theorem calls_of_ev {hk : Hook} {n : Nat} (hr : RecOk P (ev P hk n)) {f : FuncId} {fd : Func} {body : Code} (hf : P.funcs[f]? = some fd) (hb : fd.body = some body) (hpl : Plain P)
    {m : Map} {A : AH} {w : World} (hA : Agree P m A w) (hs : Still m A) {args : List AV} {args' : Array Value} (ha : LR m args args'.toList) {v : AV} {A' : AH} (h : ev P hk n (.call f args A) = some (.done v A')) :
    Calls P f args' w (fun e w' => ∃ u m', e = .returned u ∧ VR m' v u ∧ Below w.heap.size w w') := by
  obtain ⟨u, w', m', h1, h2, h3⟩ := hr.call _ _ _ _ _ h m w args' hA ha
  have hrun : (callFunc f args').run P w = .ok (.enter f args') w := by
    have hn := hpl f fd hf
    simp [callFunc, hf, hn, hb, Result.andThen]
  rcases h1 with h1 | ⟨_, h1⟩
  · rw [hrun] at h1; cases h1
  · refine (calls_of_enters h1).mono fun e w'' he => ?_
    obtain ⟨rfl, rfl⟩ := he
    exact ⟨u, m', rfl, h2, h3.below hs⟩

end Go.Fold

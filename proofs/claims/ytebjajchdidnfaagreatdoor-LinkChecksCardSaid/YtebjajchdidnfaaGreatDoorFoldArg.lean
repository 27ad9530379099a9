/-
  A part of the road: an evaluator over abstract memory with a proved simulation, and what is reckoned by it. Written by an AI agent; no person has read it.
-/
import Derived.Test.YtebjajchdidnfaaGreatDoorFoldLaid
import Derived.Test.YtebjajchdidnfaaGreatDoorFoldIns2
import Derived.Handed
import Derived.SizedLaws
set_option linter.all false
set_option linter.all false
namespace Go.Fold
open Go.RowKit
variable {P : Program} {H : Type}

theorem absL_map {α : Type} {f : DataW H → AH → Option (List AV × AH)} {F : α → DataW H} {g : α → List AV} (h : ∀ s A, f (F s) A = some (g s, A)) : ∀ (l : List α) (A : AH), absL f (l.map F) A = some (l.flatMap g, A)
  | [], A => rfl
  | s :: l, A => by simp only [List.map_cons, absL, h, absL_map h l A, List.flatMap_cons]

theorem list_of {α β : Type} {F : α → β} : ∀ {xs : List β}, (∀ x ∈ xs, ∃ s, x = F s) → ∃ l : List α, xs = l.map F
  | [], _ => ⟨[], rfl⟩
  | x :: xs, h => by
    obtain ⟨s, rfl⟩ := h x (List.mem_cons_self ..)
    obtain ⟨l, rfl⟩ := list_of (xs := xs) fun y hy => h y (List.mem_cons_of_mem _ hy)
    exact ⟨s :: l, rfl⟩

/-- a slice's reading, where each element's reading is of a form -/
theorem trod_slice_of {α : Type} {enc : TypeId × Value → H} {w : World} {base : Nat} {held : Bool} {t e : TypeId} {fuel : Nat} {cs : List Value} {x : DataW H × List MemPlace} {F : α → DataW H} (ht : P.underlying t = some (.slice e))
    (he : ∀ (n : Nat) (cs : List Value) (y : DataW H × List MemPlace), DataW.trod enc P w base (fun _ => true) held n e cs = some y → ∃ s, y.1 = F s)
    (h : DataW.trod enc P w base (fun _ => true) held fuel t cs = some x) : x.1 = .nil ∨ ∃ l l2 : List α, x.1 = .slice (l.map F) (l2.map F) := by
  rcases DataW.trod_slice ht h with ⟨_, rfl⟩ | ⟨a, len, cap, elems, rest, n, _, _, rfl, _, _, _, hl, h1, h2, _⟩
  · exact .inl rfl
  · right
    obtain ⟨hr, h2⟩ := h2 rfl
    have k1 : ∀ y ∈ elems.map (·.1), ∃ s, y = F s := by
      intro y hy
      obtain ⟨z, hz, rfl⟩ := List.mem_map.1 hy
      obtain ⟨i, hi, rfl⟩ := List.getElem_of_mem hz
      have := h1 i (by omega)
      rw [List.getElem?_eq_getElem hi, Option.bind_eq_some_iff] at this
      obtain ⟨cs', _, hd⟩ := this
      exact he _ _ _ hd
    have k2 : ∀ y ∈ rest.map (·.1), ∃ s, y = F s := by
      intro y hy
      obtain ⟨z, hz, rfl⟩ := List.mem_map.1 hy
      obtain ⟨i, hi, rfl⟩ := List.getElem_of_mem hz
      have := h2 i (by omega)
      rw [List.getElem?_eq_getElem hi, Option.bind_eq_some_iff] at this
      obtain ⟨cs', _, hd⟩ := this
      exact he _ _ _ hd
    obtain ⟨l, hl1⟩ := list_of k1
    obtain ⟨l2, hl2⟩ := list_of k2
    exact ⟨l, l2, by rw [hl1, hl2]⟩

/-- a call whose contract is known, as the kit speaks of it -/
theorem calls_of_spec {f : FuncId} {fd : Func} {body : Code} (hf : P.funcs[f]? = some fd) (hb : fd.body = some body) (hpl : Plain P) {m : Map} {A : AH} {w : World} (hA : Agree P m A w) (hs : Still m A) {args : List AV} {args' : Array Value}
    (ha : LR m args args'.toList) {v : AV} {A' : AH} (h : CallSpec P f args A v A') : Calls P f args' w (fun e w' => ∃ u m', e = .returned u ∧ VR m' v u ∧ Below w.heap.size w w') := by
  obtain ⟨u, w', m', h1, h2, h3⟩ := h m w args' hA ha
  have hrun : (callFunc f args').run P w = .ok (.enter f args') w := by
    have hn := hpl f fd hf
    simp [callFunc, hf, hn, hb, Result.andThen]
  rcases h1 with h1 | ⟨_, h1⟩
  · rw [hrun] at h1; cases h1
  · refine (calls_of_enters h1).mono fun e w'' he => ?_
    obtain ⟨rfl, rfl⟩ := he
    exact ⟨u, m', rfl, h2, h3.below hs⟩

section
variable {enc : TypeId × Value → H}
/-- the plain wrap: a premise on the world, and the world's shape -/
theorem handed_of_contract {a : Assume} {C : Checked} {os : Os} {f : FuncId} {fn : Func} {s : ChangeSpec} {conds : List PathCond} {apart fresh handsOn again : Bool} {X : World → Array Value → Prop}
    (hX : ∀ (w w' : World) (args : Array Value), w.heap = w'.heap → X w args → X w' args)
    (own : ownKnob C.prog.godebug = none) (started : os.Started) (noInit : C.prog.inits.idxOf? f = none) (hfn : C.prog.funcs[f]? = some fn)
    (witness : ∃ (w : World) (tape : Tape) (i : Input), w.os = os ∧ (w.forCall tape i).Shaped C.prog ∧ i.vars = [] ∧ Input.okWide C.prog (w.forCall tape i) .any w.heap.size f i ∧
      ((s.pre enc C.prog fn conds apart (w.forCall tape i).memory i.args ∧ X (w.forCall tape i).memory i.args) ∧ sizedMet enc C.prog fn (OpenSpec.ofChange s) apart (w.forCall tape i).memory i.args) ∧ a.holds C.prog (lone (Frame.enter C.prog f i.args .normal) [] (w.forCall tape i)))
    (contract : ∀ (W : World) (base : Nat) (args : Array Value) (ds gs : List (DataW H)) (before : List MemPlace),
      (∀ (j : Nat) t v, fn.params[j]? = some t → args[j]? = some v → Value.okWide C.prog W .any base t v) →
      DataW.Whole enc C.prog fn.params.toList s.vars apart W args.toList ds gs before → W.ShapedOpen C.prog → X W args →
      Calls C.prog f args W fun e W' => ∃ v, e = .returned v ∧ s.post enc C.prog fn apart fresh handsOn again W args v W') :
    ReturnsInHanded a C os f .any (fun w args => (s.pre enc C.prog fn conds apart w args ∧ X w args) ∧ sizedMet enc C.prog fn (OpenSpec.ofChange s) apart w args) (s.post enc C.prog fn apart fresh handsOn again) := by
  refine returnsInHanded_of_calls own started noInit witness ?_
  intro w tape i _ hsh _ hok hpre _
  obtain ⟨_, _, _, fn', hfn', _, _, _, _, hval⟩ := hok
  have e : fn' = fn := Option.some.inj (hfn'.symm.trans hfn)
  subst e
  obtain ⟨⟨⟨ds, gs, before, hw, _⟩, hx⟩, _⟩ := hpre
  have hw' := DataW.Whole.of_heap (w' := w.forCall tape i) (by rfl) hw
  refine (contract (w.forCall tape i) w.heap.size i.args ds gs before hval hw' hsh (hX _ _ _ (by rfl) hx)).mono fun e W' ⟨v, he, hp⟩ => ?_
  subst he
  exact ChangeSpec.post_blind hp
end

end Go.Fold

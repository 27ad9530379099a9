/-
  A part of the road: an evaluator over abstract memory with a proved simulation, and what is reckoned by it. Written by an AI agent; no person has read it.
-/
import Derived.Test.YtebjajchdidnfaaGreatDoorFoldFrame
set_option linter.all false
namespace Go.Fold
variable {P : Program} {rec : Rec}

/-- a hook says what a call of the function comes to -/
def HookOk (P : Program) (hk : Hook) : Prop := ∀ f h, hk f = some h → ∀ args A v A', h args A = some (v, A') → CallSpec P f args A v A'

theorem endRoundA_rel {m : Map} {A : AH} {w : World} (hA : Agree P m A w) {l : Nat} {jump : Option Code} {v : AV} {A' : AH} (h : endRoundA A l jump = some (.done v A')) {x : Img} (hx : m l = some x) :
    ∃ w', (Instr.endRound x.blk jump).run P w = .ok (.bool jump.isNone) w' ∧ v = .bool jump.isNone ∧ Sim P m A w m A' w' := by
  unfold endRoundA at h
  split at h
  · rename_i r hg
    simp only [Option.some.injEq, Res.done.injEq] at h
    obtain ⟨rfl, rfl⟩ := h
    obtain ⟨o, ho, l', rfl, h1, h2, h3, h4, h5, h6, h7, y, hy, h8⟩ := hA.blk _ _ _ hx hg
    refine ⟨{ w with heap := w.heap.setIfInBounds x.blk (.loop { l' with state := if jump.isNone then .ready else .done, pending := jump }) }, ?_, rfl, Sim.turn hA l x _ _ (.loop { l' with state := if jump.isNone then .ready else .done, pending := jump }) hx hg rfl rfl ⟨rfl, rfl, rfl⟩ ⟨_, rfl, rfl, rfl, h3, h4, h5, h6, h7, y, hy, h8⟩⟩
    simp [Instr.endRound, Instr.getLoop, getObj, setObj, Sem.run, ho, Result.andThen]
  · simp at h

theorem frS_false (b : Frame) (a : Act) (todo : List Item) : frS false b a todo = b.atR a todo := rfl

/-- what one step of a frame comes to -/
def ResSpec (P : Program) (retn : Bool) (fn : FuncId) (ro : Option Nat) (todo : List Item) (t : AT) (dfs : List ADef) (A : AH) (r : Res) : Prop :=
  match r with
  | .more retn' fn' ro' todo' t' dfs' A' => fn' = fn ∧ ro' = ro ∧ MoreSpec P retn fn ro todo t dfs A retn' todo' t' dfs' A'
  | .done v A' => DoneSpec P retn fn ro todo t dfs A v A'

variable {fn : FuncId} {ro : Option Nat} {todo : List Item} {t : AT} {dfs : List ADef} {A : AH} {r : Res}

/-- a step that turns nothing but what is to be done -/
theorem plain_sim {todo' : List Item} (hs : ∀ (b : Frame) (a : Act) (cs : List Frame) (w : World), step P (lone (b.atR a todo) cs w) = .next (lone (b.atR a todo') cs w)) :
    ResSpec P false fn ro todo t dfs A (.more false fn ro todo' t dfs A) := by
  refine ⟨rfl, rfl, ?_⟩
  intro m w a ro' _ hA ht hd
  exact ⟨w, m, a, .refl hA, ht, hd, fun b cs todo1 _ _ h1 => ⟨todo', fun _ => rfl, by rw [h1 rfl]; exact .one (hs b a cs w)⟩⟩

/-- the frame is left -/
theorem leaveA_sim {jump : Option Code} (hl : leaveA fn ro jump todo t dfs A = some r)
    (h1 : (jump = none ∨ jump = some .ret) → ∀ (b : Frame) (a : Act) (cs : List Frame) (w : World), b.roundOf = none → ∃ todo2, step P (lone (b.atR a todo) cs w) = .next (lone { b.atR a todo2 with mode := .returning } cs w))
    (h2 : ∀ (b : Frame) (a : Act) (c : Frame) (cs : List Frame) (w w' : World) (l : Nat) (v : Value), b.roundOf = some l → b.kind = .normal → (Instr.endRound l jump).run P w = .ok v w' → step P (lone (b.atR a todo) (c :: cs) w) = .next (lone (c.finish v) cs w')) :
    ResSpec P false fn ro todo t dfs A r := by
  cases ro with
  | none =>
    have go : (jump = none ∨ jump = some .ret) → r = .more true fn none todo t dfs A → ResSpec P false fn none todo t dfs A r := by
      intro hj hrr
      subst hrr
      refine ⟨rfl, rfl, ?_⟩
      intro m w a ro' hror hA ht hd
      simp only [ROR] at hror; subst hror
      refine ⟨w, m, a, .refl hA, ht, hd, fun b cs todo1 _ hb ht1 => ?_⟩
      obtain ⟨todo2, hs⟩ := h1 hj b a cs w hb
      exact ⟨todo2, (fun e => by cases e), by rw [ht1 rfl]; exact .one hs⟩
    unfold leaveA at hl
    simp only at hl
    split at hl
    · simp only [Option.some.injEq] at hl; exact go (.inl rfl) hl.symm
    · simp only [Option.some.injEq] at hl; exact go (.inr rfl) hl.symm
    · simp at hl
  | some l =>
    unfold leaveA at hl
    simp only at hl
    cases r with
    | more _ _ _ _ _ _ _ =>
      unfold endRoundA at hl
      split at hl <;> simp at hl
    | done v A' =>
      intro m w a ro' hror hA ht hd
      obtain ⟨x, hx, rfl⟩ := hror
      obtain ⟨w', hrun, rfl, hsim⟩ := endRoundA_rel hA hl hx
      exact ⟨.bool jump.isNone, w', m, hsim, by simp [VR], fun b c cs todo1 _ hb hk ht1 => by rw [ht1 rfl]; exact .one (h2 b a c cs w w' x.blk _ hb hk hrun)⟩

theorem retA_sim (hr : RecOk P rec) (h : retA P rec fn ro todo t dfs A = some r) : ResSpec P true fn ro todo t dfs A r := by
  unfold retA at h
  split at h
  · -- what a range over a function has deferred
    rename_i bk ds
    split at h
    · rename_i calls hg
      simp only [Option.some.injEq] at h; subst h
      refine ⟨rfl, rfl, ?_⟩
      intro m w a ro' hror hA ht hd
      obtain ⟨tm, defs⟩ := a
      cases hd with
      | cons h1 h2 =>
        rename_i d dds
        obtain ⟨x, hx, htg⟩ := h1
        obtain ⟨tg, dargs⟩ := d
        simp only at htg; subst htg
        obtain ⟨o, ho, ds', rfl, hds⟩ := hA.blk _ _ _ hx hg
        have hsim := Sim.turn (w' := { w with heap := w.heap.setIfInBounds x.blk (.deferred none) }) hA bk x _ (.dfr none) (.deferred none) hx hg rfl rfl ⟨rfl, rfl, rfl⟩ rfl
        refine ⟨_, m, ⟨tm, ds' ++ dds⟩, hsim, ht, hds.append h2, fun b cs todo1 _ _ _ => ⟨todo1, (fun e => by cases e), ?_⟩⟩
        refine .one (step_collected (fr := { b.atR ⟨tm, { target := .collected x.blk, args := dargs } :: dds⟩ todo1 with mode := .returning }) rfl rfl ?_)
        simp [Instr.takeDeferred, getObj, setObj, Sem.run, ho, Result.andThen]
    · simp at h
  · -- a deferred call
    rename_i f cap args ds
    split at h
    · rename_i v' A3 hcall
      simp only [Option.some.injEq] at h; subst h
      refine ⟨rfl, rfl, ?_⟩
      intro m w a ro' hror hA ht hd
      obtain ⟨tm, defs⟩ := a
      cases hd with
      | cons h1 h2 =>
        rename_i d dds
        obtain ⟨f', cap', htg, hf, hcap, hargs⟩ := h1
        obtain ⟨tg, dargs⟩ := d
        simp only at htg hargs; subst htg
        simp only [FR] at hf; subst hf
        obtain ⟨u, w', m', h3, h4, h5⟩ := hr.dcall _ _ _ _ _ hcall m w (dargs ++ cap') hA (by simpa using hargs.append hcap)
        refine ⟨w', m', ⟨tm, dds⟩, h5, ht.mono h5.le, h2.mono h5.le, fun b cs todo1 _ _ _ => ⟨todo1, (fun e => by cases e), ?_⟩⟩
        exact deferred_steps (fr := { b.atR ⟨tm, { target := .fn (.func f) cap', args := dargs } :: dds⟩ todo1 with mode := .returning }) rfl rfl h3
    · simp at h
  · simp at h
  · -- the results
    split at h
    · rename_i fd hfd
      split at h
      · rename_i vs hvs
        simp only [Option.some.injEq] at h; subst h
        intro m w a ro' hror hA ht hd
        simp only [ROR] at hror; subst hror
        obtain ⟨u, h1, h2⟩ := results_rel hA ht hvs
        obtain ⟨tm, defs⟩ := a
        cases hd
        exact ⟨u, w, m, .refl hA, h2, fun b cs todo1 hf hb _ => ⟨frS true b ⟨tm, []⟩ todo1, .refl _ _, rfl, rfl, rfl, hf, fd, hfd, h1⟩⟩
      · simp at h
    · simp at h

theorem beginRoundA_sim {k : List Item} {A' : AH} (h : beginRoundA A ro = some A') : ResSpec P false fn ro (.beginRound :: k) t dfs A (.more false fn ro k t dfs A') := by
  unfold beginRoundA at h
  split at h
  · rename_i l
    split at h
    · rename_i r hg
      split at h
      · rename_i hst
        simp only [Option.some.injEq] at h; subst h
        refine ⟨rfl, rfl, ?_⟩
        intro m w a ro' hror hA ht hd
        obtain ⟨x, hx, rfl⟩ := hror
        obtain ⟨o, ho, l', rfl, h1, h2, h3, h4, h5, h6, h7, y, hy, h8⟩ := hA.blk _ _ _ hx hg
        refine ⟨{ w with heap := w.heap.setIfInBounds x.blk (.loop { l' with state := .busy }) }, m, a, Sim.turn hA l x _ _ (.loop { l' with state := .busy }) hx hg rfl rfl ⟨rfl, rfl, rfl⟩ ⟨_, rfl, rfl, h2, h3, h4, h5, h6, h7, y, hy, h8⟩, ht, hd, fun b cs todo1 _ hb ht1 => ⟨k, fun _ => rfl, ?_⟩⟩
        rw [ht1 rfl]
        refine .one (stepR_beginRound hb ?_)
        simp [Instr.beginRound, Instr.getLoop, getObj, setObj, Sem.run, ho, Result.andThen, h1, hst]
      · simp at h
    · simp at h
  · simp at h

theorem regionRun_sim (hmix : P.follows .mixedOrders = true) (hdr : DrawnOk P rec) (hr : RecOk P rec) {id : Nat} {ops : Array Oper} {draw : Bool} {k : List Item} {t' : AT} {dfs' : List ADef} {A' : AH}
    (h : regionA P rec ops draw ro t dfs A = some (t', dfs', A')) : ResSpec P false fn ro (.code (.region id ops draw) :: k) t dfs A (.more false fn ro k t' dfs' A') := by
  refine ⟨rfl, rfl, ?_⟩
  intro m w a ro' hror hA ht hd
  obtain ⟨a', w', m', h1, h2, h3, h4⟩ := regionA_sim (id := id) hmix hdr hr fn hror hA ht hd h
  exact ⟨w', m', a', h1, h2, h3, fun b cs todo1 hf hb ht1 => ⟨k, fun _ => rfl, by rw [ht1 rfl]; exact h4 b k cs hf hb⟩⟩

/-! ### A range over a function -/

theorem endLoopA_rel {m : Map} {w : World} (hA : Agree P m A w) {l : Nat} {jump : Option Code} {A' : AH} (h : endLoopA A l = some (jump, A')) {x : Img} (hx : m l = some x) :
    ∃ w', (Instr.endLoop x.blk).run P w = .ok jump w' ∧ Sim P m A w m A' w' := by
  unfold endLoopA at h
  split at h
  · rename_i r hg
    have key : r.state ≠ .busy → jump = r.pending → A' = A.put l (.loop { r with state := .exhausted }) → ∃ w', (Instr.endLoop x.blk).run P w = .ok jump w' ∧ Sim P m A w m A' w' := by
      intro hst hj hA'
      subst hj; subst hA'
      obtain ⟨o, ho, l', rfl, h1, h2, h3, h4, h5, h6, h7, y, hy, h8⟩ := hA.blk _ _ _ hx hg
      refine ⟨{ w with heap := w.heap.setIfInBounds x.blk (.loop { l' with state := .exhausted }) }, ?_, Sim.turn hA l x _ _ (.loop { l' with state := .exhausted }) hx hg rfl rfl ⟨rfl, rfl, rfl⟩ ⟨_, rfl, rfl, h2, h3, h4, h5, h6, h7, y, hy, h8⟩⟩
      have hb : (l'.state == .busy) = false := by rw [h1]; simpa using hst
      simp [Instr.endLoop, Instr.getLoop, getObj, setObj, Sem.run, ho, Result.andThen, h1, hst, h2]
    split at h
    · simp at h
    · rename_i hst
      simp only [Option.some.injEq, Prod.mk.injEq] at h
      exact key (fun e => hst e) h.1.symm h.2.symm
  · simp at h

theorem enterA_rel {m : Map} {w : World} (hA : Agree P m A w) {ro' : Option Nat} (hror : ROR m ro ro') {dfb : Nat} {mark : List ADef} {A1 : AH} (h : enterA A ro = some (dfb, mark, A1)) :
    ∃ w1 m1 r dmark, Sim P m A w m1 A1 w1 ∧ (∃ y, m1 dfb = some y ∧ r = y.blk) ∧ DR m1 mark dmark ∧
      (match ro' with
       | some l => do pure ((← Instr.getLoop l).defers, ([] : List Deferred))
       | none => do
         let r ← newObj (.deferred (some []))
         pure (r, [({ target := .collected r, args := #[] } : Deferred)]) : Sem (Nat × List Deferred)).run P w = .ok (r, dmark) w1 := by
  unfold enterA at h
  split at h
  · rename_i l
    split at h
    · rename_i r hg
      simp only [Option.some.injEq, Prod.mk.injEq] at h
      obtain ⟨rfl, rfl, rfl⟩ := h
      obtain ⟨x, hx, rfl⟩ := hror
      obtain ⟨o, ho, l', rfl, h1, h2, h3, h4, h5, h6, h7, y, hy, h8⟩ := hA.blk _ _ _ hx hg
      refine ⟨w, m, l'.defers, [], .refl hA, ⟨y, hy, h8⟩, .nil, ?_⟩
      simp [Instr.getLoop, getObj, Sem.run, ho, Result.andThen]
    · simp at h
  · simp only [ROR] at hror; subst hror
    simp only [Option.some.injEq, Prod.mk.injEq] at h
    obtain ⟨rfl, rfl, rfl⟩ := h
    have hsim := Sim.alloc (w' := { w with heap := w.heap.push (.deferred (some [])) }) hA (.dfr (some [])) (.deferred (some [])) ⟨w.heap.size, 0, 0, 0⟩ rfl rfl ⟨rfl, rfl, rfl⟩ ⟨[], rfl, .nil⟩
    refine ⟨_, _, w.heap.size, [{ target := .collected w.heap.size, args := #[] }], hsim, ⟨_, Map.plus_same _ _ _, rfl⟩, .cons ⟨_, Map.plus_same _ _ _, rfl⟩ .nil, ?_⟩
    simp [Result.andThen]

theorem rangeFunc_steps {b : Frame} {a : Act} {k : List Item} {cs : List Frame} {w w₁ w3 : World} {u : Value} {g : Operand} {ps : Array Tmp} {assign body : Code} {l : Nat} {mark : List Deferred}
    (he : (Instr.enterLoop b.fn a.tmps ps assign body b.roundOf).run P w = .ok (l, mark) w₁)
    (hd : Does P (do let d ← resolve a.eval (rangeCall g l) 0; invoke d.target d.args) w₁ u w3) :
    Steps P (lone (b.atR a (.code (.rangeFunc g ps assign body) :: k)) cs w) (lone (b.atR { a with defers := mark ++ a.defers } (.endRangeFunc l :: k)) cs w3) := by
  obtain ⟨fr1, cs1, w1, h1, h2⟩ := hd (b.atR { a with defers := mark ++ a.defers } (.inRangeFunc l :: k)) cs (by simp [Frame.atR])
  rw [finish_atR_inRangeFunc] at h2
  refine Steps.head (step_lone_go ?_) h2
  rw [← h1]
  have hev := Frame.eval_atR b { a with defers := mark ++ a.defers } (.inRangeFunc l :: k)
  simp only [Frame.atR] at hev
  have hev2 : ({ tmps := a.tmps, defers := mark ++ a.defers } : Act).eval = a.eval := by funext x; cases x <;> rfl
  simp only [stepG, stepG.exec, Frame.atR, Sem.runT_eq, he, GStep.bare_after, hev, hev2]

theorem rangeFuncA_sim (hr : RecOk P rec) {f : Operand} {params : Array Tmp} {assign body : Code} {k : List Item} {mark : List ADef} {jump : Option Code} {A' : AH}
    (h : rangeFuncA P rec fn ro f params assign body t A = some (mark, jump, A')) :
    ResSpec P false fn ro (.code (.rangeFunc f params assign body) :: k) t dfs A (.more false fn ro (jumpItems jump ++ k) t (mark ++ dfs) A') := by
  refine ⟨rfl, rfl, ?_⟩
  intro m w a ro' hror hA ht hd
  unfold rangeFuncA at h
  split at h
  · rename_i dfb mark' A1 g first cap hent hf
    dsimp only at h
    split at h
    · rename_i v A3 hcall
      split at h
      · rename_i jump' A4 hend
        simp only [Option.some.injEq, Prod.mk.injEq] at h
        obtain ⟨rfl, rfl, rfl⟩ := h
        obtain ⟨w1, m1, rb, dmark, h1, ⟨y, hy, hrb⟩, h3, h4⟩ := enterA_rel hA hror hent
        -- the record
        let lo : Loop := { state := .ready, pending := none, fn := fn, tmps := a.tmps, params := params, assign := assign, body := body, defers := rb }
        let x : Img := ⟨w1.heap.size, 0, 0, 0⟩
        have hle := Map.le_plus (x := x) h1.agree.none_next
        have h5 := Sim.alloc (w' := { w1 with heap := w1.heap.push (.loop lo) }) h1.agree (.loop { state := .ready, pending := none, fn := fn, tmps := t, params := params.toList, assign := assign, body := body, defers := dfb }) (.loop lo) x rfl rfl ⟨rfl, rfl, rfl⟩
          ⟨lo, rfl, rfl, rfl, rfl, (ht.mono h1.le).mono hle, rfl, rfl, rfl, y, hle _ _ hy, hrb⟩
        have hxl : (m1.plus A1.next x) A1.next = some x := Map.plus_same _ _ _
        -- the call
        have hfr := evalO_rel hA.glob ht hf
        simp only [VR] at hfr
        obtain ⟨g', fi, ca, he, hg, hfi, hca⟩ := hfr
        simp only [FR] at hg; subst hg
        have hm2 : m.le (m1.plus A1.next x) := h1.le.trans hle
        have hyield : LR (m1.plus A1.next x) [.fn (.yield A1.next) [] []] [Value.func (.yield w1.heap.size) #[] #[]] := by
          refine .cons ?_ .nil
          simp only [VR]
          exact ⟨_, _, _, rfl, ⟨x, hxl, rfl⟩, .nil, .nil⟩
        obtain ⟨u, w3, m3, h6, h7, h8⟩ := hr.call _ _ _ _ _ hcall _ _ (fi ++ #[.func (.yield w1.heap.size) #[] #[]] ++ ca) h5.agree (by
          simpa using ((LR.mono hm2 hfi).append hyield).append (LR.mono hm2 hca))
        obtain ⟨w4, h9, h10⟩ := endLoopA_rel h8.agree hend (h8.le _ _ hxl)
        refine ⟨w4, m3, { a with defers := dmark ++ a.defers }, (h1.trans hA (h5.trans h1.agree (h8.trans h5.agree h10))), ((ht.mono h1.le).mono hle).mono h8.le, ?_, fun b cs todo1 hfn hb ht1 => ⟨jumpItems jump' ++ k, fun _ => rfl, ?_⟩⟩
        · exact DR.append (h3.mono (hle.trans h8.le)) (hd.mono (hm2.trans h8.le))
        · rw [ht1 rfl]
          have hentrun : (Instr.enterLoop b.fn a.tmps params assign body b.roundOf).run P w = .ok (w1.heap.size, dmark) { w1 with heap := w1.heap.push (.loop lo) } := by
            rw [hfn, hb]
            simp only [Instr.enterLoop]
            cases ro' with
            | none =>
              simp only at h4
              simp only [Sem.run_bind, run_newObj, Result.andThen_ok, Sem.run_pure, Result.ok.injEq, Prod.mk.injEq] at h4 ⊢
              obtain ⟨⟨rfl, rfl⟩, rfl⟩ := h4
              exact ⟨⟨rfl, rfl⟩, rfl⟩
            | some l =>
              simp only [Sem.run_bind, Sem.run_pure] at h4 ⊢
              cases hgl : (Instr.getLoop l).run P w with
              | halt hh ww => rw [hgl] at h4; simp [Result.andThen] at h4
              | ok lp ww =>
                rw [hgl] at h4
                simp only [Result.andThen_ok, Result.ok.injEq, Prod.mk.injEq] at h4
                obtain ⟨⟨rfl, rfl⟩, rfl⟩ := h4
                simp [Result.andThen, run_newObj]
                rfl
          have hres : (resolve a.eval (rangeCall f w1.heap.size) 0).run P { w1 with heap := w1.heap.push (.loop lo) } = .ok { target := .fn (.func g) ca, args := fi ++ #[.func (.yield w1.heap.size) #[] #[]] } { w1 with heap := w1.heap.push (.loop lo) } := by
            have e : (rangeCall f w1.heap.size).args.map a.eval = #[.func (.yield w1.heap.size) #[] #[]] := by simp [rangeCall, Act.eval]
            simp only [resolve, e, he, Deferred.ofValue]
            rfl
          have hend' : Steps P (lone (b.atR { a with defers := dmark ++ a.defers } (.endRangeFunc w1.heap.size :: k)) cs w3) (lone (b.atR { a with defers := dmark ++ a.defers } (jumpItems jump' ++ k)) cs w4) := by
            have := stepR_endRangeFunc (P := P) (b := b) (a := { a with defers := dmark ++ a.defers }) (k := k) (cs := cs) h9
            have e : (jump'.map Item.code).toList = jumpItems jump' := by cases jump' <;> rfl
            rw [e] at this
            exact .one this
          refine (rangeFunc_steps (b := b) (k := k) (cs := cs) hentrun (Does.of_run ?_ h6.does)).trans hend'
          rw [Sem.run_bind, hres]
          rfl
      · simp at h
    · simp at h
  · simp at h

end Go.Fold

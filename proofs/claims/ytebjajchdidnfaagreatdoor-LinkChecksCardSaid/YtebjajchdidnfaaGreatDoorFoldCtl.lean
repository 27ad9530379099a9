/-
  A part of the road: an evaluator over abstract memory with a proved simulation, and what is reckoned by it. Written by an AI agent; no person has read it.
-/
import Derived.Test.YtebjajchdidnfaaGreatDoorFoldEff2
set_option linter.all false
namespace Go.Fold
variable {P : Program}

/-! ### What an operation, or a call, does to the machine -/

/-- 's', carried out by a frame, ends with the value 'u' handed to the frame, in world w' -/
def Does (P : Program) (s : Sem Next) (w : World) (u : Value) (w' : World) : Prop :=
  ∀ (fr : Frame) (cs : List Frame), (∀ d r sv k, fr.todo ≠ .call d true r sv :: k) →
    ∃ fr1 cs1 w1, (stepG.apply P true fr cs none s w).bare = .go { frame := fr1, callers := cs1, status := .running, dying := none } w1 ∧ Steps P (lone fr1 cs1 w1) (lone (fr.finish u) cs w')

theorem Does.value {s : Sem Next} {w w' : World} {u : Value} (h : s.run P w = .ok (.value u) w') : Does P s w u w' :=
  fun fr cs _ => ⟨fr.finish u, cs, w', by simp [stepG.apply, Sem.runT_eq, h, GStep.bare_after], Steps.refl _ _⟩

theorem Does.skip {s : Sem Next} {w w' : World} (h : s.run P w = .ok .skip w') : Does P s w Go.undef w' :=
  fun fr cs _ => ⟨fr.finish Go.undef, cs, w', by simp [stepG.apply, Sem.runT_eq, h, GStep.bare_after], Steps.refl _ _⟩

theorem kind_normal {fr : Frame} (h : ∀ d r sv k, fr.todo ≠ .call d true r sv :: k) : (match fr.todo with | .call _ true _ _ :: _ => CallKind.wrapped | _ => CallKind.normal) = .normal := by
  split
  · rename_i d r sv k he; exact (h _ _ _ _ he).elim
  · rfl

/-- a frame that has been left -/
structure Left (P : Program) (fr : Frame) (kind : CallKind) (f : FuncId) (w : World) (u : Value) : Prop where
  mode : fr.mode = .returning
  defers : fr.defers = []
  kind : fr.kind = kind
  fn : fr.fn = f
  res : ∃ fd, P.funcs[f]? = some fd ∧ (results fd fr.tmps).run P w = .ok u w

def Enters (P : Program) (f : FuncId) (args : Array Value) (w : World) (u : Value) (w' : World) : Prop :=
  ∀ kind cs, ∃ fr, Steps P (lone (Frame.enter P f args kind) cs w) (lone fr cs w') ∧ Left P fr kind f w' u

/-- a call that is no deferred one -/
def EntersN (P : Program) (f : FuncId) (args : Array Value) (w : World) (u : Value) (w' : World) : Prop :=
  ∀ cs, ∃ fr, Steps P (lone (Frame.enter P f args .normal) cs w) (lone fr cs w') ∧ Left P fr .normal f w' u

theorem Enters.normal {f : FuncId} {args : Array Value} {w w' : World} {u : Value} (h : Enters P f args w u w') : EntersN P f args w u w' := fun cs => h .normal cs

theorem Left.leaving {fr : Frame} {f : FuncId} {w : World} {u : Value} (h : Left P fr .normal f w u) : fr.leaving P w (.returned u) := by
  obtain ⟨fd, h1, h2⟩ := h.res
  exact ⟨h.mode, h.defers, h.kind, fd, by rw [h.fn]; exact h1, h2⟩

theorem Does.enter {s : Sem Next} {w w1 w' : World} {u : Value} {f : FuncId} {args : Array Value} (h : s.run P w = .ok (.enter f args) w1) (he : EntersN P f args w1 u w') : Does P s w u w' := by
  intro fr cs hk
  obtain ⟨fr2, h1, h2⟩ := he (fr :: cs)
  refine ⟨Frame.enter P f args .normal, fr :: cs, w1, ?_, h1.trans (.one (step_leave_returned h2.leaving))⟩
  simp [stepG.apply, Sem.runT_eq, h, GStep.bare_after, kind_normal hk]

def Rounds (P : Program) (l : Nat) (f : FuncId) (tmps : Array Value) (assign body : Code) (w : World) (u : Value) (w' : World) : Prop :=
  ∀ c cs, Steps P (lone (Frame.round l f tmps assign body .normal) (c :: cs) w) (lone (c.finish u) cs w')

theorem Does.round {s : Sem Next} {w w1 w' : World} {u : Value} {l : Nat} {f : FuncId} {tmps : Array Value} {assign body : Code} (h : s.run P w = .ok (.round l f tmps assign body) w1) (he : Rounds P l f tmps assign body w1 u w') : Does P s w u w' := by
  intro fr cs _
  refine ⟨Frame.round l f tmps assign body .normal, fr :: cs, w1, ?_, he fr cs⟩
  simp [stepG.apply, Sem.runT_eq, h, GStep.bare_after]

/-- an operation of a region goes through -/
def OpSteps (P : Program) (ro : Option Nat) (o : Oper) (a : Act) (w : World) (a' : Act) (w' : World) : Prop :=
  ∀ (b : Frame) (ops : Array Oper) (i : Nat) (rest : List Nat) (k : List Item) (cs : List Frame), b.roundOf = ro → ops[i]? = some o → Region.wanted o (yielded ops a.tmps) = true →
    Steps P (lone (b.atR a (.inRegion ops (i :: rest) :: k)) cs w) (lone (b.atR a' (.inRegion ops rest :: k)) cs w')

theorem OpSteps.of_does {ro : Option Nat} {o : Oper} {a : Act} {w w' : World} {u : Value} (hd : ∀ c, o.op ≠ .defer c) (h : Does P (execOp a.eval o) w u w') : OpSteps P ro o a w (a.put o.dst u) w' := by
  intro b ops i rest k cs hro ho hw
  obtain ⟨fr1, cs1, w1, h1, h2⟩ := h (b.atR a (.inRegion ops (i :: rest) :: k)) cs (by simp [Frame.atR])
  have hs : step P (lone (b.atR a (.inRegion ops (i :: rest) :: k)) cs w) = .next (lone fr1 cs1 w1) := by
    refine step_lone_go ?_
    rw [stepGR_op ho hw, Oper.semAt_eq _ _ _ hd]
    exact h1
  rw [Frame.finish_atR, ho] at h2
  exact Steps.head hs h2

theorem OpSteps.defer {o : Oper} {c : Call} {a : Act} {w w' : World} {d : Deferred} (ho : o.op = .defer c) (h : (resolve a.eval c o.type).run P w = .ok d w') :
    OpSteps P none o a w ({ a with defers := d :: a.defers }.put o.dst Go.undef) w' := by
  intro b ops i rest k cs hro ho' hw
  refine .one (step_lone_go ?_)
  rw [stepGR_op ho' hw]
  have hsem : (o.semAt b.roundOf a.eval).run P w = .ok (.defer d) w' := by
    rw [hro, Oper.semAt_none]
    simp [execOp, ho, h, Result.andThen]
  have hfin := Frame.finish_atR b { a with defers := d :: a.defers } ops i rest k Go.undef
  rw [ho'] at hfin
  simp only [Option.bind_some] at hfin
  rw [← hfin]
  simp [stepG.apply, Sem.runT_eq, hsem, GStep.bare_after, Frame.atR]

theorem opSkips {o : Oper} {a : Act} {w : World} (b : Frame) (ops : Array Oper) (i : Nat) (rest : List Nat) (k : List Item) (cs : List Frame) (ho : ops[i]? = some o) (hw : Region.wanted o (yielded ops a.tmps) = false) :
    Steps P (lone (b.atR a (.inRegion ops (i :: rest) :: k)) cs w) (lone (b.atR (a.put o.dst Go.undef) (.inRegion ops rest :: k)) cs w) := by
  have := stepR_op_skip (P := P) (b := b) (a := a) (k := k) (cs := cs) (w := w) (ops := ops) (i := i) (rest := rest) (by simp [ho, hw])
  rw [ho] at this
  exact .one this

theorem Goes.does {m : Map} {A A' : AH} {w : World} {s : Sem Next} {v : AV} (h : Goes P m A w s A' v) : ∃ u w' m', Does P s w u w' ∧ VR m' v u ∧ Sim P m A w m' A' w' := by
  obtain ⟨u, w', m', h1, h2, h3⟩ := h
  rcases h1 with h1 | ⟨h1, rfl⟩
  · exact ⟨u, w', m', .value h1, h2, h3⟩
  · exact ⟨_, w', m', .skip h1, h2, h3⟩

/-! ### Guards -/

theorem wantedA_eq {m : Map} {t : AT} {a : Act} (ht : TR m t a.tmps) (ops : Array Oper) (o : Oper) : wantedA ops.toList o t = Region.wanted o (yielded ops a.tmps) := by
  unfold wantedA Region.wanted
  cases hg : o.guard with
  | none => rfl
  | some jw =>
    obtain ⟨j, want⟩ := jw
    simp only [yielded]
    rw [show ops.toList[j]? = ops[j]? by simp]
    cases ho : ops[j]? with
    | none => simp
    | some oj =>
      simp only [Option.bind_some]
      cases hd : oj.dst with
      | none => simp
      | some d =>
        simp only [Option.bind_some]
        have hr := ht.at_ d
        by_cases hlt : d < a.tmps.size
        · have e1 : a.tmps[d]? = some (a.tmps.getD d Go.undef) := by simp [Array.getD, hlt]
          rw [e1]
          generalize a.tmps.getD d Go.undef = u at hr
          generalize t.get d = x at hr
          cases x
          case bool b => cases hr.bool_inv; simp
          case int => cases hr.int_inv; simp
          case str => obtain ⟨b, rfl, _⟩ := hr.str_inv; simp
          case ptr => obtain ⟨b, rfl, _⟩ := hr.ptr_inv; simp
          case slice => obtain ⟨b, k, rfl, _⟩ := hr.slice_inv; simp
          case mapv => obtain ⟨b, rfl, _⟩ := hr.map_inv; simp
          case fn => simp only [VR] at hr; obtain ⟨f, x, y, rfl, _⟩ := hr; simp
          case nilFn => simp only [VR] at hr; subst hr; simp
          case nilIface => simp only [VR] at hr; subst hr; simp
          case agg => simp only [VR] at hr; obtain ⟨x, rfl, _⟩ := hr; simp
          case tup => simp only [VR] at hr; obtain ⟨x, rfl, _⟩ := hr; simp
        · have e1 : a.tmps[d]? = none := Array.getElem?_eq_none (Nat.le_of_not_lt hlt)
          have e2 : a.tmps.getD d Go.undef = Go.undef := by simp [Array.getD, hlt]
          rw [e1]
          rw [e2] at hr
          generalize t.get d = x at hr
          cases x <;> simp
          case bool b => cases hr.bool_inv

end Go.Fold

namespace Go.Fold
variable {P : Program}

theorem Does.of_run {s s' : Sem Next} {w w' : World} {u : Value} (h : s.run P w = s'.run P w) (hd : Does P s' w u w') : Does P s w u w' := by
  intro fr cs hk
  obtain ⟨fr1, cs1, w1, h1, h2⟩ := hd fr cs hk
  refine ⟨fr1, cs1, w1, ?_, h2⟩
  rw [← h1]
  simp only [stepG.apply, if_true, Sem.runT_eq, h, GStep.bare_after]

/-- a call of a function, as a value or by its body -/
def CallOk (P : Program) (f : FuncId) (args : Array Value) (w : World) (u : Value) (w' : World) : Prop :=
  (callFunc f args).run P w = .ok (.value u) w' ∨ ((callFunc f args).run P w = .ok (.enter f args) w ∧ EntersN P f args w u w')

/-- .. or of whatever kind -/
def CallOkD (P : Program) (f : FuncId) (args : Array Value) (w : World) (u : Value) (w' : World) : Prop :=
  (callFunc f args).run P w = .ok (.enter f args) w ∧ Enters P f args w u w'

theorem CallOk.does {f : FuncId} {args : Array Value} {w w' : World} {u : Value} (h : CallOk P f args w u w') : Does P (callFunc f args) w u w' := by
  rcases h with h | ⟨h1, h2⟩
  · exact .value h
  · exact .enter h1 h2

def CallSpec (P : Program) (f : FuncId) (args : List AV) (A : AH) (v : AV) (A' : AH) : Prop :=
  ∀ (m : Map) (w : World) (args' : Array Value), Agree P m A w → LR m args args'.toList → ∃ u w' m', CallOk P f args' w u w' ∧ VR m' v u ∧ Sim P m A w m' A' w'

def CallSpecD (P : Program) (f : FuncId) (args : List AV) (A : AH) (v : AV) (A' : AH) : Prop :=
  ∀ (m : Map) (w : World) (args' : Array Value), Agree P m A w → LR m args args'.toList → ∃ u w' m', CallOkD P f args' w u w' ∧ VR m' v u ∧ Sim P m A w m' A' w'

theorem CallSpecD.call {f : FuncId} {args : List AV} {A : AH} {v : AV} {A' : AH} (h : CallSpecD P f args A v A') : CallSpec P f args A v A' := fun m w args' hA hl => by
  obtain ⟨u, w', m', h1, h2, h3⟩ := h m w args' hA hl
  exact ⟨u, w', m', .inr ⟨h1.1, h1.2.normal⟩, h2, h3⟩

def RoundSpec (P : Program) (l : Nat) (args : List AV) (A : AH) (v : AV) (A' : AH) : Prop :=
  ∀ (m : Map) (w : World) (args' : Array Value) (x : Img), Agree P m A w → LR m args args'.toList → m l = some x → ∃ u w' m', Does P (Instr.yield x.blk args') w u w' ∧ VR m' v u ∧ Sim P m A w m' A' w'

/-- how a frame's number of its round stands -/
def ROR (m : Map) (ro ro' : Option Nat) : Prop :=
  match ro with
  | none => ro' = none
  | some l => ∃ x, m l = some x ∧ ro' = some x.blk

theorem ROR.mono {m m' : Map} (h : m.le m') {ro ro' : Option Nat} (hr : ROR m ro ro') : ROR m' ro ro' := by
  cases ro with
  | none => exact hr
  | some l => obtain ⟨x, hx, r⟩ := hr; exact ⟨x, h _ _ hx, r⟩

def frS (retn : Bool) (b : Frame) (a : Act) (todo : List Item) : Frame :=
  match retn with
  | false => b.atR a todo
  | true => { b.atR a todo with mode := .returning }

/-- a frame goes on -/
def MoreSpec (P : Program) (retn : Bool) (fn : FuncId) (ro : Option Nat) (todo : List Item) (t : AT) (dfs : List ADef) (A : AH)
    (retn' : Bool) (todo' : List Item) (t' : AT) (dfs' : List ADef) (A' : AH) : Prop :=
  ∀ (m : Map) (w : World) (a : Act) (ro' : Option Nat), ROR m ro ro' → Agree P m A w → TR m t a.tmps → DR m dfs a.defers →
    ∃ w' m' a', Sim P m A w m' A' w' ∧ TR m' t' a'.tmps ∧ DR m' dfs' a'.defers ∧
      ∀ b cs todo1, b.fn = fn → b.roundOf = ro' → (retn = false → todo1 = todo) → ∃ todo2, (retn' = false → todo2 = todo') ∧ Steps P (lone (frS retn b a todo1) cs w) (lone (frS retn' b a' todo2) cs w')

/-- a frame ends -/
def DoneSpec (P : Program) (retn : Bool) (fn : FuncId) (ro : Option Nat) (todo : List Item) (t : AT) (dfs : List ADef) (A : AH) (v : AV) (A' : AH) : Prop :=
  ∀ (m : Map) (w : World) (a : Act) (ro' : Option Nat), ROR m ro ro' → Agree P m A w → TR m t a.tmps → DR m dfs a.defers →
    ∃ u w' m', Sim P m A w m' A' w' ∧ VR m' v u ∧
      (match ro' with
       | none => ∀ b cs todo1, b.fn = fn → b.roundOf = none → (retn = false → todo1 = todo) → ∃ fr, Steps P (lone (frS retn b a todo1) cs w) (lone fr cs w') ∧ Left P fr b.kind fn w' u
       | some l => ∀ b c cs todo1, b.fn = fn → b.roundOf = some l → b.kind = .normal → (retn = false → todo1 = todo) → Steps P (lone (frS retn b a todo1) (c :: cs) w) (lone (c.finish u) cs w'))

structure RecOk (P : Program) (rec : Rec) : Prop where
  call : ∀ f args A v A', rec (.call f args A) = some (.done v A') → CallSpec P f args A v A'
  dcall : ∀ f args A v A', rec (.dcall f args A) = some (.done v A') → CallSpecD P f args A v A'
  round : ∀ l args A v A', rec (.round l args A) = some (.done v A') → RoundSpec P l args A v A'
  more : ∀ k retn fn ro todo t dfs A retn' fn' ro' todo' t' dfs' A', rec (.iter k retn fn ro todo t dfs A) = some (.more retn' fn' ro' todo' t' dfs' A') →
    fn' = fn ∧ ro' = ro ∧ MoreSpec P retn fn ro todo t dfs A retn' todo' t' dfs' A'
  done : ∀ k retn fn ro todo t dfs A v A', rec (.iter k retn fn ro todo t dfs A) = some (.done v A') → DoneSpec P retn fn ro todo t dfs A v A'

variable {m : Map} {A : AH} {w : World} {t : AT} {a : Act} {rec : Rec}

theorem callV_sim (hr : RecOk P rec) (hA : Agree P m A w) {f : AV} {args : List AV} {v : AV} {A' : AH} (h : callV rec f args A = some (v, A')) {f' : Value} {args' : Array Value} (hf : VR m f f') (hl : LR m args args'.toList) :
    ∃ d, (∀ w, (Deferred.ofValue f' args').run P w = .ok d w) ∧ ∃ u w' m', Does P (invoke d.target d.args) w u w' ∧ VR m' v u ∧ Sim P m A w m' A' w' := by
  unfold callV at h
  split at h
  · rename_i f first cap
    simp only [VR] at hf
    obtain ⟨g, fi, ca, rfl, hg, hfi, hca⟩ := hf
    simp only [FR] at hg; subst hg
    split at h
    · rename_i v' A'' hc
      simp only [Option.some.injEq, Prod.mk.injEq] at h
      obtain ⟨rfl, rfl⟩ := h
      refine ⟨{ target := .fn (.func f) ca, args := fi ++ args' }, fun w => rfl, ?_⟩
      obtain ⟨u, w', m', h1, h2, h3⟩ := hr.call _ _ _ _ _ hc m w (fi ++ args' ++ ca) hA (by simpa using (hfi.append hl).append hca)
      exact ⟨u, w', m', h1.does, h2, h3⟩
    · simp at h
  · rename_i l first cap
    simp only [VR] at hf
    obtain ⟨g, fi, ca, rfl, hg, hfi, hca⟩ := hf
    simp only [FR] at hg
    obtain ⟨x, hx, rfl⟩ := hg
    split at h
    · rename_i v' A'' hc
      simp only [Option.some.injEq, Prod.mk.injEq] at h
      obtain ⟨rfl, rfl⟩ := h
      refine ⟨{ target := .fn (.yield x.blk) ca, args := fi ++ args' }, fun w => rfl, ?_⟩
      obtain ⟨u, w', m', h1, h2, h3⟩ := hr.round _ _ _ _ _ hc m w (fi ++ args') x hA (by simpa using hfi.append hl) hx
      exact ⟨u, w', m', h1, h2, h3⟩
    · simp at h
  · simp at h

theorem turnA_sim (hr : RecOk P rec) (hA : Agree P m A w) (ht : TR m t a.tmps) {o : Oper} {v : AV} {A' : AH} (h : turnA P rec o.op t A = some (v, A')) :
    (∀ c, o.op ≠ .defer c) ∧ ∃ u w' m', Does P (execOp a.eval o) w u w' ∧ VR m' v u ∧ Sim P m A w m' A' w' := by
  unfold turnA at h
  split at h
  · refine ⟨?_, (effA_sim hA ht h).does⟩
    intro c hc; rw [hc] at h; simp [effA] at h
  · unfold callOpA at h
    split at h
    · rename_i f args tys hop
      split at h
      · rename_i fv vs hf hvs
        refine ⟨(fun c hc => by rw [hop] at hc; cases hc), ?_⟩
        obtain ⟨d, hd1, u, w', m', h1, h2, h3⟩ := callV_sim (args' := args.map a.eval) hr hA h (evalO_rel hA.glob ht hf) (by simpa using evalOs_rel hA.glob ht hvs)
        refine ⟨u, w', m', ?_, h2, h3⟩
        refine Does.of_run ?_ h1
        simp only [execOp, hop, Sem.run_bind, resolve, hd1, Result.andThen_ok]
      · simp at h
    · simp at h
  · simp at h

theorem put_defers (a : Act) (dst : Option Tmp) (u : Value) : (a.put dst u).defers = a.defers := by cases dst <;> rfl

theorem operA_sim (hr : RecOk P rec) (hA : Agree P m A w) (ht : TR m t a.tmps) {dfs : List ADef} (hd : DR m dfs a.defers) {o : Oper} {ro ro' : Option Nat} (hro : ROR m ro ro') {t' : AT} {dfs' : List ADef} {A' : AH}
    (h : operA P rec o ro t dfs A = some (t', dfs', A')) :
    ∃ a' w' m', OpSteps P ro' o a w a' w' ∧ Sim P m A w m' A' w' ∧ TR m' t' a'.tmps ∧ DR m' dfs' a'.defers := by
  have fin : ∀ {v : AV} {A'' : AH}, (∀ c, o.op ≠ .defer c) → (∃ u w' m', Does P (execOp a.eval o) w u w' ∧ VR m' v u ∧ Sim P m A w m' A'' w') → t' = putA t o.dst v → dfs' = dfs → A' = A'' →
      ∃ a' w' m', OpSteps P ro' o a w a' w' ∧ Sim P m A w m' A' w' ∧ TR m' t' a'.tmps ∧ DR m' dfs' a'.defers := by
    rintro v A'' hnd ⟨u, w', m', h1, h2, h3⟩ rfl rfl rfl
    refine ⟨a.put o.dst u, w', m', .of_does hnd h1, h3, (ht.mono h3.le).putA o.dst h2, ?_⟩
    rw [put_defers]; exact hd.mono h3.le
  unfold operA at h
  split at h
  · -- still
    split at h
    · rename_i v hv
      simp only [Option.some.injEq, Prod.mk.injEq] at h
      obtain ⟨rfl, rfl, rfl⟩ := h
      obtain ⟨u, h1, h2⟩ := readA_sim hA.toLook ht hv
      refine fin ?_ ⟨u, w, m, .value h1, h2, .refl hA⟩ rfl rfl rfl
      intro c hc; rw [hc] at hv; simp [readA] at hv
    · simp at h
  · split at h
    · rename_i v A'' hv
      simp only [Option.some.injEq, Prod.mk.injEq] at h
      obtain ⟨rfl, rfl, rfl⟩ := h
      refine fin ?_ ((makeA_sim hA.glob ht hv).goes hA).does rfl rfl rfl
      intro c hc; rw [hc] at hv; simp [makeA] at hv
    · simp at h
  · -- a deferred call
    split at h
    · rename_i f args tys hop
      split at h
      · rename_i g first cap vs hf hvs
        simp only [Option.some.injEq, Prod.mk.injEq] at h
        obtain ⟨rfl, rfl, rfl⟩ := h
        simp only [ROR] at hro; subst hro
        have hfr := evalO_rel hA.glob ht hf
        simp only [VR] at hfr
        obtain ⟨g', fi, ca, he, hg, hfi, hca⟩ := hfr
        have hres : (resolve a.eval { callee := .value f, args := args, argTypes := tys } o.type).run P w = .ok { target := .fn g' ca, args := fi ++ args.map a.eval } w := by
          simp [resolve, he, Deferred.ofValue]
        refine ⟨_, w, m, OpSteps.defer hop hres, .refl hA, ?_, ?_⟩
        · have := TR.putA (a := { a with defers := ({ target := .fn g' ca, args := fi ++ args.map a.eval } : Deferred) :: a.defers }) ht o.dst VR.undef
          exact this
        · rw [put_defers]
          refine .cons ⟨g', ca, rfl, hg, hca, ?_⟩ hd
          have := evalOs_rel hA.glob ht hvs
          simpa using hfi.append this
      · simp at h
    · simp at h
  · simp at h
  · split at h
    · rename_i v A'' hv
      simp only [Option.some.injEq, Prod.mk.injEq] at h
      obtain ⟨rfl, rfl, rfl⟩ := h
      obtain ⟨h1, h2⟩ := turnA_sim hr hA ht hv
      exact fin h1 h2 rfl rfl rfl
    · simp at h

/-- a region in the order of its text -/
theorem inOrder_sim (hr : RecOk P rec) {ro ro' : Option Nat} (ops : Array Oper) : ∀ (rest : List Oper) (j : Nat) {m : Map} {A : AH} {w : World} {t : AT} {a : Act} {dfs : List ADef} {t' : AT} {dfs' : List ADef} {A' : AH},
    ops.toList.drop j = rest → ROR m ro ro' → Agree P m A w → TR m t a.tmps → DR m dfs a.defers → inOrder P rec ops.toList ro rest t dfs A = some (t', dfs', A') →
    ∃ a' w' m', Sim P m A w m' A' w' ∧ TR m' t' a'.tmps ∧ DR m' dfs' a'.defers ∧
      ∀ (b : Frame) (k : List Item) (cs : List Frame), b.roundOf = ro' → Steps P (lone (b.atR a (.inRegion ops (List.range' j rest.length) :: k)) cs w) (lone (b.atR a' (.inRegion ops [] :: k)) cs w')
  | [], j, m, A, w, t, a, dfs, t', dfs', A', _, _, hA, ht, hd, h => by
    simp only [inOrder, Option.some.injEq, Prod.mk.injEq] at h
    obtain ⟨rfl, rfl, rfl⟩ := h
    exact ⟨a, w, m, .refl hA, ht, hd, fun b k cs _ => .refl _ _⟩
  | o :: rest, j, m, A, w, t, a, dfs, t', dfs', A', hdrop, hro, hA, ht, hd, h => by
    have ho : ops[j]? = some o := by
      have : (ops.toList.drop j)[0]? = some o := by rw [hdrop]; rfl
      simpa [List.getElem?_drop] using this
    have hdrop' : ops.toList.drop (j + 1) = rest := by
      have : (ops.toList.drop j).drop 1 = rest := by rw [hdrop]; rfl
      rwa [List.drop_drop] at this
    have hwa := wantedA_eq ht ops o
    simp only [inOrder] at h
    cases hw : wantedA ops.toList o t with
    | true =>
      simp only [hw, cond_true] at h
      split at h
      · rename_i t1 dfs1 A1 hop
        obtain ⟨a1, w1, m1, h1, h2, h3, h4⟩ := operA_sim hr hA ht hd hro hop
        obtain ⟨a2, w2, m2, g1, g2, g3, g4⟩ := inOrder_sim hr ops rest (j + 1) hdrop' (hro.mono h2.le) h2.agree h3 h4 h
        refine ⟨a2, w2, m2, h2.trans hA g1, g2, g3, fun b k cs hb => ?_⟩
        rw [List.length_cons, List.range'_succ]
        exact (h1 b ops j _ k cs hb ho (by rw [← hwa]; exact hw)).trans (g4 b k cs hb)
      · simp at h
    | false =>
      simp only [hw, cond_false] at h
      have e : (a.put o.dst Go.undef).defers = a.defers := by cases o.dst <;> rfl
      obtain ⟨a2, w2, m2, g1, g2, g3, g4⟩ := inOrder_sim hr ops rest (j + 1) hdrop' hro hA (ht.putA o.dst VR.undef) (by rw [e]; exact hd) h
      refine ⟨a2, w2, m2, g1, g2, g3, fun b k cs hb => ?_⟩
      rw [List.length_cons, List.range'_succ]
      exact (opSkips b ops j _ k cs ho (by rw [← hwa]; exact hw)).trans (g4 b k cs hb)

end Go.Fold

/-
  A part of the road: an evaluator over abstract memory with a proved simulation, and what is reckoned by it. Written by an AI agent; no person has read it.
-/
import Derived.Test.YtebjajchdidnfaaGreatDoorFoldCtl
set_option linter.all false
namespace Go.Fold
variable {P : Program} {rec : Rec}

/-- what is asked of a region whose order is drawn (FoldDrawn) -/
def DrawnOk (P : Program) (rec : Rec) : Prop :=
  ∀ (ops : Array Oper) (m : Map) (A : AH) (w : World) (t : AT) (a : Act) (t' : AT) (A' : AH) (τ : Nat),
    regionOk P ops.toList = true → Agree P m A w → TR m t a.tmps →
    drawn P rec ops.toList ((ops.toList.zip (aheads [] ops.toList)).zipIdx) [] [] t A = some (t', A') →
    ∃ a' w' m', Sim P m A w m' A' w' ∧ TR m' t' a'.tmps ∧ a'.defers = a.defers ∧
      ∀ (b : Frame) (k : List Item) (cs : List Frame), Steps P (lone (b.atR a (.inRegion ops (Region.linearise .any ops τ) :: k)) cs w) (lone (b.atR a' (.inRegion ops [] :: k)) cs w')

theorem regionA_sim (hmix : P.follows .mixedOrders = true) (hdr : DrawnOk P rec) (hr : RecOk P rec) {ro ro' : Option Nat} {m : Map} {A : AH} {w : World} {t : AT} {a : Act} {dfs : List ADef} {t' : AT} {dfs' : List ADef} {A' : AH}
    {id : Nat} {ops : Array Oper} {draw : Bool} (fn : FuncId) (hro : ROR m ro ro') (hA : Agree P m A w) (ht : TR m t a.tmps) (hd : DR m dfs a.defers) (h : regionA P rec ops draw ro t dfs A = some (t', dfs', A')) :
    ∃ a' w' m', Sim P m A w m' A' w' ∧ TR m' t' a'.tmps ∧ DR m' dfs' a'.defers ∧
      ∀ (b : Frame) (k : List Item) (cs : List Frame), b.fn = fn → b.roundOf = ro' → Steps P (lone (b.atR a (.code (.region id ops draw) :: k)) cs w) (lone (b.atR a' k) cs w') := by
  unfold regionA at h
  cases draw with
  | false =>
    simp only [cond_false] at h
    obtain ⟨a', w', m', h1, h2, h3, h4⟩ := inOrder_sim hr ops ops.toList 0 (by simp) hro hA ht hd h
    refine ⟨a', w', m', h1, h2, h3, fun b k cs _ hb => ?_⟩
    have e : List.range ops.size = List.range' 0 ops.toList.length := by simp [List.range_eq_range']
    refine (Steps.one stepR_region).trans ?_
    rw [e]
    exact (h4 b k cs hb).trans (.one stepR_region_end)
  | true =>
    simp only [cond_true] at h
    cases hok : regionOk P ops.toList with
    | false => simp [hok] at h
    | true =>
      simp only [hok, cond_true] at h
      split at h
      case h_2 => simp at h
      rename_i t1 A1 hdrawn
      simp only [Option.some.injEq, Prod.mk.injEq] at h
      obtain ⟨rfl, rfl, rfl⟩ := h
      have h0 := Sim.drew hA (w.drawn + 1)
      obtain ⟨a', w', m', h1, h2, h3, h4⟩ := hdr ops m A { w with drawn := w.drawn + 1 } t a t1 A1 (w.tape w.drawn (.order fn id)) hok h0.agree ht hdrawn
      refine ⟨a', w', m', h0.trans hA h1, h2, by rw [h3]; exact hd.mono h1.le, fun b k cs hf _ => ?_⟩
      refine (Steps.one stepR_region_draw).trans ?_
      have e : Region.schedule (P.follows .mixedOrders) ops (w.tape w.drawn (.order b.fn id)) = Region.linearise .any ops (w.tape w.drawn (.order fn id)) := by
        simp [Region.schedule, hmix, hf]
      rw [e]
      exact (h4 b k cs).trans (.one stepR_region_end)

/-! ### The end of a frame -/

theorem resultsA_rel {m : Map} {A : AH} {w : World} {t : AT} {a : Act} (hA : Agree P m A w) (ht : TR m t a.tmps) : ∀ {rs : List ResultVar} {vs : List AV}, resultsA P t A rs = some vs →
    ∃ us : List Value, (rs.mapM (fun | .tmp t => pure (a.tmps.getD t Go.undef) | .cell c ty => do loadVar ty (← asAddr (a.tmps.getD c Go.undef)) : ResultVar → Sem Value)).run P w = .ok us w ∧ LR m vs us
  | [], vs, h => by simp only [resultsA, Option.some.injEq] at h; subst h; exact ⟨[], by simp, .nil⟩
  | .tmp i :: rs, vs, h => by
    simp only [resultsA] at h
    split at h
    · rename_i vs' hv
      simp only [Option.some.injEq] at h; subst h
      obtain ⟨us, h1, h2⟩ := resultsA_rel hA ht hv
      exact ⟨_, by simp only [List.mapM_cons, Sem.run_bind, Sem.run_pure, Result.andThen_ok, h1], .cons (ht.at_ i) h2⟩
    · simp at h
  | .cell c ty :: rs, vs, h => by
    simp only [resultsA] at h
    split at h
    · rename_i b o hc
      split at h
      · rename_i v vs' hv hvs
        simp only [Option.some.injEq] at h; subst h
        obtain ⟨us, h1, h2⟩ := resultsA_rel hA ht hvs
        have hr := ht.at_ c
        rw [hc] at hr
        simp only [VR] at hr
        obtain ⟨p, hp, he⟩ := hr
        obtain ⟨u, h3, h4⟩ := loadA_rel hA.toLook hv hp
        refine ⟨u :: us, ?_, .cons h4 h2⟩
        have has : (asAddr (a.tmps.getD c Go.undef)).run P w = .ok p w := by rw [he]; rfl
        simp only [List.mapM_cons, Sem.run_bind, has, Sem.run_pure, Result.andThen_ok, h3, h1]
      · simp at h
    · simp at h

theorem results_rel {m : Map} {A : AH} {w : World} {t : AT} {a : Act} (hA : Agree P m A w) (ht : TR m t a.tmps) {fd : Func} {vs : List AV} (h : resultsA P t A fd.results.toList = some vs) :
    ∃ u, (results fd a.tmps).run P w = .ok u w ∧ VR m (packA vs) u := by
  obtain ⟨us, h1, h2⟩ := resultsA_rel hA ht h
  have hm : (fd.results.mapM fun
    | .tmp t => pure (a.tmps.getD t Go.undef)
    | .cell c ty => do loadVar ty (← asAddr (a.tmps.getD c Go.undef)) : Sem (Array Value)).run P w = .ok us.toArray w := by
    rw [Array.mapM_eq_mapM_toList]
    simp only [Sem.run_map, h1, Result.andThen_ok]
  have hrun : (results fd a.tmps).run P w = (.ok us.toArray w : Result (Array Value)).andThen fun vs w => (pure (if h : vs.size = 1 then vs[0] else .tuple vs) : Sem Value).run P w := by
    rw [← hm, ← Sem.run_bind]; rfl
  rw [hrun]
  have hlen := h2.length
  rcases vs with _ | ⟨v1, _ | ⟨v2, vs⟩⟩
  · simp only [LR] at h2; subst h2
    exact ⟨.tuple #[], by simp, by simp only [packA, VR]; exact ⟨_, rfl, .nil⟩⟩
  · rcases us with _ | ⟨u, _ | ⟨u2, us⟩⟩
    · simp at hlen
    · exact ⟨u, by simp, h2.cons_inv.1⟩
    · simp at hlen
  · refine ⟨.tuple us.toArray, ?_, by simp only [packA, VR]; exact ⟨_, rfl, by simpa using h2⟩⟩
    have : ¬ us.toArray.size = 1 := by simp; simp at hlen; omega
    simp only [Result.andThen_ok, dif_neg this, Sem.run_pure]

/-! ### Deferred calls -/

theorem step_collected {fr : Frame} {cs : List Frame} {w w' : World} {b : Nat} {args : Array Value} {ds calls : List Deferred} (hm : fr.mode = .returning) (hd : fr.defers = { target := .collected b, args } :: ds)
    (hr : (Instr.takeDeferred b).run P w = .ok calls w') : step P (lone fr cs w) = .next (lone { fr with defers := calls ++ ds } cs w') := by
  refine step_lone_go ?_
  obtain ⟨fn, tmps, todo, defers, mode, kind, ro⟩ := fr
  simp only at hm hd; subst hm; subst hd
  simp [stepG, unwind, Sem.runT_eq, hr, GStep.bare_after]

theorem deferred_steps {fr : Frame} {cs : List Frame} {w w' : World} {u : Value} {f : FuncId} {cap args : Array Value} {ds : List Deferred} (hm : fr.mode = .returning) (hd : fr.defers = { target := .fn (.func f) cap, args } :: ds)
    (hc : CallOkD P f (args ++ cap) w u w') : Steps P (lone fr cs w) (lone { fr with defers := ds } cs w') := by
  obtain ⟨fn, tmps, todo, defers, mode, kind, ro⟩ := fr
  simp only at hm hd; subst hm; subst hd
  obtain ⟨h1, h2⟩ := hc
  · obtain ⟨fr2, h3, h4⟩ := h2 .deferred ({ fn, tmps, todo, defers := ds, mode := .returning, kind, roundOf := ro } :: cs)
    refine Steps.head (m₁ := lone (Frame.enter P f (args ++ cap) .deferred) ({ fn, tmps, todo, defers := ds, mode := .returning, kind, roundOf := ro } :: cs) w) (step_lone_go ?_) (h3.trans (.one (step_lone_go ?_)))
    · simp [stepG, unwind, callDeferred, invoke, Sem.runT_eq, h1, GStep.bare_after]
    · obtain ⟨fd, h5, h6⟩ := h4.res
      simp [stepG, unwind, doReturn, h4.mode, h4.defers, h4.kind, h4.fn, h5, Sem.runT_eq, h6, GStep.bare_after]

end Go.Fold

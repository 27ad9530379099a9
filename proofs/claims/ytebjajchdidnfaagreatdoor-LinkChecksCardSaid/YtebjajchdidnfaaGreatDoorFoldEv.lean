/-
  A part of the road: an evaluator over abstract memory with a proved simulation, and what is reckoned by it. Written by an AI agent; no person has read it.
-/
import Derived.Test.YtebjajchdidnfaaGreatDoorFoldMain
set_option linter.all false
namespace Go.Fold
variable {P : Program} {rec : Rec} {fn : FuncId} {ro : Option Nat} {todo : List Item} {t : AT} {dfs : List ADef} {A : AH} {r : Res}

theorem leaveA_ret (k : List Item) : (∀ (b : Frame) (a : Act) (cs : List Frame) (w : World), b.roundOf = none → ∃ todo2, step P (lone (b.atR a (.code .ret :: k)) cs w) = .next (lone { b.atR a todo2 with mode := .returning } cs w)) ∧
    (∀ (b : Frame) (a : Act) (c : Frame) (cs : List Frame) (w w' : World) (l : Nat) (v : Value), b.roundOf = some l → b.kind = .normal → (Instr.endRound l (some .ret)).run P w = .ok v w' → step P (lone (b.atR a (.code .ret :: k)) (c :: cs) w) = .next (lone (c.finish v) cs w')) :=
  ⟨fun _ _ _ _ hb => ⟨_, stepR_ret hb⟩, fun _ _ _ _ _ _ _ _ hb hk hr => stepR_round_ret hb hk hr⟩

theorem runA_sim (hmix : P.follows .mixedOrders = true) (hdr : DrawnOk P rec) (hr : RecOk P rec) (h : runA P rec fn ro todo t dfs A = some r) : ResSpec P false fn ro todo t dfs A r := by
  unfold runA at h
  split at h
  · exact leaveA_sim h (fun _ b a cs w hb => ⟨_, stepR_end hb⟩) (fun b a c cs w w' l v hb hk hrr => stepR_round_end hb hk hrr)
  · rename_i k
    exact leaveA_sim h (fun _ => (leaveA_ret k).1) (leaveA_ret k).2
  · simp only [Option.some.injEq] at h; subst h; exact plain_sim fun _ _ _ _ => stepR_skip
  · simp only [Option.some.injEq] at h; subst h; exact plain_sim fun _ _ _ _ => stepR_label
  · simp only [Option.some.injEq] at h; subst h; exact plain_sim fun _ _ _ _ => stepR_inBlock
  · simp only [Option.some.injEq] at h; subst h
    exact plain_sim fun b a cs w => step_lone_go (by simp [stepG, stepG.exec, Frame.atR])
  · simp only [Option.some.injEq] at h; subst h; exact plain_sim fun _ _ _ _ => stepR_seq
  · rename_i c x y k
    split at h
    · rename_i b hb
      simp only [Option.some.injEq] at h; subst h
      refine ⟨rfl, rfl, ?_⟩
      intro m w a ro' _ hA ht hd
      have hv := (evalO_rel hA.glob ht hb).bool_inv
      refine ⟨w, m, a, .refl hA, ht, hd, fun f cs todo1 _ _ h1 => ⟨_, fun _ => rfl, ?_⟩⟩
      rw [h1 rfl]
      have := stepR_cond (P := P) (b := f) (a := a) (k := k) (cs := cs) (w := w) (x := x) (y := y) hv
      have e : (if b then x else y) = (bif b then x else y) := by cases b <;> rfl
      rw [e] at this
      exact .one this
    · simp at h
  · simp only [Option.some.injEq] at h; subst h; exact plain_sim fun _ _ _ _ => stepR_block
  · simp only [Option.some.injEq] at h; subst h; exact plain_sim fun _ _ _ _ => stepR_loop
  · simp only [Option.some.injEq] at h; subst h; exact plain_sim fun _ _ _ _ => stepR_inLoop
  · simp only [Option.some.injEq] at h; subst h
    exact plain_sim fun b a cs w => step_lone_go (by simp [stepG, stepG.exec, Frame.atR])
  · split at h
    · rename_i k' hk
      simp only [Option.some.injEq] at h; subst h; exact plain_sim fun _ _ _ _ => stepR_exit hk
    · rename_i id k hk
      exact leaveA_sim h (fun hj => by rcases hj with hj | hj <;> cases hj) (fun b a c cs w w' l v hb hkd hrr => stepR_round_exit hb hkd hk hrr)
  · split at h
    · rename_i k' hk
      simp only [Option.some.injEq] at h; subst h; exact plain_sim fun _ _ _ _ => stepR_goto hk
    · rename_i id k hk
      exact leaveA_sim h (fun hj => by rcases hj with hj | hj <;> cases hj) (fun b a c cs w w' l v hb hkd hrr => stepR_round_goto hb hkd hk hrr)
  · split at h
    · rename_i A' hb
      simp only [Option.some.injEq] at h; subst h; exact beginRoundA_sim hb
    · simp at h
  · split at h
    · rename_i t' dfs' A' hb
      simp only [Option.some.injEq] at h; subst h; exact regionRun_sim hmix hdr hr hb
    · simp at h
  · split at h
    · rename_i mark jump A' hb
      simp only [Option.some.injEq] at h; subst h; exact rangeFuncA_sim hr hb
    · simp at h
  · simp at h

theorem stepA_sim (hmix : P.follows .mixedOrders = true) (hdr : DrawnOk P rec) (hr : RecOk P rec) {retn : Bool} (h : stepA P rec retn fn ro todo t dfs A = some r) : ResSpec P retn fn ro todo t dfs A r := by
  cases retn with
  | true => exact retA_sim hr h
  | false => exact runA_sim hmix hdr hr h

/-! ### Two halves -/

theorem MoreSpec.trans {retn retn1 retn2 : Bool} {todo1 todo2 : List Item} {t1 t2 : AT} {dfs1 dfs2 : List ADef} {A1 A2 : AH} (h : MoreSpec P retn fn ro todo t dfs A retn1 todo1 t1 dfs1 A1)
    (k : MoreSpec P retn1 fn ro todo1 t1 dfs1 A1 retn2 todo2 t2 dfs2 A2) : MoreSpec P retn fn ro todo t dfs A retn2 todo2 t2 dfs2 A2 := by
  intro m w a ro' hror hA ht hd
  obtain ⟨w1, m1, a1, h1, h2, h3, h4⟩ := h m w a ro' hror hA ht hd
  obtain ⟨w2, m2, a2, k1, k2, k3, k4⟩ := k m1 w1 a1 ro' (hror.mono h1.le) h1.agree h2 h3
  refine ⟨w2, m2, a2, h1.trans hA k1, k2, k3, fun b cs td hf hb htd => ?_⟩
  obtain ⟨td1, e1, s1⟩ := h4 b cs td hf hb htd
  obtain ⟨td2, e2, s2⟩ := k4 b cs td1 hf hb e1
  exact ⟨td2, e2, s1.trans s2⟩

theorem MoreSpec.done {retn retn1 : Bool} {todo1 : List Item} {t1 : AT} {dfs1 : List ADef} {A1 A2 : AH} {v : AV} (h : MoreSpec P retn fn ro todo t dfs A retn1 todo1 t1 dfs1 A1)
    (k : DoneSpec P retn1 fn ro todo1 t1 dfs1 A1 v A2) : DoneSpec P retn fn ro todo t dfs A v A2 := by
  intro m w a ro' hror hA ht hd
  obtain ⟨w1, m1, a1, h1, h2, h3, h4⟩ := h m w a ro' hror hA ht hd
  obtain ⟨u, w2, m2, k1, k2, k3⟩ := k m1 w1 a1 ro' (hror.mono h1.le) h1.agree h2 h3
  refine ⟨u, w2, m2, h1.trans hA k1, k2, ?_⟩
  cases ro' with
  | none =>
    intro b cs td hf hb htd
    obtain ⟨td1, e1, s1⟩ := h4 b cs td hf hb htd
    obtain ⟨fr, s2, l⟩ := k3 b cs td1 hf hb e1
    exact ⟨fr, s1.trans s2, l⟩
  | some l =>
    intro b c cs td hf hb hk htd
    obtain ⟨td1, e1, s1⟩ := h4 b (c :: cs) td hf hb htd
    exact s1.trans (k3 b c cs td1 hf hb hk e1)

/-! ### Calls and rounds -/

theorem initTmps_get (n : Nat) : ∀ (vs : List AV) (t : AT) (i : Nat), t.n = n → i + vs.length ≤ n → (initTmps t i vs).n = n ∧ ∀ j, (initTmps t i vs).get j = if i ≤ j ∧ j < i + vs.length then vs.getD (j - i) .undef else t.get j
  | [], t, i, hn, _ => ⟨hn, fun j => by rw [if_neg (by simp)]; rfl⟩
  | v :: vs, t, i, hn, hle => by
    simp only [List.length_cons] at hle
    obtain ⟨h1, h2⟩ := initTmps_get n vs (t.put i v) (i + 1) (by rw [AT.n_put]; exact hn) (by omega)
    refine ⟨h1, fun j => ?_⟩
    simp only [initTmps]
    rw [h2 j, AT.get_put]
    by_cases hj : i + 1 ≤ j ∧ j < i + 1 + vs.length
    · rw [if_pos hj, if_pos (by simp only [List.length_cons]; omega)]
      have : j - i = (j - (i + 1)) + 1 := by omega
      rw [this]; rfl
    · rw [if_neg hj]
      by_cases hji : j = i
      · subst hji
        rw [if_pos ⟨rfl, by omega⟩, if_pos (by simp only [List.length_cons]; omega)]
        simp
      · rw [if_neg (fun e => hji e.1), if_neg (by simp only [List.length_cons]; omega)]

theorem enter_tmps {m : Map} {args : List AV} {args' : Array Value} (hl : LR m args args'.toList) (n : Nat) : TR m (initTmps ⟨max args.length n, .nil⟩ 0 args) (args' ++ Array.replicate (n - args'.size) Go.undef) := by
  have hlen := hl.length
  simp only [Array.length_toList] at hlen
  obtain ⟨h1, h2⟩ := initTmps_get (max args.length n) args ⟨max args.length n, .nil⟩ 0 rfl (by omega)
  refine ⟨by rw [h1]; simp; omega, fun j => ?_⟩
  rw [h2 j]
  by_cases hj : j < args.length
  · rw [if_pos ⟨Nat.zero_le _, by omega⟩]
    have e1 : args[j]? = some (args.getD (j - 0) .undef) := by simp [List.getD, List.getElem?_eq_getElem hj]
    obtain ⟨u, hu, hv⟩ := hl.get? j _ e1
    have : (args' ++ Array.replicate (n - args'.size) Go.undef).getD j Go.undef = u := by
      rw [Array.getD_eq_getD_getElem?, Array.getElem?_append_left (by omega)]
      have : args'[j]? = some u := by simpa using hu
      rw [this]; rfl
    rw [this]; exact hv
  · rw [if_neg (by omega)]
    have e1 : (⟨max args.length n, .nil⟩ : AT).get j = .undef := rfl
    rw [e1]
    have : (args' ++ Array.replicate (n - args'.size) Go.undef).getD j Go.undef = Go.undef := by
      rw [Array.getD_eq_getD_getElem?, Array.getElem?_append_right (by omega), Array.getElem?_replicate]
      split <;> rfl
    rw [this]; exact VR.undef

theorem setParams_rel {m : Map} : ∀ {ps : List Tmp} {vs : List AV} {t t' : AT} {us : List Value} {a : Array Value}, setParams t ps vs = some t' → LR m vs us → TR m t a →
    us.length = ps.length ∧ TR m t' ((ps.zip us).foldl (fun tmps (x : Tmp × Value) => tmps.setIfInBounds x.1 x.2) a)
  | [], [], t, t', us, a, h, hl, ht => by
    simp only [setParams, Option.some.injEq] at h; subst h
    simp only [LR] at hl; subst hl
    exact ⟨rfl, ht⟩
  | p :: ps, v :: vs, t, t', us, a, h, hl, ht => by
    simp only [setParams] at h
    simp only [LR] at hl
    obtain ⟨u, us', rfl, h1, h2⟩ := hl
    obtain ⟨h3, h4⟩ := setParams_rel h h2 (ht.put p h1)
    exact ⟨by simp [h3], h4⟩
  | [], _ :: _, _, _, _, _, h, _, _ => by simp [setParams] at h
  | _ :: _, [], _, _, _, _, h, _, _ => by simp [setParams] at h

/-- no function of the program is one that the machine answers by itself -/
def Plain (P : Program) : Prop := ∀ (f : Nat) (fd : Func), P.funcs[f]? = some fd → fd.name ≠ "runtime.NumGoroutine"

theorem evF_ok (hmix : P.follows .mixedOrders = true) (hpl : Plain P) {hk : Hook} (hhk : HookOk P hk) (hdr : DrawnOk P rec) (hr : RecOk P rec) : RecOk P (evF P hk rec) where
  call := by
    intro f args A v A' h
    simp only [evF] at h
    split at h
    · rename_i hf hhf
      split at h
      · rename_i v' A'' hv
        simp only [Option.some.injEq, Res.done.injEq] at h
        obtain ⟨rfl, rfl⟩ := h
        exact hhk f hf hhf args A _ _ hv
      · simp at h
    · split at h
      · rename_i fd hfd
        split at h
        · rename_i body hbody
          refine CallSpecD.call ?_
          have hd := hr.done _ _ _ _ _ _ _ _ _ _ h
          intro m w args' hA hl
          obtain ⟨u, w', m', h1, h2, h3⟩ := hd m w ⟨args' ++ Array.replicate (fd.ntmps - args'.size) Go.undef, []⟩ none rfl hA (enter_tmps hl fd.ntmps) .nil
          refine ⟨u, w', m', ⟨?_, ?_⟩, h2, h1⟩
          · have hn := hpl f fd hfd
            simp [callFunc, hfd, hn, hbody, Result.andThen]
          · intro kind cs
            let b : Frame := { (default : Frame) with fn := f, kind := kind, roundOf := none }
            obtain ⟨fr, s, l⟩ := h3 b cs [.code body] rfl rfl (fun _ => rfl)
            refine ⟨fr, ?_, l⟩
            have e : Frame.enter P f args' kind = frS false b ⟨args' ++ Array.replicate (fd.ntmps - args'.size) Go.undef, []⟩ [.code body] := by
              simp [Frame.enter, frS, Frame.atR, b, hfd, hbody]
            rw [e]; exact s
        · simp at h
      · simp at h
  dcall := by
    intro f args A v A' h
    simp only [evF] at h
    split at h
    · rename_i fd hfd
      split at h
      · rename_i body hbody
        have hd := hr.done _ _ _ _ _ _ _ _ _ _ h
        intro m w args' hA hl
        obtain ⟨u, w', m', h1, h2, h3⟩ := hd m w ⟨args' ++ Array.replicate (fd.ntmps - args'.size) Go.undef, []⟩ none rfl hA (enter_tmps hl fd.ntmps) .nil
        refine ⟨u, w', m', ⟨?_, ?_⟩, h2, h1⟩
        · have hn := hpl f fd hfd
          simp [callFunc, hfd, hn, hbody, Result.andThen]
        · intro kind cs
          let b : Frame := { (default : Frame) with fn := f, kind := kind, roundOf := none }
          obtain ⟨fr, s, l⟩ := h3 b cs [.code body] rfl rfl (fun _ => rfl)
          refine ⟨fr, ?_, l⟩
          have e : Frame.enter P f args' kind = frS false b ⟨args' ++ Array.replicate (fd.ntmps - args'.size) Go.undef, []⟩ [.code body] := by
            simp [Frame.enter, frS, Frame.atR, b, hfd, hbody]
          rw [e]; exact s
      · simp at h
    · simp at h
  round := by
    intro l args A v A' h
    simp only [evF] at h
    split at h
    · rename_i r hg
      split at h
      · rename_i t' hst hsp
        have hd := hr.done _ _ _ _ _ _ _ _ _ _ h
        intro m w args' x hA hl hx
        obtain ⟨o, ho, l', rfl, h1, h2, h3, h4, h5, h6, h7, y, hy, h8⟩ := hA.blk _ _ _ hx hg
        obtain ⟨h9, h10⟩ := setParams_rel hsp hl h4
        obtain ⟨u, w', m', k1, k2, k3⟩ := hd m w ⟨(r.params.zip args'.toList).foldl (fun tmps (x : Tmp × Value) => tmps.setIfInBounds x.1 x.2) l'.tmps, []⟩ (some x.blk) ⟨x, hx, rfl⟩ hA h10 .nil
        refine ⟨u, w', m', ?_, k2, k1⟩
        have hrun : (Instr.yield x.blk args').run P w = .ok (.round x.blk l'.fn ((r.params.zip args'.toList).foldl (fun tmps (x : Tmp × Value) => tmps.setIfInBounds x.1 x.2) l'.tmps) l'.assign l'.body) w := by
          have hsz : args'.size = l'.params.size := by
            have : l'.params.toList.length = r.params.length := by rw [h5]
            simp only [Array.length_toList] at this h9
            omega
          have hfold : (l'.params.zip args').foldl (fun tmps (x : Tmp × Value) => tmps.setIfInBounds x.1 x.2) l'.tmps = (r.params.zip args'.toList).foldl (fun tmps (x : Tmp × Value) => tmps.setIfInBounds x.1 x.2) l'.tmps := by
            rw [← Array.foldl_toList, Array.toList_zip, h5]
          simp only [Instr.yield, Instr.getLoop, Sem.run_bind]
          simp only [getObj, Sem.run, ho, Result.andThen_ok, Sem.run_pure]
          rw [if_neg (by simp [hsz])]
          simp only [Sem.run_pure]
          rw [← hfold]
        refine Does.round hrun fun c cs => ?_
        let b : Frame := { (default : Frame) with fn := r.fn, kind := .normal, roundOf := some x.blk }
        have s := k3 b c cs [.code r.assign, .beginRound, .code r.body] rfl rfl rfl (fun _ => rfl)
        have e : Frame.round x.blk l'.fn ((r.params.zip args'.toList).foldl (fun tmps (x : Tmp × Value) => tmps.setIfInBounds x.1 x.2) l'.tmps) l'.assign l'.body .normal = frS false b ⟨(r.params.zip args'.toList).foldl (fun tmps (x : Tmp × Value) => tmps.setIfInBounds x.1 x.2) l'.tmps, []⟩ [.code r.assign, .beginRound, .code r.body] := by
          simp [Frame.round, frS, Frame.atR, b, h3, h6, h7]
        rw [e]; exact s
      · simp at h
    · simp at h
  more := by
    intro k retn fn ro todo t dfs A retn' fn' ro' todo' t' dfs' A' h
    simp only [evF] at h
    split at h
    · exact stepA_sim hmix hdr hr h
    · split at h
      · rename_i r1 f1 o1 td1 t1 d1 A1 h1
        obtain ⟨rfl, rfl, s1⟩ := hr.more _ _ _ _ _ _ _ _ _ _ _ _ _ _ _ h1
        obtain ⟨rfl, rfl, s2⟩ := hr.more _ _ _ _ _ _ _ _ _ _ _ _ _ _ _ h
        exact ⟨rfl, rfl, s1.trans s2⟩
      · rename_i hn
        exact (hn _ _ _ _ _ _ _ h).elim
  done := by
    intro k retn fn ro todo t dfs A v A' h
    simp only [evF] at h
    split at h
    · exact stepA_sim hmix hdr hr h
    · split at h
      · rename_i r1 f1 o1 td1 t1 d1 A1 h1
        obtain ⟨rfl, rfl, s1⟩ := hr.more _ _ _ _ _ _ _ _ _ _ _ _ _ _ _ h1
        exact s1.done (hr.done _ _ _ _ _ _ _ _ _ _ h)
      · exact hr.done _ _ _ _ _ _ _ _ _ _ h

theorem ev_ok (hmix : P.follows .mixedOrders = true) (hpl : Plain P) {hk : Hook} (hhk : HookOk P hk) (hdr : ∀ rec, RecOk P rec → DrawnOk P rec) : ∀ n, RecOk P (ev P hk n)
  | 0 => ⟨by intros; simp [ev] at *, by intros; simp [ev] at *, by intros; simp [ev] at *, by intros; simp [ev] at *, by intros; simp [ev] at *⟩
  | n + 1 => by
    have ih := ev_ok hmix hpl hhk hdr n
    have : ev P hk (n + 1) = evF P hk (ev P hk n) := rfl
    rw [this]
    exact evF_ok hmix hpl hhk (hdr _ ih) ih

end Go.Fold

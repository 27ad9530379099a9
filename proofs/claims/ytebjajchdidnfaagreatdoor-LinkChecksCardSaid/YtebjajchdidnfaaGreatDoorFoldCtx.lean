/-
  A part of the road: an evaluator over abstract memory with a proved simulation, and what is reckoned by it. Written by an AI agent; no person has read it.
-/
import Derived.Test.YtebjajchdidnfaaGreatDoorFoldStat
set_option linter.all false
namespace Go.Fold
variable {P : Program} {rec : Rec}

/-! ### Values whose blocks lie below a number -/

def Map.cut (m : Map) (N : Nat) : Map := fun b => if b < N then m b else none

theorem Map.cut_some {m : Map} {N b : Nat} {x : Img} (h : m.cut N b = some x) : b < N ∧ m b = some x := by
  unfold Map.cut at h
  split at h
  · rename_i hb; exact ⟨hb, h⟩
  · cases h

theorem Map.cut_of {m : Map} {N b : Nat} {x : Img} (hb : b < N) (h : m b = some x) : m.cut N b = some x := by simp [Map.cut, hb, h]
theorem Map.cut_le (m : Map) (N : Nat) : (m.cut N).le m := fun _ _ h => (Map.cut_some h).2

mutual
theorem VR.cut {m m' : Map} {N : Nat} (hN : ∀ b x, m' b = some x → b < N) : ∀ {a : AV} {v v' : Value}, VR m a v → VR m' a v' → VR (m.cut N) a v
  | .bool _, _, _, h, _ => by simpa only [VR] using h
  | .int _ _, _, _, h, _ => by simpa only [VR] using h
  | .str _, _, _, h, _ => by simpa only [VR] using h
  | .ptr none, _, _, h, _ => by simpa only [VR] using h
  | .ptr (some a), _, _, h, h' => by
    simp only [VR] at h h' ⊢
    obtain ⟨p, ⟨x, hx, hp⟩, he⟩ := h
    obtain ⟨_, ⟨x', hx', _⟩, _⟩ := h'
    exact ⟨p, ⟨x, Map.cut_of (hN _ _ hx') hx, hp⟩, he⟩
  | .slice none _ _, _, _, h, _ => by simpa only [VR] using h
  | .slice (some a) n (some c), _, _, h, h' => by
    simp only [VR] at h h' ⊢
    obtain ⟨p, he, hn, hp⟩ := h
    refine ⟨p, he, hn, ?_⟩
    rcases hp with hp | ⟨x, hx, hp⟩
    · exact .inl hp
    · obtain ⟨_, _, _, hp'⟩ := h'
      rcases hp' with hp' | ⟨x', hx', _⟩
      · exact .inl hp'
      · exact .inr ⟨x, Map.cut_of (hN _ _ hx') hx, hp⟩
  | .slice (some a) _ none, _, _, h, h' => by
    simp only [VR] at h h' ⊢
    obtain ⟨x, c, p, hx, r⟩ := h
    obtain ⟨x', _, _, hx', _⟩ := h'
    exact ⟨x, c, p, Map.cut_of (hN _ _ hx') hx, r⟩
  | .mapv none, _, _, h, _ => by simpa only [VR] using h
  | .mapv (some r), _, _, h, h' => by
    simp only [VR] at h h' ⊢
    obtain ⟨x, hx, he⟩ := h
    obtain ⟨x', hx', _⟩ := h'
    exact ⟨x, Map.cut_of (hN _ _ hx') hx, he⟩
  | .fn f a b, _, _, h, h' => by
    simp only [VR] at h h' ⊢
    obtain ⟨g, x, y, he, hf, ha, hb⟩ := h
    obtain ⟨g', x', y', he', hf', ha', hb'⟩ := h'
    refine ⟨g, x, y, he, ?_, LR.cut hN ha ha', LR.cut hN hb hb'⟩
    cases f <;> simp only [FR] at hf hf' ⊢
    · exact hf
    · obtain ⟨z, hz, e⟩ := hf
      obtain ⟨z', hz', _⟩ := hf'
      exact ⟨z, Map.cut_of (hN _ _ hz') hz, e⟩
  | .nilFn, _, _, h, _ => by simpa only [VR] using h
  | .nilIface, _, _, h, _ => by simpa only [VR] using h
  | .agg cs, _, _, h, h' => by
    simp only [VR] at h h' ⊢
    obtain ⟨a, he, ha⟩ := h
    obtain ⟨a', _, ha'⟩ := h'
    exact ⟨a, he, LR.cut hN ha ha'⟩
  | .tup cs, _, _, h, h' => by
    simp only [VR] at h h' ⊢
    obtain ⟨a, he, ha⟩ := h
    obtain ⟨a', _, ha'⟩ := h'
    exact ⟨a, he, LR.cut hN ha ha'⟩
theorem LR.cut {m m' : Map} {N : Nat} (hN : ∀ b x, m' b = some x → b < N) : ∀ {a : List AV} {v v' : List Value}, LR m a v → LR m' a v' → LR (m.cut N) a v
  | [], _, _, h, _ => by simpa only [LR] using h
  | c :: cs, _, _, h, h' => by
    simp only [LR] at h h' ⊢
    obtain ⟨u, us, he, h1, h2⟩ := h
    obtain ⟨u', us', _, h1', h2'⟩ := h'
    exact ⟨u, us, he, VR.cut hN h1 h1', LR.cut hN h2 h2'⟩
end

theorem VR.undef_inv {m : Map} {a : AV} (h : VR m a Go.undef) : a = .undef := by
  cases a <;> simp only [Go.undef] at h
  case bool => cases h.bool_inv
  case int => cases h.int_inv
  case str => obtain ⟨_, h, _⟩ := h.str_inv; cases h
  case ptr => obtain ⟨_, h, _⟩ := h.ptr_inv; cases h
  case slice => obtain ⟨_, _, h, _⟩ := h.slice_inv; cases h
  case mapv => obtain ⟨_, h, _⟩ := h.map_inv; cases h
  case fn => simp only [VR] at h; obtain ⟨_, _, _, h, _⟩ := h; cases h
  case nilFn => simp only [VR] at h; cases h
  case nilIface => simp only [VR] at h; cases h
  case agg => simp only [VR] at h; obtain ⟨_, h, _⟩ := h; cases h
  case tup cs =>
    simp only [VR] at h
    obtain ⟨a, h1, h2⟩ := h
    cases h1
    cases cs with
    | nil => rfl
    | cons c cs => simp [LR] at h2

/-! ### A frame that holds an operation's operands alone -/

def only (ds : List Nat) (t : AT) : AT := ⟨t.n, ds.foldl (fun tr d => bif Nat.blt d t.n then tr.put d (t.get d) else tr) .nil⟩

theorem only_get (ds : List Nat) (t : AT) (d : Nat) : (only ds t).get d = if d ∈ ds ∧ d < t.n then t.get d else .undef := by
  unfold only
  have gen : ∀ (ds : List Nat) (tr : T AV) (seen : List Nat), (∀ d, tr.get d = if d ∈ seen ∧ d < t.n then some (t.get d) else none) →
      ∀ d, (ds.foldl (fun tr d => bif Nat.blt d t.n then tr.put d (t.get d) else tr) tr).get d = if (d ∈ ds ∨ d ∈ seen) ∧ d < t.n then some (t.get d) else none := by
    intro ds
    induction ds with
    | nil => intro tr seen h d; simpa using h d
    | cons e ds ih =>
      intro tr seen h d
      simp only [List.foldl_cons]
      rw [ih _ (e :: seen)]
      · congr 1
        simp only [List.mem_cons, eq_iff_iff]
        constructor
        · rintro ⟨h1 | h1 | h1, h2⟩
          · exact ⟨.inl (.inr h1), h2⟩
          · exact ⟨.inl (.inl h1), h2⟩
          · exact ⟨.inr h1, h2⟩
        · rintro ⟨(h1 | h1) | h1, h2⟩
          · exact ⟨.inr (.inl h1), h2⟩
          · exact ⟨.inl h1, h2⟩
          · exact ⟨.inr (.inr h1), h2⟩
      · intro d'
        by_cases he : e < t.n
        · rw [nblt_true he, cond_true]
          by_cases hd : d' = e
          · subst hd; rw [T.get_put_same, if_pos ⟨List.mem_cons_self .., he⟩]
          · rw [T.get_put_other _ _ _ _ hd, h d']
            congr 1
            simp [hd]
        · rw [nblt_false he, cond_false, h d']
          congr 1
          simp only [List.mem_cons, eq_iff_iff]
          constructor
          · rintro ⟨h1, h2⟩; exact ⟨.inr h1, h2⟩
          · rintro ⟨h1 | h1, h2⟩
            · subst h1; exact absurd h2 he
            · exact ⟨h1, h2⟩
  have := gen ds .nil [] (fun d => by simp [T.get]) d
  have e : ∀ (n : Nat) (tr : T AV), (AT.mk n tr).get d = (tr.get d).getD .undef := by
    intro n tr
    simp only [AT.get]
    cases tr.get d <;> rfl
  rw [e, this]
  simp only [List.not_mem_nil, or_false]
  split <;> rfl

def onlyAct (ds : List Nat) (a : Act) : Act := { a with tmps := ((List.range a.tmps.size).map fun d => if d ∈ ds then a.tmps.getD d Go.undef else Go.undef).toArray }

theorem onlyAct_get (ds : List Nat) (a : Act) (d : Nat) : (onlyAct ds a).tmps.getD d Go.undef = if d ∈ ds then a.tmps.getD d Go.undef else Go.undef := by
  unfold onlyAct
  simp only [Array.getD_eq_getD_getElem?, List.getElem?_toArray, List.getElem?_map]
  by_cases hd : d < a.tmps.size
  · rw [List.getElem?_range hd]; simp
  · rw [List.getElem?_eq_none (by simp; omega)]
    have : a.tmps[d]? = none := Array.getElem?_eq_none (by omega)
    simp [this]

theorem onlyAct_eval {ds : List Nat} {a : Act} {x : Operand} (h : ∀ d, x = .tmp d → d ∈ ds) : (onlyAct ds a).eval x = a.eval x := by
  cases x with
  | tmp d => simp only [Act.eval]; rw [onlyAct_get, if_pos (h d rfl)]
  | _ => rfl

/-- what a region's run rests on -/
structure Ctx (P : Program) (rec : Rec) (ops : Array Oper) (it : It) (A : Nat → AH) (T : Nat → AT) (v : Nat → AV) (m0 : Map) (w0 : World) : Prop where
  rok : RecOk P rec
  st : Stat P ops it
  tr : Trace P rec ops.toList it 0 ops.size A T v
  ag : Agree P m0 (A 0) w0
  hyp : ∀ i, i ≤ ops.size → ∃ w m a, Sim P m0 (A 0) w0 m (A i) w ∧ TR m (T i) (Act.tmps a)
  nx : ∀ i, i < ops.size → (A i).next ≤ (A (i + 1)).next
  stable : ∀ i, i < ops.size → ¬ Eff P ops.toList it T i → ∀ B, B < (A i).next → (A (i + 1)).get B = (A i).get B

theorem ctx_of (hr : RecOk P rec) {ops : Array Oper} {it : It} (hst : Stat P ops it) {A : Nat → AH} {T : Nat → AT} {v : Nat → AV} (tr : Trace P rec ops.toList it 0 ops.size A T v) {m0 : Map} {w0 : World} {a0 : Act}
    (ag : Agree P m0 (A 0) w0) (ht : TR m0 (T 0) a0.tmps) : Ctx P rec ops it A T v m0 w0 := by
  have step : ∀ i, i < ops.size → ∀ (w : World) (m : Map) (a : Act), Agree P m (A i) w → TR m (T i) a.tmps → ∃ w' m' a', Sim P m (A i) w m' (A (i + 1)) w' ∧ TR m' (T (i + 1)) (Act.tmps a') ∧
      (¬ Eff P ops.toList it T i → ∀ B, B < (A i).next → (A (i + 1)).get B = (A i).get B) := by
    intro i hi w m a hA ht
    cases tr.step i (Nat.zero_le _) hi with
    | skip h h2 h3 => exact ⟨w, m, a.put (it i).1.dst Go.undef, by rw [h2]; exact .refl hA, by rw [h3]; exact ht.putA _ VR.undef, fun _ B _ => by rw [h2]⟩
    | look h h1 h2 h3 h4 h5 =>
      obtain ⟨u, _, hu⟩ := readA_sim hA.toLook ht h3
      exact ⟨w, m, a.put (it i).1.dst u, by rw [h4]; exact .refl hA, by rw [h5]; exact ht.putA _ hu, fun _ B _ => by rw [h4]⟩
    | make h h1 h2 h3 h4 =>
      have hm := makeA_sim (w := w) (A := A i) hA.glob ht h3
      obtain ⟨u, w', m', _, k2, k3⟩ := hm.goes hA
      refine ⟨w', m', a.put (it i).1.dst u, k3, by rw [h4]; exact (ht.mono k3.le).putA _ k2, fun _ B hB => ?_⟩
      obtain ⟨_, _, _, _, k⟩ := hm
      rcases k with ⟨e, _⟩ | ⟨b, o, x, e, _⟩
      · rw [e]
      · rw [e, AH.get_new_other _ _ _ (by omega)]
    | turn h h1 h2 h3 =>
      obtain ⟨_, u, w', m', _, k2, k3⟩ := turnA_sim hr hA ht h2
      exact ⟨w', m', a.put (it i).1.dst u, k3, by rw [h3]; exact (ht.mono k3.le).putA _ k2, fun hn => (hn ⟨h, h1⟩).elim⟩
  have hyp : ∀ i, i ≤ ops.size → ∃ w m a, Sim P m0 (A 0) w0 m (A i) w ∧ TR m (T i) (Act.tmps a) := by
    intro i
    induction i with
    | zero => exact fun _ => ⟨w0, m0, a0, .refl ag, ht⟩
    | succ i ih =>
      intro hi
      obtain ⟨w, m, a, h1, h2⟩ := ih (by omega)
      obtain ⟨w', m', a', k1, k2, _⟩ := step i (by omega) w m a h1.agree h2
      exact ⟨w', m', a', h1.trans ag k1, k2⟩
  refine ⟨hr, hst, tr, ag, hyp, ?_, ?_⟩
  · intro i hi
    obtain ⟨w, m, a, h1, h2⟩ := hyp i (by omega)
    obtain ⟨_, _, _, k1, _, _⟩ := step i hi w m a h1.agree h2
    exact k1.next
  · intro i hi
    obtain ⟨w, m, a, h1, h2⟩ := hyp i (by omega)
    obtain ⟨_, _, _, _, _, k3⟩ := step i hi w m a h1.agree h2
    exact k3

variable {ops : Array Oper} {it : It} {A : Nat → AH} {T : Nat → AT} {v : Nat → AV} {m0 : Map} {w0 : World}

theorem Ctx.next_mono (c : Ctx P rec ops it A T v m0 w0) : ∀ (k i : Nat), i ≤ k → k ≤ ops.size → (A i).next ≤ (A k).next
  | 0, i, h, _ => by have : i = 0 := by omega
                     subst this; exact Nat.le_refl _
  | k + 1, i, h, hk => by
    by_cases hi : i = k + 1
    · subst hi; exact Nat.le_refl _
    · exact Nat.le_trans (c.next_mono k i (by omega) (by omega)) (c.nx k (by omega))

theorem Ctx.top (c : Ctx P rec ops it A T v m0 w0) {i : Nat} (hi : i ≤ ops.size) {B : Nat} {b : AB} (h : (A i).get B = some b) : B < (A i).next := by
  obtain ⟨_, _, _, h1, _⟩ := c.hyp i hi
  exact h1.agree.top _ _ h

theorem Ctx.tstep (c : Ctx P rec ops it A T v m0 w0) {i : Nat} (hi : i < ops.size) : ∃ x, T (i + 1) = putA (T i) (it i).1.dst x := by
  cases c.tr.step i (Nat.zero_le _) hi with
  | skip _ _ h => exact ⟨_, h⟩
  | look _ _ _ _ _ h => exact ⟨_, h⟩
  | make _ _ _ _ h => exact ⟨_, h⟩
  | turn _ _ _ h => exact ⟨_, h⟩

theorem putA_n (t : AT) (dst : Option Tmp) (x : AV) : (putA t dst x).n = t.n := by
  cases dst with
  | none => rfl
  | some d => exact AT.n_put _ _ _

theorem putA_other (t : AT) (dst : Option Tmp) (x : AV) (d : Nat) (h : dst ≠ some d) : (putA t dst x).get d = t.get d := by
  cases dst with
  | none => rfl
  | some e =>
    have : d ≠ e := fun he => h (by rw [he])
    simp only [putA, AT.get_put]
    rw [if_neg (fun hc => this hc.1)]

theorem putA_same (t : AT) (x : AV) (d : Nat) : (putA t (some d) x).get d = if d < t.n then x else t.get d := by
  simp only [putA, AT.get_put]
  by_cases h : d < t.n <;> simp [h]

theorem Ctx.Tn (c : Ctx P rec ops it A T v m0 w0) : ∀ i, i ≤ ops.size → (T i).n = (T 0).n
  | 0, _ => rfl
  | i + 1, h => by
    obtain ⟨x, hx⟩ := c.tstep (i := i) (by omega)
    rw [hx, putA_n, c.Tn i (by omega)]

theorem Ctx.Thigh (c : Ctx P rec ops it A T v m0 w0) (d : Nat) (hd : ¬ d < (T 0).n) : ∀ i, i ≤ ops.size → (T i).get d = (T 0).get d
  | 0, _ => rfl
  | i + 1, h => by
    obtain ⟨x, hx⟩ := c.tstep (i := i) (by omega)
    rw [hx]
    by_cases he : (it i).1.dst = some d
    · rw [he, putA_same, c.Tn i (by omega), if_neg hd, c.Thigh d hd i (by omega)]
    · rw [putA_other _ _ _ _ he, c.Thigh d hd i (by omega)]

/-- a temporary that nothing writes keeps what it holds -/
theorem Ctx.Tkeep (c : Ctx P rec ops it A T v m0 w0) (d : Nat) : ∀ (q i : Nat), i ≤ q → q ≤ ops.size → (∀ k, i ≤ k → k < q → (it k).1.dst ≠ some d) → (T q).get d = (T i).get d
  | 0, i, h, _, _ => by have : i = 0 := by omega
                        subst this; rfl
  | q + 1, i, h, hq, hk => by
    by_cases hi : i = q + 1
    · subst hi; rfl
    · obtain ⟨x, hx⟩ := c.tstep (i := q) (by omega)
      rw [hx, putA_other _ _ _ _ (hk q (by omega) (by omega)), c.Tkeep d q i (by omega) (by omega) (fun k h1 h2 => hk k h1 (by omega))]

end Go.Fold

/-
  A part of the road: an evaluator over abstract memory with a proved simulation, and what is reckoned by it. Written by an AI agent; no person has read it.
-/
import Derived.Test.YtebjajchdidnfaaGreatDoorFoldFrame
set_option linter.all false
namespace Go.Fold
variable {P : Program} {rec : Rec}

/-! ### What an operation looks at of the temporaries -/

def Alike (P : Program) (t t' : AT) (xs : List Operand) : Prop := ∀ x ∈ xs, evalO P t x = evalO P t' x

theorem Alike.os {t t' : AT} : ∀ {xs : List Operand}, Alike P t t' xs → evalOs P t xs = evalOs P t' xs
  | [], _ => rfl
  | x :: xs, h => by
    simp only [evalOs]
    rw [h x (by simp), Alike.os (fun y hy => h y (List.mem_cons_of_mem _ hy))]

theorem Alike.parts {t t' : AT} : ∀ {ps : List (Nat × Operand)}, Alike P t t' (ps.map (·.2)) → evalParts P t ps = evalParts P t' ps
  | [], _ => rfl
  | (i, x) :: ps, h => by
    simp only [evalParts]
    rw [h x (by simp), Alike.parts (fun y hy => h y (List.mem_cons_of_mem _ hy))]

theorem Alike.bound {t t' : AT} {d : Nat} {x : Option Operand} (h : Alike P t t' x.toList) : boundA P t d x = boundA P t' d x := by
  cases x with
  | none => rfl
  | some x => simp only [boundA]; rw [h x (by simp)]

theorem Alike.sub {t t' : AT} {xs ys : List Operand} (h : Alike P t t' xs) (hs : ∀ y ∈ ys, y ∈ xs) : Alike P t t' ys := fun y hy => h y (hs y hy)

theorem operands_call (c : Call) : (Op.call c).operands = c.operands := rfl

theorem callStillA_congr {t t' : AT} {c : Call} (h : Alike P t t' c.operands.toList) : callStillA P t c = callStillA P t' c := by
  obtain ⟨callee, args, tys⟩ := c
  have hargs : Alike P t t' args.toList := h.sub (by intro y hy; simp [Call.operands]; right; simpa using hy)
  unfold callStillA
  simp only
  have e1 := hargs.os
  split
  · unfold lenA; split <;> (try rfl)
    rename_i x ty he _; rw [he] at hargs; rw [hargs x (by simp)]
  · unfold capA; split <;> (try rfl)
    rename_i x ty he _; rw [he] at hargs; rw [hargs x (by simp)]
  · unfold minA; rw [e1]
  · unfold maxA; rw [e1]
  · unfold dataA; split <;> (try rfl)
    rename_i x he; rw [he] at hargs; rw [hargs x (by simp)]
  · rfl

theorem readA_congr {A : AH} {t t' : AT} {o : Op} (h : Alike P t t' o.operands.toList) : readA P A o t = readA P A o t' := by
  cases o <;> simp only [readA]
  case move x => exact h x (by simp [Op.operands])
  case assign x => exact h x (by simp [Op.operands])
  case pick c x y => unfold pickA; rw [h c (by simp [Op.operands]), h x (by simp [Op.operands]), h y (by simp [Op.operands])]
  case nilCheck x => unfold nilCheckA; rw [h x (by simp [Op.operands])]
  case binOp op ty x y ty' => unfold binOpA; rw [h x (by simp [Op.operands]), h y (by simp [Op.operands])]
  case unOp op ty x => unfold unOpA; rw [h x (by simp [Op.operands])]
  case makeFunc f first cap =>
    unfold makeFuncA
    rw [Alike.os (h.sub (ys := first.toList) (by intro y hy; simp [Op.operands]; left; simpa using hy)), Alike.os (h.sub (ys := cap.toList) (by intro y hy; simp [Op.operands]; right; simpa using hy))]
  case fieldAddr s x f => unfold fieldAddrA; rw [h x (by simp [Op.operands])]
  case field s x f => unfold fieldA; rw [h x (by simp [Op.operands])]
  case indexAddr ty x i => unfold indexAddrA; rw [h x (by simp [Op.operands]), h i (by simp [Op.operands])]
  case index ty x i => unfold indexA; rw [h x (by simp [Op.operands]), h i (by simp [Op.operands])]
  case extract x i => unfold extractA; rw [h x (by simp [Op.operands])]
  case load ty x => unfold loadOpA; rw [h x (by simp [Op.operands])]
  case slice ty x lo hi mx =>
    unfold sliceA boundsA
    rw [h x (by simp [Op.operands])]
    have hlo := fun d => Alike.bound (d := d) (h.sub (ys := lo.toList) (by intro y hy; simp [Op.operands]; right; left; simpa using hy))
    have hhi := fun d => Alike.bound (d := d) (h.sub (ys := hi.toList) (by intro y hy; simp [Op.operands]; right; right; left; simpa using hy))
    have hmx := fun d => Alike.bound (d := d) (h.sub (ys := mx.toList) (by intro y hy; simp [Op.operands]; right; right; right; simpa using hy))
    cases mx with
    | none => simp only [hlo, hhi]
    | some mo => simp only [hlo, hhi, hmx]
  case convert src dst x => unfold convStillA; rw [h x (by simp [Op.operands])]
  case call c => exact callStillA_congr h

theorem makeA_congr {A : AH} {t t' : AT} {o : Op} (h : Alike P t t' o.operands.toList) : makeA P A o t = makeA P A o t' := by
  cases o <;> simp only [makeA]
  case box e x => unfold boxA; rw [h x (by simp [Op.operands])]
  case build ty ps => unfold buildA; rw [Alike.parts (h.sub (by intro y hy; simpa [Op.operands] using hy))]
  case buildSlice ty n ps => unfold buildSliceA; rw [Alike.parts (h.sub (by intro y hy; simpa [Op.operands] using hy))]
  case makeSlice ty l c => unfold makeSliceA; rw [h l (by simp [Op.operands]), h c (by simp [Op.operands])]
  case convert src dst x => unfold convMakeA; rw [h x (by simp [Op.operands])]
  case range ty x => unfold rangeA; rw [h x (by simp [Op.operands])]

theorem effA_congr {A : AH} {t t' : AT} {o : Op} (h : Alike P t t' o.operands.toList) : effA P A o t = effA P A o t' := by
  cases o <;> simp only [effA]
  case store ty x v => unfold storeOpA; rw [h x (by simp [Op.operands]), h v (by simp [Op.operands])]
  case next it b => unfold nextA; rw [h it (by simp [Op.operands])]
  case convert src dst x => unfold convSameA; rw [h x (by simp [Op.operands])]
  case call c =>
    obtain ⟨callee, args, tys⟩ := c
    have hargs : Alike P t t' args.toList := h.sub (by intro y hy; simp [Op.operands, Call.operands]; right; simpa using hy)
    split
    · unfold appendOpA; split <;> (try rfl)
      rename_i s x ty tx he _; rw [he] at hargs; rw [hargs x (by simp), hargs s (by simp)]
    · unfold copyOpA; split <;> (try rfl)
      rename_i s x ty tx he _; rw [he] at hargs; rw [hargs x (by simp), hargs s (by simp)]
    · unfold clearOpA; split <;> (try rfl)
      rename_i x ty tx he _; rw [he] at hargs; rw [hargs x (by simp)]
    · unfold stringA; split <;> (try rfl)
      rename_i x y ty tx he _; rw [he] at hargs; rw [hargs x (by simp), hargs y (by simp)]
    · rfl

theorem turnA_congr {A : AH} {t t' : AT} {o : Op} (h : Alike P t t' o.operands.toList) : turnA P rec o t A = turnA P rec o t' A := by
  unfold turnA
  split
  · exact effA_congr h
  · unfold callOpA
    split
    · rename_i f args tys _
      rw [h f (by simp [Op.operands, Call.operands]), Alike.os (h.sub (ys := args.toList) (by intro y hy; simp [Op.operands, Call.operands]; right; simpa using hy))]
    · rfl
  · rfl

theorem mem_tmpsOf {xs : List Operand} {d : Tmp} (h : Operand.tmp d ∈ xs) : d ∈ tmpsOf xs := by
  unfold tmpsOf
  exact List.mem_filterMap.2 ⟨.tmp d, h, rfl⟩

theorem alike_of {t t' : AT} {xs : List Operand} (h : ∀ d ∈ tmpsOf xs, t.get d = t'.get d) : Alike P t t' xs := by
  intro x hx
  cases x with
  | tmp d => simp only [evalO]; rw [h d (mem_tmpsOf hx)]
  | _ => rfl

theorem wantedA_congr {ops : List Oper} {o : Oper} {t t' : AT} (h : ∀ d ∈ looksAt ops o, t.get d = t'.get d) : wantedA ops o t = wantedA ops o t' := by
  unfold wantedA
  cases hg : o.guard with
  | none => rfl
  | some jw =>
    obtain ⟨j, want⟩ := jw
    simp only
    cases ho : ops[j]? with
    | none => rfl
    | some oj =>
      simp only
      cases hd : oj.dst with
      | none => rfl
      | some d =>
        have : d ∈ looksAt ops o := by simp [looksAt, hg, ho, hd]
        simp only
        rw [h d this]

mutual
theorem sameV_eq : ∀ {a b : AV}, sameV a b = true → a = b
  | .bool a, b, h => by cases b <;> simp [sameV] at h; subst h; rfl
  | .int k a, b, h => by cases b <;> simp [sameV] at h; obtain ⟨rfl, rfl⟩ := h; rfl
  | .str a, b, h => by cases b <;> simp [sameV] at h; rw [(bytesEq_iff _ _).1 h]
  | .ptr a, b, h => by cases b <;> simp [sameV] at h; subst h; rfl
  | .slice a n c, b, h => by cases b <;> simp [sameV] at h; obtain ⟨⟨rfl, rfl⟩, rfl⟩ := h; rfl
  | .mapv a, b, h => by cases b <;> simp [sameV] at h; subst h; rfl
  | .fn f x y, b, h => by
    cases b <;> simp [sameV] at h
    obtain ⟨⟨rfl, h1⟩, h2⟩ := h
    rw [sameVs_eq h1, sameVs_eq h2]
  | .nilFn, b, h => by cases b <;> simp [sameV] at h; rfl
  | .nilIface, b, h => by cases b <;> simp [sameV] at h; rfl
  | .agg x, b, h => by cases b <;> simp [sameV] at h; rw [sameVs_eq h]
  | .tup x, b, h => by cases b <;> simp [sameV] at h; rw [sameVs_eq h]
theorem sameVs_eq : ∀ {a b : List AV}, sameVs a b = true → a = b
  | [], b, h => by cases b <;> simp [sameVs] at h; rfl
  | x :: xs, b, h => by
    cases b <;> simp [sameVs] at h
    rw [sameV_eq h.1, sameVs_eq h.2]
end

theorem stillAt_eq {o : Oper} {t : AT} {v : AV} {A : AH} (h : stillAt P o t v A = true) : readA P A o.op t = some v := by
  unfold stillAt at h
  split at h
  · rename_i u hu; rw [hu, sameV_eq h]
  · simp at h

end Go.Fold

namespace Go.Fold
variable {P : Program} {rec : Rec}

/-! ### The run in the order of the text, as a trace -/

abbrev It := Nat → Oper × Nat

/-- an operation that is carried out and turns memory -/
def Eff (P : Program) (ops : List Oper) (it : It) (T : Nat → AT) (i : Nat) : Prop := wantedA ops (it i).1 (T i) = true ∧ turns P (it i).1.op = true
/-- an operation that is carried out and only looks -/
def Looks (P : Program) (ops : List Oper) (it : It) (T : Nat → AT) (i : Nat) : Prop := wantedA ops (it i).1 (T i) = true ∧ turns P (it i).1.op = false ∧ kindOf P (it i).1.op = .still

/-- one step of the trace -/
inductive TStep (P : Program) (rec : Rec) (ops : List Oper) (o : Oper) (A : AH) (T : AT) (v : AV) (A' : AH) (T' : AT) : Prop
  | skip (h : wantedA ops o T = false) (hA : A' = A) (hT : T' = putA T o.dst .undef)
  | look (h : wantedA ops o T = true) (ht : turns P o.op = false) (hk : kindOf P o.op = .still) (hr : readA P A o.op T = some v) (hA : A' = A) (hT : T' = putA T o.dst v)
  | make (h : wantedA ops o T = true) (ht : turns P o.op = false) (hk : kindOf P o.op = .makes) (hr : makeA P A o.op T = some (v, A')) (hT : T' = putA T o.dst v)
  | turn (h : wantedA ops o T = true) (ht : turns P o.op = true) (hr : turnA P rec o.op T A = some (v, A')) (hT : T' = putA T o.dst v)

structure Trace (P : Program) (rec : Rec) (ops : List Oper) (it : It) (j n : Nat) (A : Nat → AH) (T : Nat → AT) (v : Nat → AV) : Prop where
  step : ∀ i, j ≤ i → i < n → TStep P rec ops (it i).1 (A i) (T i) (v i) (A (i + 1)) (T (i + 1))
  past : ∀ e i, j ≤ e → e < i → i < n → Eff P ops it T e → Looks P ops it T i → (it i).2.testBit e = false → readA P (A e) (it i).1.op (T i) = some (v i)
  late : ∀ i e, j ≤ i → i < e → e < n → Looks P ops it T i → Eff P ops it T e → (it e).2.testBit i = false → readA P (A (e + 1)) (it i).1.op (T i) = some (v i)

def at1 {α : Type} (j : Nat) (x : α) (f : Nat → α) : Nat → α := fun i => if i = j then x else f i
theorem at1_same {α : Type} (j : Nat) (x : α) (f : Nat → α) : at1 j x f j = x := if_pos rfl
theorem at1_other {α : Type} (j : Nat) (x : α) (f : Nat → α) (i : Nat) (h : i ≠ j) : at1 j x f i = f i := if_neg h

theorem trace_of (ops : List Oper) (it : It) (n : Nat) : ∀ (k j : Nat) (pasts : List (Nat × AH)) (looks : List (Nat × Oper × Tm × AV)) (t : AT) (A : AH) (t' : AT) (A' : AH), j + k = n →
    drawn P rec ops ((List.range' j k).map fun i => (it i, i)) pasts looks t A = some (t', A') →
    ∃ (Af : Nat → AH) (Tf : Nat → AT) (vf : Nat → AV), Af j = A ∧ Tf j = t ∧ Af n = A' ∧ Tf n = t' ∧ Trace P rec ops it j n Af Tf vf ∧
      (∀ i, j ≤ i → i < n → Looks P ops it Tf i → ∀ p ∈ pasts, (it i).2.testBit p.1 = false → readA P p.2 (it i).1.op (Tf i) = some (vf i)) ∧
      (∀ e, j ≤ e → e < n → Eff P ops it Tf e → ∀ l ∈ looks, (it e).2.testBit l.1 = false → readA P (Af (e + 1)) l.2.1.op l.2.2.1 = some l.2.2.2)
  | 0, j, pasts, looks, t, A, t', A', hj, h => by
    simp only [List.range'_zero, List.map_nil, drawn, Option.some.injEq, Prod.mk.injEq] at h
    obtain ⟨rfl, rfl⟩ := h
    have : j = n := by omega
    subst this
    exact ⟨fun _ => A, fun _ => t, fun _ => .undef, rfl, rfl, rfl, rfl, ⟨fun i _ _ => by omega, fun e i _ _ _ => by omega, fun i e _ _ _ => by omega⟩, fun i _ _ => by omega, fun e _ _ => by omega⟩
  | k + 1, j, pasts, looks, t, A, t', A', hj, h => by
    rw [List.range'_succ, List.map_cons] at h
    simp only [drawn] at h
    -- what comes behind, once this step is known
    have go : ∀ (v : AV) (A1 : AH) (t1 : AT) (pasts1 : List (Nat × AH)) (looks1 : List (Nat × Oper × Tm × AV)),
        drawn P rec ops ((List.range' (j + 1) k).map fun i => (it i, i)) pasts1 looks1 t1 A1 = some (t', A') →
        TStep P rec ops (it j).1 A t v A1 t1 → (∀ p ∈ pasts, p ∈ pasts1) → (∀ l ∈ looks, l ∈ looks1) →
        ((wantedA ops (it j).1 t = true ∧ turns P (it j).1.op = true) → (j, A) ∈ pasts1 ∧ ∀ l ∈ looks, (it j).2.testBit l.1 = false → readA P A1 l.2.1.op l.2.2.1 = some l.2.2.2) →
        ((wantedA ops (it j).1 t = true ∧ turns P (it j).1.op = false ∧ kindOf P (it j).1.op = .still) → (j, (it j).1, t, v) ∈ looks1 ∧ ∀ p ∈ pasts, (it j).2.testBit p.1 = false → readA P p.2 (it j).1.op t = some v) →
        ∃ (Af : Nat → AH) (Tf : Nat → AT) (vf : Nat → AV), Af j = A ∧ Tf j = t ∧ Af n = A' ∧ Tf n = t' ∧ Trace P rec ops it j n Af Tf vf ∧
          (∀ i, j ≤ i → i < n → Looks P ops it Tf i → ∀ p ∈ pasts, (it i).2.testBit p.1 = false → readA P p.2 (it i).1.op (Tf i) = some (vf i)) ∧
          (∀ e, j ≤ e → e < n → Eff P ops it Tf e → ∀ l ∈ looks, (it e).2.testBit l.1 = false → readA P (Af (e + 1)) l.2.1.op l.2.2.1 = some l.2.2.2) := by
      intro v A1 t1 pasts1 looks1 h1 hs hp hl he hlk
      obtain ⟨Af, Tf, vf, a1, a2, a3, a4, tr, q1, q2⟩ := trace_of ops it n k (j + 1) pasts1 looks1 t1 A1 t' A' (by omega) h1
      have hne : ∀ i, j + 1 ≤ i → i ≠ j := fun i hi e => by omega
      have eA : ∀ i, j + 1 ≤ i → (at1 j A Af) i = Af i := fun i hi => at1_other _ _ _ _ (hne i hi)
      have eT : ∀ i, j + 1 ≤ i → (at1 j t Tf) i = Tf i := fun i hi => at1_other _ _ _ _ (hne i hi)
      have ev : ∀ i, j + 1 ≤ i → (at1 j v vf) i = vf i := fun i hi => at1_other _ _ _ _ (hne i hi)
      have effj : Eff P ops it (at1 j t Tf) j → wantedA ops (it j).1 t = true ∧ turns P (it j).1.op = true := fun h => by
        have := h.1; rw [at1_same] at this; exact ⟨this, h.2⟩
      have lookj : Looks P ops it (at1 j t Tf) j → wantedA ops (it j).1 t = true ∧ turns P (it j).1.op = false ∧ kindOf P (it j).1.op = .still := fun h => by
        have := h.1; rw [at1_same] at this; exact ⟨this, h.2⟩
      have effi : ∀ i, j + 1 ≤ i → Eff P ops it (at1 j t Tf) i → Eff P ops it Tf i := fun i hi h => by
        have := h.1; rw [eT i hi] at this; exact ⟨this, h.2⟩
      have looki : ∀ i, j + 1 ≤ i → Looks P ops it (at1 j t Tf) i → Looks P ops it Tf i := fun i hi h => by
        have := h.1; rw [eT i hi] at this; exact ⟨this, h.2⟩
      refine ⟨at1 j A Af, at1 j t Tf, at1 j v vf, at1_same .., at1_same .., by rw [eA n (by omega)]; exact a3, by rw [eT n (by omega)]; exact a4, ⟨?_, ?_, ?_⟩, ?_, ?_⟩
      · intro i hi hin
        by_cases hij : i = j
        · subst hij
          rw [eA (i + 1) (Nat.le_refl _), eT (i + 1) (Nat.le_refl _), a1, a2, at1_same, at1_same, at1_same]
          exact hs
        · rw [eA (i + 1) (by omega), eT (i + 1) (by omega), eA i (by omega), eT i (by omega), ev i (by omega)]
          exact tr.step i (by omega) hin
      · intro e i hje hei hin hE hL hb
        rw [eT i (by omega), ev i (by omega)]
        by_cases hej : e = j
        · subst hej
          rw [at1_same]
          exact q1 i (by omega) hin (looki i (by omega) hL) _ (he (effj hE)).1 hb
        · rw [eA e (by omega)]
          exact tr.past e i (by omega) hei hin (effi e (by omega) hE) (looki i (by omega) hL) hb
      · intro i e hji hie hen hL hE hb
        rw [eA (e + 1) (by omega)]
        by_cases hij : i = j
        · subst hij
          rw [at1_same, at1_same]
          exact q2 e (by omega) hen (effi e (by omega) hE) _ (hlk (lookj hL)).1 hb
        · rw [eT i (by omega), ev i (by omega)]
          exact tr.late i e (by omega) hie hen (looki i (by omega) hL) (effi e (by omega) hE) hb
      · intro i hji hin hL p hpm hb
        by_cases hij : i = j
        · subst hij
          rw [at1_same, at1_same]
          exact (hlk (lookj hL)).2 p hpm hb
        · rw [eT i (by omega), ev i (by omega)]
          exact q1 i (by omega) hin (looki i (by omega) hL) p (hp p hpm) hb
      · intro e hje hen hE l hlm hb
        rw [eA (e + 1) (by omega)]
        by_cases hej : e = j
        · subst hej
          rw [a1]
          exact (he (effj hE)).2 l hlm hb
        · exact q2 e (by omega) hen (effi e (by omega) hE) l (hl l hlm) hb
    cases hw : wantedA ops (it j).1 t with
    | false =>
      simp only [hw, cond_false] at h
      exact go .undef A _ pasts looks h (.skip hw rfl rfl) (fun _ hp => hp) (fun _ hl => hl) (fun e => by rw [hw] at e; cases e.1) (fun e => by rw [hw] at e; cases e.1)
    | true =>
      simp only [hw, cond_true] at h
      cases ht : turns P (it j).1.op with
      | true =>
        simp only [ht, cond_true] at h
        split at h
        · rename_i v A1 hv
          cases hc : looks.all (fun x => (it j).2.testBit x.1 || stillAt P x.2.1 x.2.2.1 x.2.2.2 A1) with
          | false => simp [hc] at h
          | true =>
            simp only [hc, cond_true] at h
            refine go v A1 _ _ looks h (.turn hw ht hv rfl) (fun _ hp => List.mem_cons_of_mem _ hp) (fun _ hl => hl) (fun _ => ⟨List.mem_cons_self .., fun l hl hb => ?_⟩) (fun e => by rw [ht] at e; cases e.2.1)
            have := List.all_eq_true.1 hc l hl
            rw [hb] at this
            exact stillAt_eq (by simpa using this)
        · simp at h
      | false =>
        simp only [ht, cond_false] at h
        split at h
        · rename_i hk
          split at h
          · rename_i v hv
            cases hc : pasts.all (fun x => (it j).2.testBit x.1 || stillAt P (it j).1 t v x.2) with
            | false => simp [hc] at h
            | true =>
              simp only [hc, cond_true] at h
              refine go v A _ pasts _ h (.look hw ht hk hv rfl rfl) (fun _ hp => hp) (fun _ hl => List.mem_cons_of_mem _ hl) (fun e => by rw [ht] at e; cases e.2) (fun _ => ⟨List.mem_cons_self .., fun p hp hb => ?_⟩)
              have := List.all_eq_true.1 hc p hp
              rw [hb] at this
              exact stillAt_eq (by simpa using this)
          · simp at h
        · rename_i hk
          split at h
          · rename_i v A1 hv
            exact go v A1 _ pasts looks h (.make hw ht hk hv rfl) (fun _ hp => hp) (fun _ hl => hl) (fun e => by rw [ht] at e; cases e.2) (fun e => by rw [hk] at e; cases e.2.2)
          · simp at h
        · simp at h

end Go.Fold

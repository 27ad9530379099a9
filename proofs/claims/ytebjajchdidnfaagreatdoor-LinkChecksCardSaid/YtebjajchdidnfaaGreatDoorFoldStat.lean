/-
  A part of the road: an evaluator over abstract memory with a proved simulation, and what is reckoned by it. Written by an AI agent; no person has read it.
-/
import Derived.Test.YtebjajchdidnfaaGreatDoorFoldTrace
import Derived.Orders
set_option linter.all false
namespace Go.Fold
variable {P : Program} {rec : Rec}

/-! ### The least and the greatest -/

theorem least (p : Nat → Prop) : ∀ n, p n → ∃ k, k ≤ n ∧ p k ∧ ∀ j, j < k → ¬ p j := by
  intro n
  induction n using Nat.strongRecOn with
  | ind n ih =>
    intro hp
    by_cases h : ∃ j, j < n ∧ p j
    · obtain ⟨j, hj, hpj⟩ := h
      obtain ⟨k, h1, h2, h3⟩ := ih j hj hpj
      exact ⟨k, by omega, h2, h3⟩
    · exact ⟨n, Nat.le_refl _, hp, fun j hj hpj => h ⟨j, hj, hpj⟩⟩

theorem greatest (p : Nat → Prop) (n : Nat) (hn : ∀ k, p k → k < n) : ∀ k, p k → ∃ j, k ≤ j ∧ p j ∧ ∀ i, j < i → ¬ p i := by
  intro k hk
  obtain ⟨d, h1, h2, h3⟩ := least (fun d => ∃ j, p j ∧ n - j = d ∧ k ≤ j) (n - k) ⟨k, hk, rfl, Nat.le_refl _⟩
  obtain ⟨j, hj, hd, hkj⟩ := h2
  refine ⟨j, hkj, hj, fun i hi hpi => ?_⟩
  exact h3 (n - i) (by have := hn i hpi; omega) ⟨i, hpi, rfl, by omega⟩

/-! ### The operations and what comes ahead of them -/

def mask (acc : List Nat) (o : Oper) : Nat := o.after.toList.foldl (fun s e => bif Region.binds .any e then s ||| 2 ^ e.on ||| acc.getD e.on 0 else s) 0

theorem mask_bit (acc : List Nat) (j : Nat) : ∀ (es : List Edge) (s : Nat), (es.foldl (fun s e => bif Region.binds .any e then s ||| 2 ^ e.on ||| acc.getD e.on 0 else s) s).testBit j = true →
    s.testBit j = true ∨ ∃ e ∈ es, Region.binds .any e = true ∧ (e.on = j ∨ (acc.getD e.on 0).testBit j = true)
  | [], s, h => .inl h
  | e :: es, s, h => by
    simp only [List.foldl_cons] at h
    rcases mask_bit acc j es _ h with h1 | ⟨e', h1, h2⟩
    · cases hb : Region.binds .any e with
      | false => simp only [hb, cond_false] at h1; exact .inl h1
      | true =>
        simp only [hb, cond_true, Nat.testBit_or, Nat.testBit_two_pow, Bool.or_eq_true, decide_eq_true_eq] at h1
        rcases h1 with (h1 | h1) | h1
        · exact .inl h1
        · exact .inr ⟨e, by simp, hb, .inl h1⟩
        · exact .inr ⟨e, by simp, hb, .inr h1⟩
    · exact .inr ⟨e', List.mem_cons_of_mem _ h1, h2⟩

theorem aheads_length : ∀ (os : List Oper) (acc : List Nat), (aheads acc os).length = acc.length + os.length
  | [], acc => rfl
  | o :: os, acc => by
    simp only [aheads]
    rw [aheads_length os]
    simp; omega

theorem aheads_take : ∀ (os : List Oper) (acc : List Nat), (aheads acc os).take acc.length = acc
  | [], acc => by simp [aheads]
  | o :: os, acc => by
    simp only [aheads]
    change List.take acc.length (aheads (acc ++ [mask acc o]) os) = acc
    have h := aheads_take os (acc ++ [mask acc o])
    have h2 := congrArg (List.take acc.length) h
    rw [List.take_take] at h2
    simpa using h2

theorem aheads_get : ∀ (os : List Oper) (acc : List Nat) (k : Nat) (o : Oper), os[k]? = some o → (aheads acc os)[acc.length + k]? = some (mask ((aheads acc os).take (acc.length + k)) o)
  | [], acc, k, o, h => by simp at h
  | o' :: os, acc, 0, o, h => by
    simp at h; subst h
    have ht := aheads_take (o' :: os) acc
    rw [Nat.add_zero, ht]
    simp only [aheads]
    have h1 := aheads_take os (acc ++ [mask acc o'])
    have h2 : ((aheads (acc ++ [mask acc o']) os).take (acc ++ [mask acc o']).length)[acc.length]? = (acc ++ [mask acc o'])[acc.length]? := by rw [h1]
    rw [List.getElem?_take_of_lt (by simp)] at h2
    change (aheads (acc ++ [mask acc o']) os)[acc.length]? = _
    rw [h2]; simp
  | o' :: os, acc, k + 1, o, h => by
    simp at h
    have := aheads_get os (acc ++ [mask acc o']) k o h
    simp only [List.length_append, List.length_cons, List.length_nil] at this
    rw [show acc.length + (0 + 1) + k = acc.length + (k + 1) by omega] at this
    exact this

/-- the region's operations, with what comes ahead of each -/
def itOf (ops : List Oper) : It := fun i => (ops.getD i default, (aheads [] ops).getD i 0)

theorem items_eq (ops : List Oper) : (ops.zip (aheads [] ops)).zipIdx = (List.range' 0 ops.length).map fun i => (itOf ops i, i) := by
  apply List.ext_getElem?
  intro i
  rw [List.getElem?_zipIdx, List.getElem?_map]
  by_cases hi : i < ops.length
  · have hl : i < (aheads [] ops).length := by rw [aheads_length]; simpa using hi
    rw [List.getElem?_range' (by simpa using hi)]
    have e : (ops.zip (aheads [] ops))[i]? = some (itOf ops i) := by
      rw [List.getElem?_zip_eq_some]
      simp [itOf, List.getD, List.getElem?_eq_getElem hi, List.getElem?_eq_getElem hl]
    simp [e]
  · rw [List.getElem?_eq_none (by simp [aheads_length]; omega), List.getElem?_eq_none (by simp; omega)]
    rfl

structure Stat (P : Program) (ops : Array Oper) (it : It) : Prop where
  top : ∀ i, i < ops.size → ops[i]? = some (it i).1
  r1 : ∀ i, i < ops.size → ∀ e ∈ (it i).1.after, Region.binds .any e = true → e.on < i
  r2 : ∀ j i, j < i → i < ops.size → (it i).2.testBit j = false → ¬ (turns P (it i).1.op = true ∧ turns P (it j).1.op = true) ∧
      (∀ d, (it j).1.dst = some d → d ∉ looksAt ops.toList (it i).1 ∧ (it i).1.dst ≠ some d) ∧ (∀ d, (it i).1.dst = some d → d ∉ looksAt ops.toList (it j).1)
  r3 : ∀ i, i < ops.size → ∀ j, (it i).2.testBit j = true → ∃ e ∈ (it i).1.after, Region.binds .any e = true ∧ (e.on = j ∨ (it e.on).2.testBit j = true)

theorem turns_isEff {o : Oper} (h : turns P o.op = true) : isEff P o = true := by
  unfold turns at h
  unfold isEff
  cases hk : kindOf P o.op <;> simp_all

theorem stat_of {ops : Array Oper} (h : regionOk P ops.toList = true) : Stat P ops (itOf ops.toList) := by
  have hmem : ∀ i, i < ops.size → (itOf ops.toList i, i) ∈ (ops.toList.zip (aheads [] ops.toList)).zipIdx := by
    intro i hi
    rw [items_eq]
    exact List.mem_map.2 ⟨i, by simp; exact hi, rfl⟩
  unfold regionOk at h
  simp only [List.all_eq_true] at h
  have hget : ∀ i, i < ops.size → ops[i]? = some (itOf ops.toList i).1 := by
    intro i hi
    simp [itOf, List.getD, hi]
  have h1 : ∀ i, i < ops.size → ∀ e ∈ (itOf ops.toList i).1.after, Region.binds .any e = true → e.on < i := by
    intro i hi e he hb
    have := h _ (hmem i hi)
    simp only [Bool.and_eq_true, List.all_eq_true] at this
    have h2 := this.1 e (by simpa using he)
    rw [hb] at h2
    simp only [Bool.not_true, Bool.false_or] at h2
    exact of_nblt h2
  refine ⟨hget, h1, ?_, ?_⟩
  · intro j i hji hi hb
    have := h _ (hmem i hi)
    simp only [Bool.and_eq_true, List.all_eq_true] at this
    have h2 := this.2 _ (hmem j (by omega))
    simp only [nblt_true hji, hb, Bool.not_true, Bool.false_or, Bool.and_eq_true, Bool.not_eq_true', Bool.and_eq_false_iff] at h2
    obtain ⟨⟨h3, h4⟩, h5⟩ := h2
    refine ⟨?_, ?_, ?_⟩
    · rintro ⟨e1, e2⟩
      rcases h3 with h3 | h3
      · rw [turns_isEff e1] at h3; cases h3
      · rw [turns_isEff e2] at h3; cases h3
    · intro d hd
      rw [hd] at h4
      simp only [Bool.and_eq_true, Bool.not_eq_true'] at h4
      refine ⟨fun hm => ?_, fun he => ?_⟩
      · have := h4.1
        rw [List.contains_iff_mem.2 hm] at this; cases this
      · have := h4.2
        rw [he] at this; simp at this
    · intro d hd
      rw [hd] at h5
      simp only [Bool.not_eq_true'] at h5
      intro hm
      rw [List.contains_iff_mem.2 hm] at h5; cases h5
  · intro i hi j hb
    have hg := aheads_get ops.toList [] i (itOf ops.toList i).1 (by simpa using hget i hi)
    simp only [List.length_nil, Nat.zero_add] at hg
    have hbi : (itOf ops.toList i).2 = mask ((aheads [] ops.toList).take i) (itOf ops.toList i).1 := by
      show (aheads [] ops.toList).getD i 0 = _
      rw [List.getD, hg]; rfl
    rw [hbi] at hb
    rcases mask_bit _ j _ _ hb with h2 | ⟨e, he, hbd, h2⟩
    · simp at h2
    · refine ⟨e, by simpa using he, hbd, h2.imp id fun h3 => ?_⟩
      have hlt := h1 i hi e (by simpa using he) hbd
      have : ((aheads [] ops.toList).take i).getD e.on 0 = (itOf ops.toList e.on).2 := by
        show _ = (aheads [] ops.toList).getD e.on 0
        rw [List.getD, List.getD, List.getElem?_take_of_lt hlt]
      rw [← this]; exact h3

end Go.Fold

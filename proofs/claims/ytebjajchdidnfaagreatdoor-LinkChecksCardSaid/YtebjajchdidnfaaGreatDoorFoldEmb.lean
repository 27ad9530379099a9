/-
  A part of the road: an evaluator over abstract memory with a proved simulation, and what is reckoned by it. Written by an AI agent; no person has read it.
-/
import Derived.Test.YtebjajchdidnfaaGreatDoorFoldLift2
import Derived.Test.YtebjajchdidnfaaGreatDoorFoldTrace
set_option linter.all false
set_option linter.all false
namespace Go.Fold
variable {P : Program}

/-! ### Runs over the memory that is laid, within any memory that holds it -/

mutual
/-- all that a value points at lies below -/
def AV.under (n : Nat) : AV → Bool
  | .ptr (some a) => Nat.blt a.1 n
  | .slice (some a) _ _ => Nat.blt a.1 n
  | .mapv (some r) => Nat.blt r n
  | .fn f a b => (match f with | .yield l => Nat.blt l n | _ => true) && AV.underL n a && AV.underL n b
  | .agg cs => AV.underL n cs
  | .tup cs => AV.underL n cs
  | _ => true
def AV.underL (n : Nat) : List AV → Bool
  | [] => true
  | v :: vs => AV.under n v && AV.underL n vs
end

mutual
theorem AV.ren_same {ρ : Nat → Nat} {n : Nat} (h : ∀ b, b < n → ρ b = b) : ∀ v : AV, v.under n = true → v.ren ρ = v
  | .bool _, _ => rfl
  | .int _ _, _ => rfl
  | .str _, _ => rfl
  | .ptr none, _ => rfl
  | .ptr (some a), hv => by simp only [AV.under] at hv; simp only [AV.ren]; rw [h _ (of_nblt hv)]
  | .slice none _ _, _ => rfl
  | .slice (some a) _ _, hv => by simp only [AV.under] at hv; simp only [AV.ren]; rw [h _ (of_nblt hv)]
  | .mapv none, _ => rfl
  | .mapv (some r), hv => by simp only [AV.under] at hv; simp only [AV.ren]; rw [h _ (of_nblt hv)]
  | .fn f a b, hv => by
    simp only [AV.under, Bool.and_eq_true] at hv
    simp only [AV.ren, AV.renL_same h a hv.1.2, AV.renL_same h b hv.2]
    cases f <;> simp only [renF]
    rw [h _ (of_nblt hv.1.1)]
  | .nilFn, _ => rfl
  | .nilIface, _ => rfl
  | .agg cs, hv => by simp only [AV.under] at hv; simp only [AV.ren, AV.renL_same h cs hv]
  | .tup cs, hv => by simp only [AV.under] at hv; simp only [AV.ren, AV.renL_same h cs hv]
theorem AV.renL_same {ρ : Nat → Nat} {n : Nat} (h : ∀ b, b < n → ρ b = b) : ∀ l : List AV, AV.underL n l = true → AV.renL ρ l = l
  | [], _ => rfl
  | v :: vs, hv => by
    simp only [AV.underL, Bool.and_eq_true] at hv
    simp only [AV.renL, AV.ren_same h v hv.1, AV.renL_same h vs hv.2]
end

/-- the keys of a trie -/
def T.keys {α : Type} : T α → List Nat
  | .nil => []
  | .node v l r => (match v with | some _ => [0] | none => []) ++ (l.keys.map (fun k => 2 * k + 1)) ++ (r.keys.map (fun k => 2 * k + 2))

theorem T.mem_keys {α : Type} : ∀ (t : T α) (n : Nat) (x : α), t.get n = some x → n ∈ t.keys
  | .nil, n, x, h => by simp [T.get] at h
  | .node v l r, n, x, h => by
    simp only [T.get] at h
    by_cases h0 : n = 0
    · subst h0
      simp at h; subst h; simp [T.keys]
    · rw [nbeq_false h0, cond_false] at h
      by_cases h1 : n % 2 = 1
      · rw [nbeq_true h1, cond_true] at h
        have := T.mem_keys l _ _ h
        simp only [T.keys, List.mem_append, List.mem_map]
        exact .inl (.inr ⟨_, this, by omega⟩)
      · rw [nbeq_false h1, cond_false] at h
        have := T.mem_keys r _ _ h
        simp only [T.keys, List.mem_append, List.mem_map]
        exact .inr ⟨_, this, by omega⟩

/-- memory of rows of cells alone, all below its end -/
def AH.plain (A : AH) : Bool := A.t.keys.all fun k => Nat.blt k A.next && (match A.get k with | some (.cells c _ _) => AV.underL A.next c | none => true | _ => false)
/-- .. that may not be written -/
def AH.shut (A : AH) : Bool := A.t.keys.all fun k => match A.get k with | some (.cells _ _ true) => true | none => true | _ => false

theorem AH.plain_cells {A : AH} (h : A.plain = true) {b : Nat} {x : AB} (hg : A.get b = some x) : b < A.next ∧ ∃ c e f, x = .cells c e f ∧ AV.underL A.next c = true := by
  have hk := T.mem_keys A.t b x hg
  have := List.all_eq_true.1 h b hk
  simp only [Bool.and_eq_true] at this
  refine ⟨of_nblt this.1, ?_⟩
  have h2 := this.2
  rw [hg] at h2
  cases x with
  | cells c e f => exact ⟨c, e, f, rfl, h2⟩
  | _ => simp at h2

theorem AH.shut_cells {A : AH} (h : A.shut = true) {b : Nat} {x : AB} (hg : A.get b = some x) : ∃ c e, x = .cells c e true := by
  have hk := T.mem_keys A.t b x hg
  have := List.all_eq_true.1 h b hk
  rw [hg] at this
  cases x with
  | cells c e f => cases f <;> simp at this; exact ⟨c, e, rfl⟩
  | _ => simp at this

/-- numbers below an end stay, the others go behind another end -/
def shiftTo (n m : Nat) (b : Nat) : Nat := if b < n then b else m + (b - n)

theorem Emb.of_plain {A0 A : AH} (hp : A0.plain = true) (hglob : P.globals.size ≤ A0.next) (hle : A0.next ≤ A.next) (hk : ∀ b x, A0.get b = some x → A.get b = some x) : Emb P (shiftTo A0.next A.next) A0 A where
  lt := fun b hb => by simp only [shiftTo, if_pos hb]; omega
  new := fun b hb => by simp only [shiftTo, if_neg (Nat.not_lt.2 hb)]
  inj := fun b b' hb hb' h => by simpa only [shiftTo, if_pos hb, if_pos hb'] using h
  top := fun b x hx => (AH.plain_cells hp hx).1
  glob := fun g hg => by
    have : g < A0.next := by omega
    exact ⟨by simp only [shiftTo, if_pos this], this⟩
  cells := fun b x hx => by
    obtain ⟨hb, c, e, f, rfl, hu⟩ := AH.plain_cells hp hx
    refine ⟨c, e, f, f, rfl, ?_, id⟩
    rw [show shiftTo A0.next A.next b = b by simp only [shiftTo, if_pos hb], AV.renL_same (n := A0.next) (fun b hb => by simp only [shiftTo, if_pos hb]) c hu]
    exact hk b _ hx

theorem lifted_hit {ρ : Nat → Nat} {A1 A1' A : AH} (E : Emb P ρ A1 A) {b : Nat} (hb : b < A1'.next) (hm : mayTurn A1 b = true) : (lifted ρ A1 A1' A).get (ρ b) = some (AB.lift ρ (A1'.get b)) := liftA_in E.inj' A1 A1' _ A b hb hm
theorem lifted_miss {ρ : Nat → Nat} {A1 A1' A : AH} {B : Nat} (hB : ∀ b, b < A1'.next → mayTurn A1 b = true → ρ b ≠ B) : (lifted ρ A1 A1' A).get B = A.get B := liftA_out A1 A1' _ A B hB

theorem mayTurn_shut {A1 : AH} (hs : A1.shut = true) {b : Nat} (h : mayTurn A1 b = true) : A1.next ≤ b := by
  rcases mayTurn_cases h with h | ⟨c, e, hg⟩
  · exact h
  · obtain ⟨c', e', he⟩ := AH.shut_cells hs hg
    cases he

/-- what was there is there -/
theorem lifted_old {ρ : Nat → Nat} {A1 A1' A : AH} (E : Emb P ρ A1 A) (hs : A1.shut = true) {B : Nat} (hB : B < A.next) : (lifted ρ A1 A1' A).get B = A.get B :=
  lifted_miss fun b _ hm e => by
    have h1 := mayTurn_shut hs hm
    have h2 := E.new b h1
    omega
theorem lifted_next (ρ : Nat → Nat) (A1 A1' A : AH) : (lifted ρ A1 A1' A).next = A.next + (A1'.next - A1.next) := rfl

/-- the memory behind a call, as the smaller memory of the next -/
theorem Emb.step {ρ : Nat → Nat} {A1 A1' A : AH} (E : Emb P ρ A1 A) (hn : A1.next ≤ A1'.next) (hp : A1'.plain = true) (hk : ∀ b, b < A1.next → mayTurn A1 b = false → A1'.get b = A1.get b) : Emb P ρ A1' (lifted ρ A1 A1' A) where
  lt := fun b hb => by
    rw [lifted_next]
    by_cases h : b < A1.next
    · have := E.lt b h; omega
    · have := E.new b (by omega); omega
  new := fun b hb => by
    rw [lifted_next]
    have := E.new b (by omega); omega
  inj := fun b b' _ _ h => E.inj' b b' h
  top := fun b x hx => (AH.plain_cells hp hx).1
  glob := fun g hg => by
    obtain ⟨h1, h2⟩ := E.glob g hg
    exact ⟨h1, by omega⟩
  cells := fun b x hx => by
    obtain ⟨hb, c, e, f, rfl, _⟩ := AH.plain_cells hp hx
    cases hm : mayTurn A1 b with
    | true =>
      refine ⟨c, e, f, f, rfl, ?_, id⟩
      rw [lifted_hit E hb hm, hx]; rfl
    | false =>
      have hb1 : b < A1.next := by
        by_cases h : b < A1.next
        · exact h
        · simp [mayTurn, Nat.ble_eq_true_of_le (Nat.not_lt.1 h)] at hm
      rw [hk b hb1 hm] at hx
      obtain ⟨c', e', f1, f2, h1, h2, h3⟩ := E.cells b _ hx
      refine ⟨c', e', f1, f2, h1, ?_, h3⟩
      rw [lifted_miss fun b' _ hm' e' => by rw [E.inj' _ _ e'] at hm'; rw [hm] at hm'; cases hm']
      exact h2

def sameBlk : Option AB → Option AB → Bool
  | some (.cells c e f), some (.cells c' e' f') => sameVs c c' && e.beq e' && (f == f')
  | none, none => true
  | _, _ => false
theorem sameBlk_eq {x y : Option AB} (h : sameBlk x y = true) : x = y := by
  unfold sameBlk at h
  split at h
  · simp only [Bool.and_eq_true] at h
    rw [sameVs_eq h.1.1, Nat.eq_of_beq_eq_true h.1.2, eq_of_beq h.2]
  · rfl
  · cases h

/-- is what lay in A as it was? -/
def AH.sameBelow (A A' : AH) : Bool := A.t.keys.all (fun k => sameBlk (A'.get k) (A.get k)) && A'.t.keys.all (fun k => Nat.ble A.next k || (A.get k).isSome)
theorem AH.sameBelow_get {A A' : AH} (h : A.sameBelow A' = true) {b : Nat} (hb : b < A.next) : A'.get b = A.get b := by
  simp only [AH.sameBelow, Bool.and_eq_true] at h
  cases hg : A.get b with
  | some x =>
    have := sameBlk_eq (List.all_eq_true.1 h.1 b (T.mem_keys _ _ _ hg))
    rw [this, hg]
  | none =>
    cases hg' : A'.get b with
    | none => rfl
    | some y =>
      have := List.all_eq_true.1 h.2 b (T.mem_keys _ _ _ hg')
      rw [hg] at this
      simp only [Option.isSome_none, Bool.or_false] at this
      have := of_nble this
      omega

theorem allOne_ren {ρ : Nat → Nat} : ∀ {l : List AV}, allOne l = true → allOne (AV.renL ρ l) = true
  | [], _ => rfl
  | v :: vs, h => by
    simp only [allOne, List.all_cons, Bool.and_eq_true] at h
    have ih := allOne_ren (ρ := ρ) (l := vs) h.2
    simp only [AV.renL, allOne, List.all_cons, Bool.and_eq_true]
    refine ⟨?_, ih⟩
    have h1 := h.1
    cases v with
    | ptr a => cases a <;> rfl
    | slice a n c => cases a <;> rfl
    | mapv r => cases r <;> rfl
    | agg cs => simp [AV.oneCell] at h1
    | tup cs => simp [AV.oneCell] at h1
    | _ => rfl

end Go.Fold

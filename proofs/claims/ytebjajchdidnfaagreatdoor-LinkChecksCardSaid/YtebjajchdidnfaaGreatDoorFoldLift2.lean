/-
  A part of the road: an evaluator over abstract memory with a proved simulation, and what is reckoned by it. Written by an AI agent; no person has read it.
-/
import Derived.Test.YtebjajchdidnfaaGreatDoorFoldHook
set_option linter.all false
namespace Go.Fold
variable {P : Program}

/-! ### Other numbers for the blocks -/

def renF (ρ : Nat → Nat) : Fn → Fn
  | .yield l => .yield (ρ l)
  | f => f

mutual
def AV.ren (ρ : Nat → Nat) : AV → AV
  | .bool b => .bool b
  | .int k n => .int k n
  | .str s => .str s
  | .ptr none => .ptr none
  | .ptr (some a) => .ptr (some (ρ a.1, a.2))
  | .slice none n c => .slice none n c
  | .slice (some a) n c => .slice (some (ρ a.1, a.2)) n c
  | .mapv none => .mapv none
  | .mapv (some r) => .mapv (some (ρ r))
  | .fn f a b => .fn (renF ρ f) (AV.renL ρ a) (AV.renL ρ b)
  | .nilFn => .nilFn
  | .nilIface => .nilIface
  | .agg cs => .agg (AV.renL ρ cs)
  | .tup cs => .tup (AV.renL ρ cs)
def AV.renL (ρ : Nat → Nat) : List AV → List AV
  | [] => []
  | v :: vs => AV.ren ρ v :: AV.renL ρ vs
end

mutual
theorem VR.ren {m : Map} {ρ : Nat → Nat} : ∀ {a : AV} {v : Value}, VR m (a.ren ρ) v ↔ VR (fun b => m (ρ b)) a v
  | .bool _, _ => by simp only [AV.ren, VR]
  | .int _ _, _ => by simp only [AV.ren, VR]
  | .str _, _ => by simp only [AV.ren, VR]
  | .ptr none, _ => by simp only [AV.ren, VR]
  | .ptr (some a), _ => by simp only [AV.ren, VR, PR]
  | .slice none _ _, _ => by simp only [AV.ren, VR]
  | .slice (some a) _ (some _), _ => by simp only [AV.ren, VR, PR]
  | .slice (some a) _ none, _ => by simp only [AV.ren, VR]
  | .mapv none, _ => by simp only [AV.ren, VR]
  | .mapv (some r), _ => by simp only [AV.ren, VR]
  | .fn f a b, _ => by
    simp only [AV.ren, VR]
    have hf : ∀ g, FR m (renF ρ f) g ↔ FR (fun b => m (ρ b)) f g := by
      intro g
      cases f <;> simp only [renF, FR]
    simp only [hf, LR.ren (a := a), LR.ren (a := b)]
  | .nilFn, _ => by simp only [AV.ren, VR]
  | .nilIface, _ => by simp only [AV.ren, VR]
  | .agg cs, _ => by simp only [AV.ren, VR, LR.ren (a := cs)]
  | .tup cs, _ => by simp only [AV.ren, VR, LR.ren (a := cs)]
theorem LR.ren {m : Map} {ρ : Nat → Nat} : ∀ {a : List AV} {v : List Value}, LR m (AV.renL ρ a) v ↔ LR (fun b => m (ρ b)) a v
  | [], _ => by simp only [AV.renL, LR]
  | c :: cs, _ => by simp only [AV.renL, LR, VR.ren (a := c), LR.ren (a := cs)]
end

theorem renL_length (ρ : Nat → Nat) : ∀ l : List AV, (AV.renL ρ l).length = l.length
  | [] => rfl
  | _ :: l => by simp [AV.renL, renL_length ρ l]

/-- a block under other numbers: what is no row of cells is let go -/
def AB.lift (ρ : Nat → Nat) : Option AB → AB
  | some (.cells c e f) => .cells (AV.renL ρ c) e f
  | _ => .dead

/-- A1's blocks are among A's -/
structure Emb (P : Program) (ρ : Nat → Nat) (A1 A : AH) : Prop where
  lt : ∀ b, b < A1.next → ρ b < A.next
  new : ∀ b, A1.next ≤ b → ρ b = A.next + (b - A1.next)
  inj : ∀ b b', b < A1.next → b' < A1.next → ρ b = ρ b' → b = b'
  top : ∀ b x, A1.get b = some x → b < A1.next
  glob : ∀ g, g < P.globals.size → ρ g = g ∧ g < A1.next
  cells : ∀ b x, A1.get b = some x → ∃ c e f f', x = .cells c e f ∧ A.get (ρ b) = some (.cells (AV.renL ρ c) e f') ∧ (f = false → f' = false)

theorem Emb.inj' {ρ : Nat → Nat} {A1 A : AH} (E : Emb P ρ A1 A) (b b' : Nat) (h : ρ b = ρ b') : b = b' := by
  by_cases h1 : b < A1.next
  · by_cases h2 : b' < A1.next
    · exact E.inj b b' h1 h2 h
    · have := E.lt b h1; have := E.new b' (by omega); omega
  · by_cases h2 : b' < A1.next
    · have := E.lt b' h2; have := E.new b (by omega); omega
    · have := E.new b (by omega); have := E.new b' (by omega); omega

/-- what may have turned -/
def mayTurn (A1 : AH) (b : Nat) : Bool := bif Nat.ble A1.next b then true else match A1.get b with | some (.cells _ _ false) => true | _ => false

def liftA (ρ : Nat → Nat) (A1 A1' : AH) : Nat → AH → AH
  | 0, A => A
  | k + 1, A => bif mayTurn A1 k then (liftA ρ A1 A1' k A).put (ρ k) (AB.lift ρ (A1'.get k)) else liftA ρ A1 A1' k A

theorem liftA_next (ρ : Nat → Nat) (A1 A1' : AH) : ∀ (k : Nat) (A : AH), (liftA ρ A1 A1' k A).next = A.next
  | 0, A => rfl
  | k + 1, A => by
    simp only [liftA]
    cases mayTurn A1 k with
    | true => simp only [cond_true, AH.next_put]; exact liftA_next ρ A1 A1' k A
    | false => exact liftA_next ρ A1 A1' k A

theorem liftA_in {ρ : Nat → Nat} (hi : ∀ b b', ρ b = ρ b' → b = b') (A1 A1' : AH) : ∀ (k : Nat) (A : AH) (b : Nat), b < k → mayTurn A1 b = true → (liftA ρ A1 A1' k A).get (ρ b) = some (AB.lift ρ (A1'.get b))
  | 0, A, b, h, _ => by omega
  | k + 1, A, b, h, hm => by
    simp only [liftA]
    by_cases hb : b = k
    · subst hb
      rw [hm, cond_true, AH.get_put_same]
    · have ih := liftA_in hi A1 A1' k A b (by omega) hm
      cases mayTurn A1 k with
      | true => rw [cond_true, AH.get_put_other _ _ _ _ (fun e => hb (hi _ _ e))]; exact ih
      | false => exact ih

theorem liftA_out {ρ : Nat → Nat} (A1 A1' : AH) : ∀ (k : Nat) (A : AH) (B : Nat), (∀ b, b < k → mayTurn A1 b = true → ρ b ≠ B) → (liftA ρ A1 A1' k A).get B = A.get B
  | 0, A, B, _ => rfl
  | k + 1, A, B, h => by
    simp only [liftA]
    have ih := liftA_out A1 A1' k A B (fun b hb => h b (by omega))
    cases hm : mayTurn A1 k with
    | true => rw [cond_true, AH.get_put_other _ _ _ _ (fun e => h k (by omega) hm e.symm)]; exact ih
    | false => exact ih

/-- the memory behind the call -/
def lifted (ρ : Nat → Nat) (A1 A1' A : AH) : AH := ⟨A.next + (A1'.next - A1.next), (liftA ρ A1 A1' A1'.next A).t⟩

end Go.Fold

namespace Go.Fold
variable {P : Program}

theorem lifted_get (ρ : Nat → Nat) (A1 A1' A : AH) (B : Nat) : (lifted ρ A1 A1' A).get B = (liftA ρ A1 A1' A1'.next A).get B := rfl

section
variable {ρ : Nat → Nat} {A1 A : AH} {m : Map} {w : World}

theorem Emb.agree (E : Emb P ρ A1 A) (hA : Agree P m A w) : Agree P (fun b => m (ρ b)) A1 w where
  glob := fun g hg => by
    obtain ⟨h1, _⟩ := E.glob g hg
    obtain ⟨x, hx, r⟩ := hA.glob g hg
    exact ⟨x, by simp only [h1]; exact hx, r⟩
  blk := fun B x b hx hb => by
    obtain ⟨c, e, f, f', rfl, h1, h2⟩ := E.cells B b hb
    obtain ⟨o, ho, cs, e', fr, rfl, k1, k2, k3, k4, k5, k6⟩ := hA.blk _ _ _ hx h1
    rw [renL_length] at k4 k5
    exact ⟨_, ho, cs, e', fr, rfl, fun hf => k1 (h2 hf), k2, k3, k4, LR.ren.1 k5, fun hf => k6 (h2 hf)⟩
  lt := fun B x hx => by
    have := hA.lt _ _ hx
    refine ⟨?_, this.2⟩
    by_cases h : B < A1.next
    · exact h
    · have := E.new B (by omega); omega
  inj := fun B B' x x' b b' hx hb hw hx' hb' hd he => by
    obtain ⟨c, e, f, f', rfl, h1, h2⟩ := E.cells B b hb
    obtain ⟨c2, e2, f2, f2', rfl, h3, h4⟩ := E.cells B' b' hb'
    have hf : f = false := by cases f <;> simp [AB.wr] at hw ⊢
    exact E.inj' _ _ (hA.inj _ _ _ _ _ _ hx h1 (by rw [h2 hf]; rfl) hx' h3 (by simp) he)
  top := E.top

theorem mayTurn_cases {b : Nat} (h : mayTurn A1 b = true) : A1.next ≤ b ∨ ∃ c e, A1.get b = some (.cells c e false) := by
  unfold mayTurn at h
  cases hb : Nat.ble A1.next b with
  | true => exact .inl (of_nble hb)
  | false =>
    simp only [hb, cond_false] at h
    split at h
    · rename_i c e hg; exact .inr ⟨c, e, hg⟩
    · cases h

theorem mayTurn_wr (E : Emb P ρ A1 A) {b : Nat} {x : AB} (hg : A1.get b = some x) (hw : x.wr = true) : mayTurn A1 b = true := by
  obtain ⟨c, e, f, _, rfl, _, _⟩ := E.cells b x hg
  have hf : f = false := by cases f <;> simp [AB.wr] at hw ⊢
  subst hf
  unfold mayTurn
  cases Nat.ble A1.next b <;> simp [hg]

theorem mayTurn_new {b : Nat} (h : A1.next ≤ b) : mayTurn A1 b = true := by
  unfold mayTurn; rw [Nat.ble_eq_true_of_le h]; rfl

/-- what is asked of a call over small memory holds over any that holds it -/
theorem CallSpec.lift {f : FuncId} {args : List AV} {v : AV} {A1' : AH} (h : CallSpec P f args A1 v A1') (E : Emb P ρ A1 A) : CallSpec P f (AV.renL ρ args) A (v.ren ρ) (lifted ρ A1 A1' A) := by
  intro m w args' hA hl
  have hA1 := E.agree hA
  obtain ⟨u, w', m1, h1, h2, S⟩ := h _ w args' hA1 (LR.ren.1 hl)
  let m' : Map := fun B => if B < A.next then m B else m1 (A1.next + (B - A.next))
  have hm'o : ∀ B, B < A.next → m' B = m B := fun B hB => if_pos hB
  have hm'n : ∀ B, ¬ B < A.next → m' B = m1 (A1.next + (B - A.next)) := fun B hB => if_neg hB
  have hcomp : (fun b => m' (ρ b)) = m1 := by
    funext b
    by_cases hb : b < A1.next
    · rw [hm'o _ (E.lt b hb)]
      cases hm : m (ρ b) with
      | some x => exact (S.le b x hm).symm
      | none =>
        cases hm1 : m1 b with
        | none => rfl
        | some x =>
          rcases S.new b x hm1 with h | ⟨h, _⟩
          · simp only [hm] at h; cases h
          · omega
    · have hn := E.new b (by omega)
      rw [hm'n _ (by omega)]
      congr 1; omega
  have hle : m.le m' := fun B x hx => by rw [hm'o _ (hA.lt B x hx).1]; exact hx
  -- two kinds of blocks
  have hput : ∀ b, b < A1'.next → mayTurn A1 b = true → (lifted ρ A1 A1' A).get (ρ b) = some (AB.lift ρ (A1'.get b)) := fun b hb hm => liftA_in E.inj' A1 A1' _ A b hb hm
  have hkeep : ∀ B, (∀ b, b < A1'.next → mayTurn A1 b = true → ρ b ≠ B) → (lifted ρ A1 A1' A).get B = A.get B := fun B hB => liftA_out A1 A1' _ A B hB
  have hcase : ∀ B, (∃ b, b < A1'.next ∧ mayTurn A1 b = true ∧ ρ b = B) ∨ (∀ b, b < A1'.next → mayTurn A1 b = true → ρ b ≠ B) := fun B => by
    by_cases hc : ∃ b, b < A1'.next ∧ mayTurn A1 b = true ∧ ρ b = B
    · exact .inl hc
    · exact .inr fun b h1 h2 h3 => hc ⟨b, h1, h2, h3⟩
  have hm1 : ∀ b, m' (ρ b) = m1 b := fun b => congrFun hcomp b
  have hlift : ∀ b, (AB.lift ρ (A1'.get b)).wr = true ∨ AB.lift ρ (A1'.get b) ≠ .dead → ∃ c e f, A1'.get b = some (.cells c e f) := by
    intro b hw
    unfold AB.lift at hw
    split at hw
    · rename_i c e f hg; exact ⟨c, e, f, hg⟩
    · rcases hw with hw | hw
      · simp [AB.wr] at hw
      · exact (hw rfl).elim
  -- a block that may be written in the small memory may be written in the great one, and is not kept
  have wrUp : ∀ b x, A1.get b = some x → x.wr = true → ∃ c e, x = .cells c e false ∧ A.get (ρ b) = some (.cells (AV.renL ρ c) e false) := by
    intro b x hg hw
    obtain ⟨c, e, f, f', rfl, k1, k2⟩ := E.cells b x hg
    have hf : f = false := by cases f <;> simp [AB.wr] at hw ⊢
    subst hf
    rw [k2 rfl] at k1
    exact ⟨c, e, rfl, k1⟩
  have hlt1 : ∀ b x, A1.get b = some x → b < A1'.next := fun b x hg => Nat.lt_of_lt_of_le (E.top b x hg) S.next
  have hnext : ∀ b, b < A1'.next → ρ b < A.next + (A1'.next - A1.next) := by
    intro b hb
    by_cases h : b < A1.next
    · have := E.lt b h; omega
    · have := E.new b (by omega); omega
  have hold : ∀ b, ρ b < A.next → b < A1.next := fun b hb => by
    by_cases h : b < A1.next
    · exact h
    · have := E.new b (by omega); omega
  refine ⟨u, w', m', h1, VR.ren.2 (by rw [hcomp]; exact h2), ⟨⟨⟨hA.glob.mono hle, ?_⟩, ?_, ?_, ?_⟩, hle, ?_, by simp only [lifted]; omega, ?_, S.heap, S.env, ?_, ?_, ?_, ?_, ?_⟩⟩
  · -- blk
    intro B x b hx hb
    rcases hcase B with ⟨b0, hb0, hmt, rfl⟩ | hk
    · rw [hput b0 hb0 hmt] at hb; cases hb
      rw [hm1] at hx
      cases hg : A1'.get b0 with
      | none => 
        have := (S.agree.lt _ _ hx).2
        exact ⟨w'.heap[x.blk], by simp [this], by simp [AB.lift, BR]⟩
      | some y =>
        obtain ⟨o, ho, hr⟩ := S.agree.blk _ _ _ hx hg
        refine ⟨o, ho, ?_⟩
        cases y with
        | cells c e f =>
          obtain ⟨cs, e', fr, rfl, k1, k2, k3, k4, k5, k6⟩ := hr
          exact ⟨cs, e', fr, rfl, k1, k2, k3, by rw [renL_length]; exact k4, by rw [renL_length, LR.ren, hcomp]; exact k5, k6⟩
        | _ => trivial
    · rw [hkeep B hk] at hb
      have hBlt := hA.top B b hb
      rw [hm'o B hBlt] at hx
      obtain ⟨o, ho, hr⟩ := hA.blk B x b hx hb
      by_cases hd : b = .dead
      · subst hd
        have := Nat.lt_of_lt_of_le (hA.lt B x hx).2 S.heap
        exact ⟨w'.heap[x.blk], by simp [this], trivial⟩
      · refine ⟨o, ?_, hr.mono hle⟩
        rw [S.kept x.blk (hA.lt B x hx).2 ?_]; exact ho
        intro B1 x1 b1 hm hblk hg1
        cases hw1 : b1.wr with
        | false => rfl
        | true =>
          obtain ⟨c, e, rfl, hgA⟩ := wrUp B1 b1 hg1 hw1
          have := hA.inj _ _ _ _ _ _ hm hgA rfl hx hb hd hblk
          exact absurd this (hk B1 (hlt1 B1 _ hg1) (mayTurn_wr E hg1 hw1))
  · -- lt
    intro B x hx
    by_cases hB : B < A.next
    · rw [hm'o B hB] at hx
      exact ⟨by simp only [lifted]; omega, Nat.lt_of_lt_of_le (hA.lt B x hx).2 S.heap⟩
    · rw [hm'n B hB] at hx
      have := S.agree.lt _ _ hx
      exact ⟨by simp only [lifted]; omega, this.2⟩
  · -- inj
    have apart : ∀ b0 z B' z' b', m1 b0 = some z → m B' = some z' → (∀ b, b < A1'.next → mayTurn A1 b = true → ρ b ≠ B') → A.get B' = some b' → b' ≠ .dead → z.blk = z'.blk → mayTurn A1 b0 = true → b0 < A1'.next →
        (∃ b, A1'.get b0 = some b ∧ (b.wr = true ∨ b'.wr = true ∧ b ≠ .dead)) → False := by
      intro b0 z B' z' b' hz hz' hk hg' hd heq hmt hb0 ⟨b, hb, hww⟩
      rcases S.new b0 z hz with hc | ⟨hB, hc⟩
      · have hb1 := (hA1.lt b0 z hc).1
        rcases hww with hw | ⟨hw, hdd⟩
        · obtain ⟨b1, k1, k2⟩ := S.old b0 hb1 b hb hw
          obtain ⟨c, e, rfl, hgA⟩ := wrUp b0 b1 k1 k2
          exact hk b0 hb0 hmt (hA.inj _ _ _ _ _ _ hc hgA rfl hz' hg' hd heq)
        · obtain ⟨b1, k1, k2⟩ := S.live b0 hb1 b hb hdd
          obtain ⟨c, e, f, f', rfl, hgA, _⟩ := E.cells b0 b1 k1
          exact hk b0 hb0 hmt (hA.inj _ _ _ _ _ _ hz' hg' hw hc hgA (by simp) heq.symm).symm
      · rcases hc with hc | ⟨B₀, x₀, b₀, hc1, hc2, hc3, hc4⟩
        · have := (hA.lt _ _ hz').2; omega
        · obtain ⟨c, e, rfl, hgA⟩ := wrUp B₀ b₀ hc3 hc4
          exact hk B₀ (hlt1 B₀ _ hc3) (mayTurn_wr E hc3 hc4) (hA.inj _ _ _ _ _ _ hc1 hgA rfl hz' hg' hd (hc2.trans heq))
    intro B B' x x' b b' hx hb hw hx' hb' hd he
    rcases hcase B with ⟨b0, hb0, hmt, rfl⟩ | hk
    · rw [hput b0 hb0 hmt] at hb; cases hb
      rw [hm1] at hx
      obtain ⟨c, e, f, hg⟩ := hlift b0 (.inl hw)
      have hw1 : (AB.cells c e f).wr = true := by
        rw [hg] at hw; cases f <;> simp [AB.lift, AB.wr] at hw ⊢
      rcases hcase B' with ⟨b0', hb0', hmt', rfl⟩ | hk'
      · rw [hput b0' hb0' hmt'] at hb'; cases hb'
        rw [hm1] at hx'
        obtain ⟨c2, e2, f2, hg2⟩ := hlift b0' (.inr hd)
        rw [S.agree.inj _ _ _ _ _ _ hx hg hw1 hx' hg2 (by simp) he]
      · rw [hkeep B' hk'] at hb'
        rw [hm'o B' (hA.top _ _ hb')] at hx'
        exact (apart b0 x B' x' b' hx hx' hk' hb' hd he hmt hb0 ⟨_, hg, .inl hw1⟩).elim
    · rw [hkeep B hk] at hb
      rw [hm'o B (hA.top _ _ hb)] at hx
      rcases hcase B' with ⟨b0', hb0', hmt', rfl⟩ | hk'
      · rw [hput b0' hb0' hmt'] at hb'; cases hb'
        rw [hm1] at hx'
        obtain ⟨c2, e2, f2, hg2⟩ := hlift b0' (.inr hd)
        exact (apart b0' x' B x b hx' hx hk hb (fun e => by subst e; simp [AB.wr] at hw) he.symm hmt' hb0' ⟨_, hg2, .inr ⟨hw, by simp⟩⟩).elim
      · rw [hkeep B' hk'] at hb'
        rw [hm'o B' (hA.top _ _ hb')] at hx'
        exact hA.inj _ _ _ _ _ _ hx hb hw hx' hb' hd he
  · -- top
    intro B b hb
    rcases hcase B with ⟨b0, hb0, hmt, rfl⟩ | hk
    · exact hnext b0 hb0
    · rw [hkeep B hk] at hb
      have := hA.top B b hb
      simp only [lifted]; omega
  · -- new
    intro B x hx
    by_cases hB : B < A.next
    · rw [hm'o B hB] at hx; exact .inl hx
    · rw [hm'n B hB] at hx
      refine .inr ⟨by omega, ?_⟩
      rcases S.new _ x hx with hc | ⟨_, hc⟩
      · have := (hA1.lt _ _ hc).1; omega
      · rcases hc with hc | ⟨B₀, x₀, b₀, hc1, hc2, hc3, hc4⟩
        · exact .inl hc
        · obtain ⟨c, e, rfl, hgA⟩ := wrUp B₀ b₀ hc3 hc4
          exact .inr ⟨ρ B₀, x₀, _, hc1, hc2, hgA, rfl⟩
  · -- kept
    intro r hr hc
    refine S.kept r hr fun B x b hx hblk hg => ?_
    cases hw : b.wr with
    | false => rfl
    | true =>
      obtain ⟨c, e, rfl, hgA⟩ := wrUp B b hg hw
      have := hc _ _ _ hx hblk hgA
      simp [AB.wr] at this
  · -- old
    intro B hB b' hb' hw
    rcases hcase B with ⟨b0, hb0, hmt, rfl⟩ | hk
    · rw [hput b0 hb0 hmt] at hb'; cases hb'
      obtain ⟨c, e, f, hg⟩ := hlift b0 (.inl hw)
      have hw1 : (AB.cells c e f).wr = true := by
        rw [hg] at hw; cases f <;> simp [AB.lift, AB.wr] at hw ⊢
      obtain ⟨b1, k1, k2⟩ := S.old b0 (hold b0 hB) _ hg hw1
      obtain ⟨c, e, rfl, hgA⟩ := wrUp b0 b1 k1 k2
      exact ⟨_, hgA, rfl⟩
    · rw [hkeep B hk] at hb'; exact ⟨b', hb', hw⟩
  · -- live
    intro B hB b' hb' hd
    rcases hcase B with ⟨b0, hb0, hmt, rfl⟩ | hk
    · rw [hput b0 hb0 hmt] at hb'; cases hb'
      obtain ⟨c, e, f, hg⟩ := hlift b0 (.inr hd)
      obtain ⟨b1, k1, _⟩ := S.live b0 (hold b0 hB) _ hg (by simp)
      obtain ⟨c, e, f, f', rfl, hgA, _⟩ := E.cells b0 b1 k1
      exact ⟨_, hgA, by simp⟩
    · rw [hkeep B hk] at hb'; exact ⟨b', hb', hd⟩
  · -- ro
    intro B hB b hb hr
    rcases hcase B with ⟨b0, hb0, hmt, rfl⟩ | hk
    · have hlt := hold b0 hB
      rcases mayTurn_cases hmt with h | ⟨c, e, hg⟩
      · omega
      · obtain ⟨c2, e2, h3, hgA⟩ := wrUp b0 _ hg rfl
        rw [hgA] at hb; cases hb
        simp [AB.ro] at hr
    · rw [hkeep B hk]; exact hb
  · -- loc
    intro B hB hm
    rcases hcase B with ⟨b0, hb0, hmt, rfl⟩ | hk
    · have hlt := hold b0 hB
      rcases mayTurn_cases hmt with h | ⟨c, e, hg⟩
      · omega
      · obtain ⟨c2, e2, h3, hgA⟩ := wrUp b0 _ hg rfl
        have := S.loc b0 hlt hm
        rw [hput b0 hb0 hmt, this, hg, hgA]
        cases h3; rfl
    · exact hkeep B hk
  · -- cov
    intro B hB hB'
    rw [hm'n B (by omega)]
    refine S.cov _ (by omega) ?_
    simp only [lifted] at hB'
    omega

end
end Go.Fold

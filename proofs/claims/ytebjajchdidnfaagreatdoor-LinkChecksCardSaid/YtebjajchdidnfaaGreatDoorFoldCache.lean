/-
  A part of the road: an evaluator over abstract memory with a proved simulation, and what is reckoned by it. Written by an AI agent; no person has read it.
-/
import Derived.Test.YtebjajchdidnfaaGreatDoorFoldEmb
import Derived.Test.YtebjajchdidnfaaGreatDoorFoldHook
set_option linter.all false
set_option linter.all false
namespace Go.Fold
variable {P : Program}

/-! ### A call over bytes, reckoned once over the laid memory, told anywhere -/

/-- of what bytes, what it returns, what of its memory is told, by how much memory grows -/
structure Entry where
  s : List Nat
  v : AV
  bl : List (Nat × List AV × TypeId × Bool)
  grow : Nat

/-- the laid memory, and the bytes -/
def inA (A0 : AH) (el : TypeId) (s : List Nat) : AH := A0.new (.cells (cellsOfBytes s) el false)

def rhoOf (n0 b nx k : Nat) : Nat := bif Nat.blt k n0 then k else bif Nat.beq k n0 then b else nx + (k - (n0 + 1))

def addB (ρ : Nat → Nat) : List (Nat × List AV × TypeId × Bool) → T AB → T AB
  | [], t => t
  | x :: r, t => (addB ρ r t).put (ρ x.1) (.cells (AV.renL ρ x.2.1) x.2.2.1 x.2.2.2)

def entH (A0 : AH) (el : TypeId) (E : Entry) (args : List AV) (A : AH) : Option (AV × AH) :=
  match args with
  | [.slice (some (b, 0)) n none] => match A.get b with
    | some (.cells c el' false) =>
      bif el'.beq el && n.beq E.s.length && sameVs c (cellsOfBytes E.s) && Nat.ble A0.next b && Nat.blt b A.next && Nat.ble A0.next A.next && A0.t.keys.all (fun k => sameBlk (A.get k) (A0.get k)) then
        some (E.v.ren (rhoOf A0.next b A.next), ⟨A.next + E.grow, addB (rhoOf A0.next b A.next) E.bl A.t⟩)
      else none
    | _ => none
  | _ => none

/-- is that what the call comes to? -/
def entOk (A1 : AH) (n0 : Nat) (E : Entry) : Option Res → Bool
  | some (.done v A') => sameV v E.v && Nat.beq A'.next (A1.next + E.grow) && sameBlk (A'.get n0) (A1.get n0) && E.bl.all fun x => Nat.ble (n0 + 1) x.1 && Nat.blt x.1 A'.next && sameBlk (A'.get x.1) (some (.cells x.2.1 x.2.2.1 x.2.2.2))
  | _ => false

/-- what is behind a call may be told less of -/
theorem Sim.forget {m m' : Map} {A A' A'' : AH} {w w' : World} (h : Sim P m A w m' A' w') (hn : A''.next = A'.next) (h1 : ∀ B, B < A.next → A''.get B = A'.get B) (h2 : ∀ B x, A.next ≤ B → A''.get B = some x → A'.get B = some x) : Sim P m A w m' A'' w' := by
  have hs : ∀ B x, A''.get B = some x → A'.get B = some x := fun B x hx => by
    by_cases hB : B < A.next
    · rw [← h1 B hB]; exact hx
    · exact h2 B x (by omega) hx
  exact ⟨⟨⟨h.agree.glob, fun B x b hx hb => h.agree.blk B x b hx (hs B b hb)⟩, fun B x hx => by rw [hn]; exact h.agree.lt B x hx,
    fun B B' x x' b b' hx hb hw hx' hb' hd he => h.agree.inj B B' x x' b b' hx (hs _ _ hb) hw hx' (hs _ _ hb') hd he, fun B b hb => by rw [hn]; exact h.agree.top B b (hs B b hb)⟩, h.le, h.new, by rw [hn]; exact h.next, h.kept, h.heap, h.env,
    fun B hB b hb hw => h.old B hB b (by rw [← h1 B hB]; exact hb) hw, fun B hB b hb hd => h.live B hB b (by rw [← h1 B hB]; exact hb) hd, fun B hB b hb hr => by rw [h1 B hB]; exact h.ro B hB b hb hr, fun B hB hm => by rw [h1 B hB]; exact h.loc B hB hm,
    fun B hB hB' => h.cov B hB (by rw [← hn]; exact hB')⟩

theorem CallSpec.forget {f : FuncId} {args : List AV} {v : AV} {A A' A'' : AH} (h : CallSpec P f args A v A') (hn : A''.next = A'.next) (h1 : ∀ B, B < A.next → A''.get B = A'.get B) (h2 : ∀ B x, A.next ≤ B → A''.get B = some x → A'.get B = some x) : CallSpec P f args A v A'' := by
  intro m w args' hA hl
  obtain ⟨u, w', m', k1, k2, k3⟩ := h m w args' hA hl
  exact ⟨u, w', m', k1, k2, k3.forget hn h1 h2⟩

theorem cellsOfBytes_under (n : Nat) : ∀ s : List Nat, AV.underL n (cellsOfBytes s) = true
  | [] => rfl
  | b :: s => by simp only [cellsOfBytes, AV.underL, AV.under, cellsOfBytes_under n s]; rfl

theorem renL_bytes (ρ : Nat → Nat) (s : List Nat) : AV.renL ρ (cellsOfBytes s) = cellsOfBytes s := AV.renL_same (n := 0) (fun b hb => absurd hb (Nat.not_lt_zero b)) _ (cellsOfBytes_under 0 s)

theorem addB_next (ρ : Nat → Nat) (nx : Nat) : ∀ (bl : List (Nat × List AV × TypeId × Bool)) (t : T AB) (B : Nat), (∀ x ∈ bl, ρ x.1 ≠ B) → (addB ρ bl t).get B = t.get B
  | [], _, _, _ => rfl
  | x :: r, t, B, h => by
    simp only [addB]
    rw [T.get_put_other _ _ _ _ (Ne.symm (h x (List.mem_cons_self ..)))]
    exact addB_next ρ nx r t B fun y hy => h y (List.mem_cons_of_mem _ hy)
theorem addB_some (ρ : Nat → Nat) : ∀ (bl : List (Nat × List AV × TypeId × Bool)) (t : T AB) (B : Nat) (y : AB), (addB ρ bl t).get B = some y → t.get B = some y ∨ ∃ x ∈ bl, ρ x.1 = B ∧ y = .cells (AV.renL ρ x.2.1) x.2.2.1 x.2.2.2
  | [], _, _, _, h => .inl h
  | x :: r, t, B, y, h => by
    simp only [addB] at h
    by_cases hB : B = ρ x.1
    · subst hB
      rw [T.get_put_same] at h
      exact .inr ⟨x, List.mem_cons_self .., rfl, (Option.some.inj h).symm⟩
    · rw [T.get_put_other _ _ _ _ hB] at h
      rcases addB_some ρ r t B y h with h | ⟨z, hz, h⟩
      · exact .inl h
      · exact .inr ⟨z, List.mem_cons_of_mem _ hz, h⟩

theorem entH_ok {A0 : AH} (hp : A0.plain = true) (hs0 : A0.shut = true) (hglob : P.globals.size ≤ A0.next) {el : TypeId} {E : Entry} {f : FuncId} {r : Option Res}
    (hspec : ∀ v A', r = some (.done v A') → CallSpec P f [.slice (some (A0.next, 0)) E.s.length none] (inA A0 el E.s) v A') (hok : entOk (inA A0 el E.s) A0.next E r = true)
    {args : List AV} {A : AH} {v : AV} {A' : AH} (h : entH A0 el E args A = some (v, A')) : CallSpec P f args A v A' := by
  unfold entH at h
  split at h
  rotate_left
  · cases h
  rename_i b n
  split at h
  rotate_left
  · cases h
  rename_i c el' hg
  cases hcond : (el'.beq el && n.beq E.s.length && sameVs c (cellsOfBytes E.s) && Nat.ble A0.next b && Nat.blt b A.next && Nat.ble A0.next A.next && A0.t.keys.all (fun k => sameBlk (A.get k) (A0.get k))) with
  | false => simp [hcond] at h
  | true =>
  simp only [hcond, cond_true, Option.some.injEq, Prod.mk.injEq] at h
  obtain ⟨rfl, rfl⟩ := h
  simp only [Bool.and_eq_true] at hcond
  obtain ⟨⟨⟨⟨⟨⟨q1, q2⟩, q3⟩, q4⟩, q5⟩, q6⟩, q7⟩ := hcond
  have e1 : el' = el := Nat.eq_of_beq_eq_true q1
  have e2 : n = E.s.length := Nat.eq_of_beq_eq_true q2
  have e3 := sameVs_eq q3
  subst e1; subst e2; subst e3
  have q4 := of_nble q4
  have q5 := of_nblt q5
  have q6 := of_nble q6
  cases hr : r with
  | none => rw [hr] at hok; cases hok
  | some r0 =>
  rw [hr] at hok
  cases r0 with
  | more => cases hok
  | done v0 A1' =>
  simp only [entOk, Bool.and_eq_true] at hok
  obtain ⟨⟨⟨o1, o2⟩, o3⟩, o4⟩ := hok
  have o1 := sameV_eq o1
  have o2 := Nat.eq_of_beq_eq_true o2
  have o3 := sameBlk_eq o3
  subst o1
  have hc := hspec _ _ hr
  obtain ⟨A1, hA1⟩ : ∃ A1, A1 = inA A0 el' E.s := ⟨_, rfl⟩
  rw [← hA1] at hc o2 o3
  have n1 : A1.next = A0.next + 1 := by rw [hA1]; rfl
  have g1 : A1.get A0.next = some (.cells (cellsOfBytes E.s) el' false) := by rw [hA1]; exact AH.get_new_same _ _
  have gk : ∀ k, k ≠ A0.next → A1.get k = A0.get k := fun k hk => by rw [hA1]; exact AH.get_new_other _ _ _ hk
  obtain ⟨ρ, hρ⟩ : ∃ ρ, ρ = rhoOf A0.next b A.next := ⟨_, rfl⟩
  rw [← hρ]
  have r1 : ∀ k, k < A0.next → ρ k = k := fun k hk => by rw [hρ]; simp [rhoOf, nblt_true hk]
  have r2 : ρ A0.next = b := by rw [hρ]; simp [rhoOf, nblt_false (Nat.lt_irrefl _)]
  have r3 : ∀ k, A0.next + 1 ≤ k → ρ k = A.next + (k - (A0.next + 1)) := fun k hk => by
    rw [hρ]; simp only [rhoOf, nblt_false (by omega : ¬ k < A0.next), nbeq_false (by omega : k ≠ A0.next), cond_false]
  have Em : Emb P ρ A1 A := {
    lt := fun k hk => by
      rw [n1] at hk
      by_cases h : k = A0.next
      · rw [h, r2]; exact q5
      · rw [r1 k (by omega)]; omega
    new := fun k hk => by rw [n1] at hk ⊢; exact r3 k hk
    inj := fun k k' hk hk' he => by
      rw [n1] at hk hk'
      by_cases h : k = A0.next
      · by_cases h' : k' = A0.next
        · omega
        · rw [h, r2, r1 k' (by omega)] at he; omega
      · by_cases h' : k' = A0.next
        · rw [h', r2, r1 k (by omega)] at he; omega
        · rw [r1 k (by omega), r1 k' (by omega)] at he; exact he
    top := fun k x hx => by
      rw [n1]
      by_cases h : k = A0.next
      · omega
      · rw [gk k h] at hx
        have := (AH.plain_cells hp hx).1; omega
    glob := fun g hg => ⟨r1 g (by omega), by omega⟩
    cells := fun k x hx => by
      by_cases h : k = A0.next
      · subst h
        rw [g1] at hx; cases hx
        exact ⟨_, _, _, false, rfl, by rw [r2, renL_bytes]; exact hg, fun _ => rfl⟩
      · rw [gk k h] at hx
        obtain ⟨hk, c0, e0, f0, rfl, hu⟩ := AH.plain_cells hp hx
        refine ⟨c0, e0, f0, f0, rfl, ?_, id⟩
        rw [r1 k hk, AV.renL_same r1 c0 hu]
        have := sameBlk_eq (List.all_eq_true.1 q7 k (T.mem_keys _ _ _ hx))
        rw [this, hx] }
  have hl := hc.lift Em
  simp only [AV.renL, AV.ren, r2] at hl
  -- what may have turned: the bytes' block, and what is new
  have mt : ∀ k, mayTurn A1 k = true → k = A0.next ∨ A0.next + 1 ≤ k := fun k hk => by
    rcases mayTurn_cases hk with h | ⟨c0, e0, h⟩
    · right; rw [n1] at h; exact h
    · by_cases h0 : k = A0.next
      · exact .inl h0
      · rw [gk k h0] at h
        obtain ⟨_, _, h⟩ := AH.shut_cells hs0 h
        cases h
  have hle1 : A1.next ≤ A1'.next := by omega
  intro m w args' hAg hla
  refine (hl.forget ?_ (fun B hB => ?_) (fun B x hB hx => ?_)) m w args' hAg hla
  · rw [lifted_next, o2]; simp only []; omega
  · have hold : (addB ρ E.bl A.t).get B = A.t.get B := by
      refine addB_next ρ 0 E.bl A.t B fun x hx he => ?_
      have := List.all_eq_true.1 o4 x hx
      simp only [Bool.and_eq_true] at this
      have h1 := of_nble this.1.1
      rw [r3 _ h1] at he; omega
    show (addB ρ E.bl A.t).get B = _
    rw [hold]
    by_cases hb : B = b
    · subst hb
      have hm : mayTurn A1 A0.next = true := by
        unfold mayTurn
        rw [g1]
        cases Nat.ble A1.next A0.next <;> rfl
      have := lifted_hit Em (A1' := A1') (b := A0.next) (by omega) hm
      rw [r2, o3, g1] at this
      rw [this]
      show A.get B = _
      rw [hg]; simp only [AB.lift, renL_bytes]
    · rw [lifted_miss fun k _ hm he => ?_]; rfl
      rcases mt k hm with rfl | hk
      · rw [r2] at he; exact hb he.symm
      · rw [r3 k hk] at he; omega
  · have hx : (addB ρ E.bl A.t).get B = some x := hx
    rcases addB_some ρ E.bl A.t B x hx with h | ⟨y, hy, rfl, rfl⟩
    · have := hAg.top B x h; omega
    · have := List.all_eq_true.1 o4 y hy
      simp only [Bool.and_eq_true] at this
      have h1 := of_nble this.1.1
      have h2 := of_nblt this.1.2
      have h3 := sameBlk_eq this.2
      have hm : mayTurn A1 y.1 = true := by
        unfold mayTurn
        rw [Nat.ble_eq_true_of_le (by omega : A1.next ≤ y.1)]; rfl
      rw [lifted_hit Em h2 hm, h3]; rfl

/-- the same, over no bytes -/
def entNilH (A0 : AH) (E : Entry) (args : List AV) (A : AH) : Option (AV × AH) :=
  match args with
  | [.slice none 0 (some 0)] =>
      bif Nat.ble A0.next A.next && A0.t.keys.all (fun k => sameBlk (A.get k) (A0.get k)) then
        some (E.v.ren (shiftTo A0.next A.next), ⟨A.next + E.grow, addB (shiftTo A0.next A.next) E.bl A.t⟩)
      else none
  | _ => none

def entNilOk (A0 : AH) (E : Entry) : Option Res → Bool
  | some (.done v A') => sameV v E.v && Nat.beq A'.next (A0.next + E.grow) && E.bl.all fun x => Nat.ble A0.next x.1 && Nat.blt x.1 A'.next && sameBlk (A'.get x.1) (some (.cells x.2.1 x.2.2.1 x.2.2.2))
  | _ => false

theorem entNilH_ok {A0 : AH} (hp : A0.plain = true) (hs0 : A0.shut = true) (hglob : P.globals.size ≤ A0.next) {E : Entry} {f : FuncId} {r : Option Res}
    (hspec : ∀ v A', r = some (.done v A') → CallSpec P f [.slice none 0 (some 0)] A0 v A') (hok : entNilOk A0 E r = true)
    {args : List AV} {A : AH} {v : AV} {A' : AH} (h : entNilH A0 E args A = some (v, A')) : CallSpec P f args A v A' := by
  unfold entNilH at h
  split at h
  rotate_left
  · cases h
  cases hcond : (Nat.ble A0.next A.next && A0.t.keys.all (fun k => sameBlk (A.get k) (A0.get k))) with
  | false => simp [hcond] at h
  | true =>
  simp only [hcond, cond_true, Option.some.injEq, Prod.mk.injEq] at h
  obtain ⟨rfl, rfl⟩ := h
  simp only [Bool.and_eq_true] at hcond
  obtain ⟨q6, q7⟩ := hcond
  have q6 := of_nble q6
  cases hr : r with
  | none => rw [hr] at hok; cases hok
  | some r0 =>
  rw [hr] at hok
  cases r0 with
  | more => cases hok
  | done v0 A1' =>
  simp only [entNilOk, Bool.and_eq_true] at hok
  obtain ⟨⟨o1, o2⟩, o4⟩ := hok
  have o1 := sameV_eq o1
  have o2 := Nat.eq_of_beq_eq_true o2
  subst o1
  have hc := hspec _ _ hr
  have Em : Emb P (shiftTo A0.next A.next) A0 A := Emb.of_plain hp hglob q6 fun b x hx => by
    have := sameBlk_eq (List.all_eq_true.1 q7 b (T.mem_keys _ _ _ hx))
    rw [this, hx]
  obtain ⟨ρ, hρ⟩ : ∃ ρ, ρ = shiftTo A0.next A.next := ⟨_, rfl⟩
  rw [← hρ] at Em ⊢
  have r3 : ∀ k, A0.next ≤ k → ρ k = A.next + (k - A0.next) := fun k hk => Em.new k hk
  have hl := hc.lift Em
  simp only [AV.renL, AV.ren] at hl
  intro m w args' hAg hla
  refine (hl.forget ?_ (fun B hB => ?_) (fun B x hB hx => ?_)) m w args' hAg hla
  · rw [lifted_next, o2]; simp only []; omega
  · have hold : (addB ρ E.bl A.t).get B = A.t.get B := by
      refine addB_next ρ 0 E.bl A.t B fun x hx he => ?_
      have := List.all_eq_true.1 o4 x hx
      simp only [Bool.and_eq_true] at this
      have h1 := of_nble this.1.1
      rw [r3 _ h1] at he; omega
    show (addB ρ E.bl A.t).get B = _
    rw [hold, lifted_old Em hs0 hB]; rfl
  · have hx : (addB ρ E.bl A.t).get B = some x := hx
    rcases addB_some ρ E.bl A.t B x hx with h | ⟨y, hy, rfl, rfl⟩
    · have := hAg.top B x h; omega
    · have := List.all_eq_true.1 o4 y hy
      simp only [Bool.and_eq_true] at this
      have h1 := of_nble this.1.1
      have h2 := of_nblt this.1.2
      have h3 := sameBlk_eq this.2
      have hm : mayTurn A0 y.1 = true := by
        unfold mayTurn
        rw [Nat.ble_eq_true_of_le h1]; rfl
      rw [lifted_hit Em h2 hm, h3]; rfl

end Go.Fold

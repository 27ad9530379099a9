/-
  A part of the road: an evaluator over abstract memory with a proved simulation, and what is reckoned by it. Written by an AI agent; no person has read it.
-/
import Derived.Test.YtebjajchdidnfaaGreatDoorFoldRel
set_option linter.all false
namespace Go.Fold

def ADR (m : Map) : ADef → Deferred → Prop
  | .call f cap args, d => ∃ f' cap', d.target = .fn f' cap' ∧ FR m f f' ∧ LR m cap cap'.toList ∧ LR m args d.args.toList
  | .collected b, d => ∃ x, m b = some x ∧ d.target = .collected x.blk

inductive DR (m : Map) : List ADef → List Deferred → Prop
  | nil : DR m [] []
  | cons {a : ADef} {d : Deferred} {as : List ADef} {ds : List Deferred} (h : ADR m a d) (hs : DR m as ds) : DR m (a :: as) (d :: ds)

theorem ADR.mono {m m' : Map} (h : m.le m') {a : ADef} {d : Deferred} (hd : ADR m a d) : ADR m' a d := by
  cases a with
  | call f cap args => obtain ⟨f', cap', h1, h2, h3, h4⟩ := hd; exact ⟨f', cap', h1, h2.mono h, LR.mono h h3, LR.mono h h4⟩
  | collected b => obtain ⟨x, hx, r⟩ := hd; exact ⟨x, h _ _ hx, r⟩

theorem DR.mono {m m' : Map} (h : m.le m') {a : List ADef} {d : List Deferred} (hd : DR m a d) : DR m' a d := by
  induction hd with
  | nil => exact .nil
  | cons h1 _ ih => exact .cons (h1.mono h) ih

theorem DR.append {m : Map} {a b : List ADef} {d e : List Deferred} (h : DR m a d) (h' : DR m b e) : DR m (a ++ b) (d ++ e) := by
  induction h with
  | nil => exact h'
  | cons h1 _ ih => exact .cons h1 ih

/-- how a block stands to an object -/
def BR (P : Program) (m : Map) (x : Img) : AB → Obj → Prop
  | .cells c e fz, o => ∃ (cs : Array Value) (e' : TypeId) (fr : Nat × Nat), o = .cells cs e' fr ∧ (fz = false → e' = e ∧ x.sz ∣ x.sh ∧ x.sz ∣ x.tot) ∧ cs.size = x.tot ∧ x.sz = P.cellsOf e ∧ x.sh + c.length ≤ x.tot ∧
      LR m c ((cs.toList.drop x.sh).take c.length) ∧ (fz = false → fr.1 = fr.2 ∨ (x.tot ≤ fr.1 ∧ P.underlying e = some (.int .u8)))
  | .loop l, o => ∃ l' : Loop, o = .loop l' ∧ l'.state = l.state ∧ l'.pending = l.pending ∧ l'.fn = l.fn ∧ TR m l.tmps l'.tmps ∧ l'.params.toList = l.params ∧
      l'.assign = l.assign ∧ l'.body = l.body ∧ ∃ y, m l.defers = some y ∧ l'.defers = y.blk
  | .dfr none, o => o = .deferred none
  | .dfr (some ds), o => ∃ ds', o = .deferred (some ds') ∧ DR m ds ds'
  | .siter s pos, o => x.sh = 0 ∧ ∃ b, o = .stringIter b pos ∧ bytes b = s
  | .dead, _ => True

theorem BR.mono {P : Program} {m m' : Map} (h : m.le m') {x : Img} {b : AB} {o : Obj} (hb : BR P m x b o) : BR P m' x b o := by
  cases b with
  | cells c e fz => obtain ⟨cs, e', fr, h1, h0, h2, h3, h4, h5, h6⟩ := hb; exact ⟨cs, e', fr, h1, h0, h2, h3, h4, LR.mono h h5, h6⟩
  | loop l => obtain ⟨l', h1, h2, h3, h4, h5, h6, h7, h8, y, hy, h9⟩ := hb; exact ⟨l', h1, h2, h3, h4, h5.mono h, h6, h7, h8, y, h _ _ hy, h9⟩
  | dfr c =>
    cases c with
    | none => exact hb
    | some ds => obtain ⟨ds', h1, h2⟩ := hb; exact ⟨ds', h1, h2.mono h⟩
  | siter s pos => exact hb
  | dead => trivial

def AB.ro : AB → Bool
  | .cells _ _ true => true
  | _ => false
def AB.wr : AB → Bool
  | .cells _ _ false | .loop _ | .dfr _ | .siter .. => true
  | _ => false

/-- what may be looked up -/
structure Look (P : Program) (m : Map) (A : AH) (w : World) : Prop where
  glob : Glob P m
  blk : ∀ B x b, m B = some x → A.get B = some b → ∃ o, w.heap[x.blk]? = some o ∧ BR P m x b o

/-- the abstract heap tells of the world -/
structure Agree (P : Program) (m : Map) (A : AH) (w : World) : Prop extends Look P m A w where
  lt : ∀ B x, m B = some x → B < A.next ∧ x.blk < w.heap.size
  inj : ∀ B B' x x' b b', m B = some x → A.get B = some b → b.wr = true → m B' = some x' → A.get B' = some b' → b' ≠ .dead → x.blk = x'.blk → B = B'
  top : ∀ B b, A.get B = some b → B < A.next

structure Sim (P : Program) (m : Map) (A : AH) (w : World) (m' : Map) (A' : AH) (w' : World) : Prop where
  agree : Agree P m' A' w'
  le : m.le m'
  new : ∀ B x, m' B = some x → m B = some x ∨ (A.next ≤ B ∧ (w.heap.size ≤ x.blk ∨ ∃ B₀ x₀ b₀, m B₀ = some x₀ ∧ x₀.blk = x.blk ∧ A.get B₀ = some b₀ ∧ b₀.wr = true))
  next : A.next ≤ A'.next
  kept : ∀ r, r < w.heap.size → (∀ B x b, m B = some x → x.blk = r → A.get B = some b → b.wr = false) → w'.heap[r]? = w.heap[r]?
  heap : w.heap.size ≤ w'.heap.size
  env : w'.os = w.os ∧ w'.tape = w.tape ∧ w'.output = w.output
  old : ∀ B, B < A.next → ∀ b', A'.get B = some b' → b'.wr = true → ∃ b, A.get B = some b ∧ b.wr = true
  live : ∀ B, B < A.next → ∀ b', A'.get B = some b' → b' ≠ .dead → ∃ b, A.get B = some b ∧ b ≠ .dead
  ro : ∀ B, B < A.next → ∀ b, A.get B = some b → b.ro = true → A'.get B = some b
  loc : ∀ B, B < A.next → m B = none → A'.get B = A.get B
  cov : ∀ B, A.next ≤ B → B < A'.next → m' B ≠ none

theorem no_room {m : Map} {n : Nat} : ∀ B, n ≤ B → B < n → m B ≠ none := fun _ h h' => absurd h' (Nat.not_lt.2 h)

theorem Sim.refl {P : Program} {m : Map} {A : AH} {w : World} (h : Agree P m A w) : Sim P m A w m A w :=
  ⟨h, .refl m, fun _ _ hx => .inl hx, Nat.le_refl _, fun _ _ _ => rfl, Nat.le_refl _, ⟨rfl, rfl, rfl⟩, fun _ _ b hb hw => ⟨b, hb, hw⟩, fun _ _ b hb hw => ⟨b, hb, hw⟩, fun _ _ _ hb _ => hb, fun _ _ _ => rfl, no_room⟩

theorem Sim.trans {P : Program} {m m1 m2 : Map} {A A1 A2 : AH} {w w1 w2 : World} (h0 : Agree P m A w) (h : Sim P m A w m1 A1 w1) (k : Sim P m1 A1 w1 m2 A2 w2) :
    Sim P m A w m2 A2 w2 where
  agree := k.agree
  le := h.le.trans k.le
  new := fun B x hx => by
    rcases k.new B x hx with h1 | ⟨hB, h2⟩
    · exact h.new B x h1
    · refine .inr ⟨Nat.le_trans h.next hB, ?_⟩
      rcases h2 with h2 | ⟨B₀, x₀, b₀, hm, hblk, hg, hw⟩
      · exact .inl (Nat.le_trans h.heap h2)
      · rcases h.new B₀ x₀ hm with h3 | ⟨_, h3⟩
        · obtain ⟨b, hb, hbw⟩ := h.old B₀ (h0.lt _ _ h3).1 b₀ hg hw
          exact .inr ⟨B₀, x₀, b, h3, hblk, hb, hbw⟩
        · rcases h3 with h3 | ⟨B₁, x₁, b₁, hm1, hblk1, hg1, hw1⟩
          · exact .inl (hblk ▸ h3)
          · exact .inr ⟨B₁, x₁, b₁, hm1, hblk1.trans hblk, hg1, hw1⟩
  next := Nat.le_trans h.next k.next
  kept := fun r hr hc => by
    rw [k.kept r (Nat.lt_of_lt_of_le hr h.heap) ?_, h.kept r hr hc]
    intro B x b hm hblk hg
    cases hw : b.wr with
    | false => rfl
    | true =>
      exfalso
      rcases h.new B x hm with h1 | ⟨hB, h2⟩
      · obtain ⟨b0, hb0, hbw⟩ := h.old B (h0.lt _ _ h1).1 b hg hw
        have := hc B x b0 h1 hblk hb0
        rw [hbw] at this; exact absurd this (by simp)
      · rcases h2 with h2 | ⟨B₀, x₀, b₀, hm0, hblk0, hg0, hw0⟩
        · omega
        · have := hc B₀ x₀ b₀ hm0 (hblk0.trans hblk) hg0
          rw [hw0] at this; exact absurd this (by simp)
  heap := Nat.le_trans h.heap k.heap
  env := ⟨k.env.1.trans h.env.1, k.env.2.1.trans h.env.2.1, k.env.2.2.trans h.env.2.2⟩
  old := fun B hB b' hb' hw' => by
    obtain ⟨b1, hb1, hw1⟩ := k.old B (Nat.lt_of_lt_of_le hB h.next) b' hb' hw'
    exact h.old B hB b1 hb1 hw1
  live := fun B hB b' hb' hw' => by
    obtain ⟨b1, hb1, hw1⟩ := k.live B (Nat.lt_of_lt_of_le hB h.next) b' hb' hw'
    exact h.live B hB b1 hb1 hw1
  ro := fun B hB b hb hr => k.ro B (Nat.lt_of_lt_of_le hB h.next) b (h.ro B hB b hb hr) hr
  loc := fun B hB hm => by
    rw [k.loc B (Nat.lt_of_lt_of_le hB h.next) ?_, h.loc B hB hm]
    cases h1 : m1 B with
    | none => rfl
    | some x =>
      rcases h.new B x h1 with h2 | ⟨h2, _⟩
      · rw [hm] at h2; cases h2
      · omega
  cov := fun B hB hB' => by
    by_cases h1 : B < A1.next
    · cases h2 : m1 B with
      | none => exact absurd h2 (h.cov B hB h1)
      | some x => rw [k.le _ _ h2]; exact fun e => by cases e
    · exact k.cov B (by omega) hB'

theorem Agree.of_heap {P : Program} {m : Map} {A : AH} {w w' : World} (h : Agree P m A w) (hh : w'.heap = w.heap) : Agree P m A w' :=
  ⟨⟨h.glob, fun B x b hx hb => by rw [hh]; exact h.blk B x b hx hb⟩, fun B x hx => by rw [hh]; exact h.lt B x hx, h.inj, h.top⟩

theorem Sim.of_heap {P : Program} {m : Map} {A : AH} {w w' : World} (h : Agree P m A w) (hh : w'.heap = w.heap) (ho : w'.os = w.os) (ht : w'.tape = w.tape) (hp : w'.output = w.output) :
    Sim P m A w m A w' :=
  ⟨h.of_heap hh, .refl m, fun _ _ hx => .inl hx, Nat.le_refl _, fun _ _ _ => by rw [hh], by rw [hh]; exact Nat.le_refl _, ⟨ho, ht, hp⟩, fun _ _ b hb hw => ⟨b, hb, hw⟩, fun _ _ b hb hw => ⟨b, hb, hw⟩, fun _ _ _ hb _ => hb, fun _ _ _ => rfl, no_room⟩

theorem Sim.drew {P : Program} {m : Map} {A : AH} {w : World} (h : Agree P m A w) (n : Nat) : Sim P m A w m A { w with drawn := n } :=
  .of_heap h rfl rfl rfl rfl

/-- one more block -/
def Map.plus (m : Map) (B : Nat) (x : Img) : Map := fun b => if b = B then some x else m b

theorem Map.plus_same (m : Map) (B : Nat) (x : Img) : m.plus B x B = some x := by simp [Map.plus]
theorem Map.plus_other (m : Map) (B b : Nat) (x : Img) (h : b ≠ B) : m.plus B x b = m b := by simp [Map.plus, h]
theorem Map.le_plus {m : Map} {B : Nat} {x : Img} (h : m B = none) : m.le (m.plus B x) := fun b y hb => by
  by_cases hB : b = B
  · subst hB; rw [h] at hb; cases hb
  · rw [Map.plus_other _ _ _ _ hB]; exact hb

theorem Agree.none_next {P : Program} {m : Map} {A : AH} {w : World} (h : Agree P m A w) : m A.next = none := by
  cases hx : m A.next with
  | none => rfl
  | some x => exact absurd (h.lt _ _ hx).1 (Nat.lt_irrefl _)

theorem push_get_old {α : Type} (a : Array α) (x : α) (i : Nat) (h : i < a.size) : (a.push x)[i]? = a[i]? := by
  rw [Array.getElem?_push, if_neg (by omega)]

theorem Sim.alloc {P : Program} {m : Map} {A : AH} {w : World} (h : Agree P m A w) (b : AB) (o : Obj) (x : Img) (hx : x.blk = w.heap.size)
    {w' : World} (hw' : w'.heap = w.heap.push o) (he : w'.os = w.os ∧ w'.tape = w.tape ∧ w'.output = w.output) (hb : BR P (m.plus A.next x) x b o) : Sim P m A w (m.plus A.next x) (A.new b) w' := by
  have hle : m.le (m.plus A.next x) := Map.le_plus h.none_next
  refine ⟨⟨⟨h.glob.mono hle, ?_⟩, ?_, ?_, ?_⟩, hle, ?_, by simp [AH.next_new], ?_, by rw [hw']; simp, he, ?_, ?_, ?_, ?_, fun B hB hB' => by
      have : B = A.next := by simp only [AH.next_new] at hB'; omega
      rw [this, Map.plus_same]; exact fun e => by cases e⟩
  rotate_left
  · intro B y hy
    by_cases hB : B = A.next
    · subst hB; rw [Map.plus_same] at hy; cases hy
      simp [AH.next_new, hx, hw']
    · rw [Map.plus_other _ _ _ _ hB] at hy
      have := h.lt _ _ hy
      simp [AH.next_new, hw']; omega
  rotate_right
  · rw [hw']
    intro B y b' hy hb'
    by_cases hB : B = A.next
    · subst hB; rw [Map.plus_same] at hy; cases hy
      rw [AH.get_new_same] at hb'; cases hb'
      exact ⟨o, by simp [hx], hb⟩
    · rw [Map.plus_other _ _ _ _ hB] at hy
      rw [AH.get_new_other _ _ _ hB] at hb'
      obtain ⟨o', ho', hr⟩ := h.blk _ _ _ hy hb'
      exact ⟨o', by rw [push_get_old _ _ _ (h.lt _ _ hy).2]; exact ho', hr.mono hle⟩
  · intro B B' y y' c c' hy hc hw hy' hc' hd heq
    by_cases hB : B = A.next
    · subst hB
      by_cases hB' : B' = A.next
      · exact hB'.symm
      · rw [Map.plus_same] at hy; cases hy
        rw [Map.plus_other _ _ _ _ hB'] at hy'
        have := (h.lt _ _ hy').2
        omega
    · by_cases hB' : B' = A.next
      · subst hB'
        rw [Map.plus_same] at hy'; cases hy'
        rw [Map.plus_other _ _ _ _ hB] at hy
        have := (h.lt _ _ hy).2
        omega
      · rw [Map.plus_other _ _ _ _ hB] at hy
        rw [Map.plus_other _ _ _ _ hB'] at hy'
        rw [AH.get_new_other _ _ _ hB] at hc
        rw [AH.get_new_other _ _ _ hB'] at hc'
        exact h.inj _ _ _ _ _ _ hy hc hw hy' hc' hd heq
  · intro B b' hb'
    by_cases hB : B = A.next
    · subst hB; simp [AH.next_new]
    · rw [AH.get_new_other _ _ _ hB] at hb'
      have := h.top _ _ hb'
      simp [AH.next_new]; omega
  · intro B y hy
    by_cases hB : B = A.next
    · subst hB; rw [Map.plus_same] at hy; cases hy
      exact .inr ⟨Nat.le_refl _, .inl (by omega)⟩
    · rw [Map.plus_other _ _ _ _ hB] at hy; exact .inl hy
  · intro r hr _; rw [hw']; exact push_get_old _ _ _ hr
  · intro B hB b' hb' hw
    rw [AH.get_new_other _ _ _ (by omega)] at hb'
    exact ⟨b', hb', hw⟩
  · intro B hB b' hb' hw
    rw [AH.get_new_other _ _ _ (by omega)] at hb'
    exact ⟨b', hb', hw⟩
  · intro B hB b' hb' _
    rw [AH.get_new_other _ _ _ (by omega)]; exact hb'
  · intro B hB _
    rw [AH.get_new_other _ _ _ (by omega)]

/-- a block that may be written turns -/
theorem Sim.turn {P : Program} {m : Map} {A : AH} {w w' : World} (h : Agree P m A w) (B : Nat) (x : Img) (b b' : AB) (o' : Obj) (hm : m B = some x) (hg : A.get B = some b) (hw : b.wr = true)
    (hw' : w'.heap = w.heap.setIfInBounds x.blk o') (he : w'.os = w.os ∧ w'.tape = w.tape ∧ w'.output = w.output) (hb' : BR P m x b' o') : Sim P m A w m (A.put B b') w' := by
  have hlt := h.lt _ _ hm
  refine ⟨⟨⟨h.glob, ?_⟩, ?_, ?_, ?_⟩, .refl m, fun _ _ hx => .inl hx, by simp [AH.next_put], ?_, by simp [hw'], he, ?_, ?_, ?_, ?_, fun B hB hB' => by simp only [AH.next_put] at hB'; omega⟩
  rotate_left
  · intro C y hy; have := h.lt _ _ hy; simpa [AH.next_put, hw'] using this
  rotate_right
  · intro C y c hy hc
    by_cases hC : C = B
    · subst hC
      rw [hm] at hy; cases hy
      rw [AH.get_put_same] at hc; cases hc
      exact ⟨o', by simp [hw', hlt.2], hb'⟩
    · rw [AH.get_put_other _ _ _ _ hC] at hc
      obtain ⟨o, ho, hr⟩ := h.blk _ _ _ hy hc
      by_cases hd : c = .dead
      · subst hd
        have := (h.lt _ _ hy).2
        have hlt2 : y.blk < w'.heap.size := by simpa [hw'] using this
        exact ⟨w'.heap[y.blk], by simp [hlt2], trivial⟩
      · have hne : x.blk ≠ y.blk := fun e => hC (h.inj _ _ _ _ _ _ hm hg hw hy hc hd e).symm
        exact ⟨o, by rw [hw', Array.getElem?_setIfInBounds_ne hne]; exact ho, hr⟩
  · intro C C' y y' c c' hy hc hcw hy' hc' hd heq
    by_cases hC : C = B
    · by_cases hC' : C' = B
      · rw [hC, hC']
      · subst hC
        rw [AH.get_put_other _ _ _ _ hC'] at hc'
        rw [hm] at hy; cases hy
        exact h.inj _ _ _ _ _ _ hm hg hw hy' hc' hd heq
    · rw [AH.get_put_other _ _ _ _ hC] at hc
      by_cases hC' : C' = B
      · subst hC'
        rw [hm] at hy'; cases hy'
        exact h.inj _ _ _ _ _ _ hy hc hcw hm hg (fun e => by subst e; simp [AB.wr] at hw) heq
      · rw [AH.get_put_other _ _ _ _ hC'] at hc'
        exact h.inj _ _ _ _ _ _ hy hc hcw hy' hc' hd heq
  · intro C c hc
    by_cases hC : C = B
    · subst hC; exact hlt.1
    · rw [AH.get_put_other _ _ _ _ hC] at hc; exact h.top _ _ hc
  · intro r hr hc
    have hne : x.blk ≠ r := fun e => by
      have := hc B x b hm e hg
      rw [hw] at this; exact absurd this (by simp)
    rw [hw', Array.getElem?_setIfInBounds_ne hne]
  · intro C _ c hc hcw
    by_cases hC : C = B
    · subst hC; exact ⟨b, hg, hw⟩
    · rw [AH.get_put_other _ _ _ _ hC] at hc; exact ⟨c, hc, hcw⟩
  · intro C _ c hc hcw
    by_cases hC : C = B
    · subst hC; exact ⟨b, hg, fun e => by subst e; simp [AB.wr] at hw⟩
    · rw [AH.get_put_other _ _ _ _ hC] at hc; exact ⟨c, hc, hcw⟩
  · intro C _ c hc hcr
    by_cases hC : C = B
    · subst hC
      rw [hg] at hc; cases hc
      exfalso
      cases b with
      | cells c e fz => cases fz <;> simp [AB.wr, AB.ro] at hw hcr
      | _ => simp [AB.ro] at hcr
    · rw [AH.get_put_other _ _ _ _ hC]; exact hc
  · intro C _ hc
    have hC : C ≠ B := fun e => by subst e; rw [hm] at hc; cases hc
    rw [AH.get_put_other _ _ _ _ hC]

/-- a block that may be written is handed on under a new number (an append in place) -/
theorem Sim.hand {P : Program} {m : Map} {A : AH} {w w' : World} (h : Agree P m A w) (B : Nat) (x y : Img) (b b' : AB) (o' : Obj) (hm : m B = some x) (hg : A.get B = some b) (hw : b.wr = true)
    (hy : y.blk = x.blk) (hw' : w'.heap = w.heap.setIfInBounds x.blk o') (he : w'.os = w.os ∧ w'.tape = w.tape ∧ w'.output = w.output) (hb' : BR P (m.plus A.next y) y b' o') :
    Sim P m A w (m.plus A.next y) ((A.put B .dead).new b') w' := by
  have hlt := h.lt _ _ hm
  have hle : m.le (m.plus A.next y) := Map.le_plus h.none_next
  have hBn : B ≠ A.next := by omega
  refine ⟨⟨⟨h.glob.mono hle, ?_⟩, ?_, ?_, ?_⟩, hle, ?_, by simp [AH.next_put, AH.next_new], ?_, by simp [hw'], he, ?_, ?_, ?_, ?_, fun B hB hB' => by
      have : B = A.next := by simp only [AH.next_put, AH.next_new] at hB'; omega
      rw [this, Map.plus_same]; exact fun e => by cases e⟩
  rotate_left
  · intro C z hz
    by_cases hC : C = A.next
    · subst hC; rw [Map.plus_same] at hz; cases hz
      simp [AH.next_put, AH.next_new, hw', hy, hlt.2]
    · rw [Map.plus_other _ _ _ _ hC] at hz
      have := h.lt _ _ hz
      simp [AH.next_put, AH.next_new, hw']; omega
  rotate_right
  · intro C z c hz hc
    by_cases hC : C = A.next
    · subst hC
      rw [Map.plus_same] at hz; cases hz
      have hc2 : ((A.put B .dead).new b').get A.next = some b' := AH.get_new_same (A.put B .dead) b'
      rw [hc2] at hc; cases hc
      exact ⟨o', by rw [hw', hy]; simp [hlt.2], hb'⟩
    · rw [Map.plus_other _ _ _ _ hC] at hz
      have hc2 : ((A.put B .dead).new b').get C = (A.put B .dead).get C := AH.get_new_other (A.put B .dead) C b' hC
      rw [hc2] at hc
      have hzl := (h.lt _ _ hz).2
      have hlt2 : z.blk < w'.heap.size := by simpa [hw'] using hzl
      by_cases hCB : C = B
      · subst hCB
        rw [AH.get_put_same] at hc; cases hc
        exact ⟨w'.heap[z.blk], by simp [hlt2], trivial⟩
      · rw [AH.get_put_other _ _ _ _ hCB] at hc
        obtain ⟨o, ho, hr⟩ := h.blk _ _ _ hz hc
        by_cases hd : c = .dead
        · subst hd
          exact ⟨w'.heap[z.blk], by simp [hlt2], trivial⟩
        · have hne : x.blk ≠ z.blk := fun e => hCB (h.inj _ _ _ _ _ _ hm hg hw hz hc hd e).symm
          exact ⟨o, by rw [hw', Array.getElem?_setIfInBounds_ne hne]; exact ho, hr.mono hle⟩
  · have other : ∀ C z c, C ≠ A.next → m.plus A.next y C = some z → ((A.put B .dead).new b').get C = some c → c ≠ .dead → C ≠ B ∧ m C = some z ∧ A.get C = some c := by
      intro C z c hC hz hc hd
      rw [Map.plus_other _ _ _ _ hC] at hz
      have hc2 : ((A.put B .dead).new b').get C = (A.put B .dead).get C := AH.get_new_other (A.put B .dead) C b' hC
      rw [hc2] at hc
      by_cases hCB : C = B
      · subst hCB; rw [AH.get_put_same] at hc; cases hc; exact absurd rfl hd
      · rw [AH.get_put_other _ _ _ _ hCB] at hc; exact ⟨hCB, hz, hc⟩
    intro C C' z z' c c' hz hc hcw hz' hc' hd heq
    have hcd : c ≠ .dead := fun e => by subst e; simp [AB.wr] at hcw
    by_cases hC : C = A.next
    · by_cases hC' : C' = A.next
      · rw [hC, hC']
      · obtain ⟨h1, h2, h3⟩ := other C' z' c' hC' hz' hc' hd
        subst hC; rw [Map.plus_same] at hz; cases hz
        exact absurd (h.inj _ _ _ _ _ _ hm hg hw h2 h3 hd (hy.symm.trans heq)).symm h1
    · obtain ⟨h1, h2, h3⟩ := other C z c hC hz hc hcd
      by_cases hC' : C' = A.next
      · subst hC'; rw [Map.plus_same] at hz'; cases hz'
        exact absurd (h.inj _ _ _ _ _ _ h2 h3 hcw hm hg (fun e => by subst e; simp [AB.wr] at hw) (heq.trans hy)) h1
      · obtain ⟨_, h5, h6⟩ := other C' z' c' hC' hz' hc' hd
        exact h.inj _ _ _ _ _ _ h2 h3 hcw h5 h6 hd heq
  · intro C c hc
    by_cases hC : C = A.next
    · subst hC; simp [AH.next_put, AH.next_new]
    · have hc2 : ((A.put B .dead).new b').get C = (A.put B .dead).get C := AH.get_new_other (A.put B .dead) C b' hC
      rw [hc2] at hc
      have : C < A.next := by
        by_cases hCB : C = B
        · subst hCB; exact hlt.1
        · rw [AH.get_put_other _ _ _ _ hCB] at hc; exact h.top _ _ hc
      simp [AH.next_put, AH.next_new]; omega
  · intro C z hz
    by_cases hC : C = A.next
    · subst hC; rw [Map.plus_same] at hz; cases hz
      exact .inr ⟨Nat.le_refl _, .inr ⟨B, x, b, hm, hy.symm, hg, hw⟩⟩
    · rw [Map.plus_other _ _ _ _ hC] at hz; exact .inl hz
  · intro r hr hc
    have hne : x.blk ≠ r := fun e => by
      have := hc B x b hm e hg
      rw [hw] at this; exact absurd this (by simp)
    rw [hw', Array.getElem?_setIfInBounds_ne hne]
  · intro C hC c hc hcw
    have hc2 : ((A.put B .dead).new b').get C = (A.put B .dead).get C := AH.get_new_other (A.put B .dead) C b' (by show C ≠ A.next; omega)
    rw [hc2] at hc
    by_cases hCB : C = B
    · subst hCB; exact ⟨b, hg, hw⟩
    · rw [AH.get_put_other _ _ _ _ hCB] at hc; exact ⟨c, hc, hcw⟩
  · intro C hC c hc hcw
    have hc2 : ((A.put B .dead).new b').get C = (A.put B .dead).get C := AH.get_new_other (A.put B .dead) C b' (by show C ≠ A.next; omega)
    rw [hc2] at hc
    by_cases hCB : C = B
    · subst hCB; exact ⟨b, hg, fun e => by subst e; simp [AB.wr] at hw⟩
    · rw [AH.get_put_other _ _ _ _ hCB] at hc; exact ⟨c, hc, hcw⟩
  · intro C hC c hc hcr
    have hc2 : ((A.put B .dead).new b').get C = (A.put B .dead).get C := AH.get_new_other (A.put B .dead) C b' (by show C ≠ A.next; omega)
    rw [hc2]
    by_cases hCB : C = B
    · subst hCB
      rw [hg] at hc; cases hc
      exfalso
      cases b with
      | cells c e fz => cases fz <;> simp [AB.wr, AB.ro] at hw hcr
      | _ => simp [AB.ro] at hcr
    · rw [AH.get_put_other _ _ _ _ hCB]; exact hc
  · intro C hC hc
    have hc2 : ((A.put B .dead).new b').get C = (A.put B .dead).get C := AH.get_new_other (A.put B .dead) C b' (by show C ≠ A.next; omega)
    have hCB : C ≠ B := fun e => by subst e; rw [hm] at hc; cases hc
    rw [hc2, AH.get_put_other _ _ _ _ hCB]

/-- the old block is let go, and what was made stands in new memory -/
theorem Sim.lose {P : Program} {m : Map} {A : AH} {w : World} (h : Agree P m A w) (B : Nat) (x : Img) (b : AB) (hm : m B = some x) (hg : A.get B = some b) (hw : b.wr = true) : Sim P m A w m (A.put B .dead) w := by
  refine ⟨⟨⟨h.glob, ?_⟩, h.lt, ?_, ?_⟩, .refl m, fun _ _ hx => .inl hx, by simp [AH.next_put], fun _ _ _ => rfl, Nat.le_refl _, ⟨rfl, rfl, rfl⟩, ?_, ?_, ?_, ?_, fun B hB hB' => by simp only [AH.next_put] at hB'; omega⟩
  · intro C y c hy hc
    by_cases hC : C = B
    · subst hC
      rw [AH.get_put_same] at hc; cases hc
      have := (h.lt _ _ hy).2
      exact ⟨w.heap[y.blk], by simp [this], trivial⟩
    · rw [AH.get_put_other _ _ _ _ hC] at hc; exact h.blk _ _ _ hy hc
  · intro C C' z z' c c' hz hc hcw hz' hc' hd heq
    have h1 : C ≠ B := fun e => by subst e; rw [AH.get_put_same] at hc; cases hc; simp [AB.wr] at hcw
    have h2 : C' ≠ B := fun e => by subst e; rw [AH.get_put_same] at hc'; cases hc'; exact hd rfl
    rw [AH.get_put_other _ _ _ _ h1] at hc
    rw [AH.get_put_other _ _ _ _ h2] at hc'
    exact h.inj _ _ _ _ _ _ hz hc hcw hz' hc' hd heq
  · intro C c hc
    by_cases hC : C = B
    · subst hC; exact (h.lt _ _ hm).1
    · rw [AH.get_put_other _ _ _ _ hC] at hc; exact h.top _ _ hc
  · intro C _ c hc hcw
    by_cases hC : C = B
    · subst hC; exact ⟨b, hg, hw⟩
    · rw [AH.get_put_other _ _ _ _ hC] at hc; exact ⟨c, hc, hcw⟩
  · intro C _ c hc hcw
    by_cases hC : C = B
    · subst hC; exact ⟨b, hg, fun e => by subst e; simp [AB.wr] at hw⟩
    · rw [AH.get_put_other _ _ _ _ hC] at hc; exact ⟨c, hc, hcw⟩
  · intro C _ c hc hcr
    by_cases hC : C = B
    · subst hC
      rw [hg] at hc; cases hc
      exfalso
      cases b with
      | cells c e fz => cases fz <;> simp [AB.wr, AB.ro] at hw hcr
      | _ => simp [AB.ro] at hcr
    · rw [AH.get_put_other _ _ _ _ hC]; exact hc
  · intro C _ hc
    have hC : C ≠ B := fun e => by subst e; rw [hm] at hc; cases hc
    rw [AH.get_put_other _ _ _ _ hC]

/-- the same abstract heap, written otherwise -/
theorem Sim.congr {P : Program} {m m' : Map} {A A1 A2 : AH} {w w' : World} (h : Sim P m A w m' A1 w') (hn : A1.next = A2.next) (hg : ∀ B, A1.get B = A2.get B) : Sim P m A w m' A2 w' where
  agree := ⟨⟨h.agree.glob, fun B x b hx hb => h.agree.blk B x b hx (by rw [hg]; exact hb)⟩, fun B x hx => by rw [← hn]; exact h.agree.lt B x hx,
    fun B B' x x' b b' hx hb hw hx' hb' hd he => h.agree.inj B B' x x' b b' hx (by rw [hg]; exact hb) hw hx' (by rw [hg]; exact hb') hd he, fun B b hb => by rw [← hn]; exact h.agree.top B b (by rw [hg]; exact hb)⟩
  le := h.le
  new := h.new
  next := by rw [← hn]; exact h.next
  kept := h.kept
  heap := h.heap
  env := h.env
  old := fun B hB b hb hw => h.old B hB b (by rw [hg]; exact hb) hw
  live := fun B hB b hb hw => h.live B hB b (by rw [hg]; exact hb) hw
  ro := fun B hB b hb hr => by rw [← hg]; exact h.ro B hB b hb hr
  loc := fun B hB hm => by rw [← hg]; exact h.loc B hB hm
  cov := fun B hB hB' => h.cov B hB (by rw [hn]; exact hB')

/-- an object turns, and the block says of it what it said -/
theorem Sim.touch {P : Program} {m : Map} {A : AH} {w w' : World} (h : Agree P m A w) (B : Nat) (x : Img) (b : AB) (o' : Obj) (hm : m B = some x) (hg : A.get B = some b) (hw : b.wr = true)
    (hw' : w'.heap = w.heap.setIfInBounds x.blk o') (he : w'.os = w.os ∧ w'.tape = w.tape ∧ w'.output = w.output) (hb' : BR P m x b o') : Sim P m A w m A w' := by
  refine (Sim.turn h B x b b o' hm hg hw hw' he hb').congr rfl ?_
  intro C
  by_cases hC : C = B
  · subst hC; rw [AH.get_put_same, hg]
  · rw [AH.get_put_other _ _ _ _ hC]

end Go.Fold

/-
  A part of the road: an evaluator over abstract memory with a proved simulation, and what is reckoned by it. Written by an AI agent; no person has read it.
-/
import Derived.Test.YtebjajchdidnfaaGreatDoorFoldCtx
set_option linter.all false
namespace Go.Fold
variable {P : Program} {rec : Rec}

/-! ### A region in any order -/

theorem ADR.cut {m m' : Map} {N : Nat} (hN : ∀ b x, m' b = some x → b < N) {a : ADef} {d d' : Deferred} (hd : ADR m a d) (kd : ADR m' a d') : ADR (m.cut N) a d := by
  cases a with
  | call f cap args =>
    obtain ⟨f', cap', h1, h2, h3, h4⟩ := hd
    obtain ⟨f'', cap'', k1, k2, k3, k4⟩ := kd
    refine ⟨f', cap', h1, ?_, LR.cut hN h3 k3, LR.cut hN h4 k4⟩
    cases f <;> simp only [FR] at h2 k2 ⊢
    · exact h2
    · obtain ⟨z, hz, e⟩ := h2
      obtain ⟨z', hz', _⟩ := k2
      exact ⟨z, Map.cut_of (hN _ _ hz') hz, e⟩
  | collected b =>
    obtain ⟨x, hx, r⟩ := hd
    obtain ⟨x', hx', _⟩ := kd
    exact ⟨x, Map.cut_of (hN _ _ hx') hx, r⟩

theorem DR.cut {m m' : Map} {N : Nat} (hN : ∀ b x, m' b = some x → b < N) : ∀ {a : List ADef} {d d' : List Deferred}, DR m a d → DR m' a d' → DR (m.cut N) a d
  | _, _, _, .nil, _ => .nil
  | _, _, _, .cons h hs, .cons k ks => .cons (h.cut hN k) (DR.cut hN hs ks)

theorem BR.cut {m m' : Map} {N : Nat} (hN : ∀ b x, m' b = some x → b < N) {x x' : Img} {b : AB} {o o' : Obj} (h : BR P m x b o) (h' : BR P m' x' b o') : BR P (m.cut N) x b o := by
  cases b with
  | cells c e fz =>
    obtain ⟨cs, e', fr, h1, h0, h2, h3, h4, h5, h6⟩ := h
    obtain ⟨_, _, _, _, _, _, _, _, k5, _⟩ := h'
    exact ⟨cs, e', fr, h1, h0, h2, h3, h4, LR.cut hN h5 k5, h6⟩
  | loop l =>
    obtain ⟨l', h1, h2, h3, h4, h5, h6, h7, h8, y, hy, h9⟩ := h
    obtain ⟨_, _, _, _, _, k5, _, _, _, y', hy', _⟩ := h'
    exact ⟨l', h1, h2, h3, h4, ⟨h5.size, fun i => VR.cut hN (h5.at_ i) (k5.at_ i)⟩, h6, h7, h8, y, Map.cut_of (hN _ _ hy') hy, h9⟩
  | dfr c =>
    cases c with
    | none => exact h
    | some ds =>
      obtain ⟨ds', h1, h2⟩ := h
      obtain ⟨ds'', _, k2⟩ := h'
      exact ⟨ds', h1, h2.cut hN k2⟩
  | siter s pos => exact h
  | dead => trivial

variable {ops : Array Oper} {it : It} {A : Nat → AH} {T : Nat → AT} {v : Nat → AV} {m0 : Map} {w0 : World} {a0 : Act}

theorem Ctx.keepA (c : Ctx P rec ops it A T v m0 w0) (B : Nat) {p : Nat} (hB : B < (A p).next) : ∀ q, p ≤ q → q ≤ ops.size → (∀ e, p ≤ e → e < q → Eff P ops.toList it T e → (A (e + 1)).get B = (A e).get B) → (A q).get B = (A p).get B
  | 0, h, _, _ => by have : p = 0 := by omega
                     subst this; rfl
  | q + 1, h, hq, hk => by
    by_cases hp : p = q + 1
    · subst hp; rfl
    · have h1 := c.keepA B hB q (by omega) (by omega) fun e h1 h2 => hk e h1 (by omega)
      rw [← h1]
      by_cases he : Eff P ops.toList it T q
      · exact hk q (by omega) (by omega) he
      · exact c.stable q (by omega) he B (Nat.lt_of_lt_of_le hB (c.next_mono q p (by omega) (by omega)))

structure Inv (P : Program) (ops : Array Oper) (it : It) (A : Nat → AH) (T : Nat → AT) (m0 : Map) (w0 : World) (a0 : Act) (S : Nat → Prop) (m : Map) (g : Nat → Option AB) (w : World) (a : Act) (t : AT) : Prop where
  sz : ∀ k, S k → k < ops.size
  edge : ∀ k, S k → ∀ e ∈ (it k).1.after, Region.binds .any e = true → S e.on
  le : m0.le m
  blk : ∀ B x b, m B = some x → g B = some b → ∃ o, w.heap[x.blk]? = some o ∧ BR P m x b o
  lt : ∀ B x, m B = some x → x.blk < w.heap.size
  dom : ∀ B x, m B = some x → B < (A 0).next ∨ ∃ i, i < ops.size ∧ S i ∧ (A i).next ≤ B ∧ B < (A (i + 1)).next
  cov : ∀ i, S i → ∀ B, (A i).next ≤ B → B < (A (i + 1)).next → m B ≠ none
  inj : ∀ B B' x x' b b', m B = some x → g B = some b → b.wr = true → m B' = some x' → g B' = some b' → b' ≠ .dead → x.blk = x'.blk → B = B'
  G : ∀ q B x, q ≤ ops.size → m B = some x → B < (A q).next → (∀ e, Eff P ops.toList it T e → S e → e < q) → (∀ e, e < q → Eff P ops.toList it T e → S e ∨ (A (e + 1)).next ≤ B) → g B = (A q).get B
  L : ∀ e B, Eff P ops.toList it T e → S e → B < (A e).next → m B = none → (A (e + 1)).get B = (A e).get B
  tr : TR m t a.tmps
  tn : t.n = (T 0).n
  hi : ∀ d, ¬ d < (T 0).n → t.get d = (T 0).get d
  TI : ∀ d q, q ≤ ops.size → (∀ k, k < ops.size → (it k).1.dst = some d → (k < q ↔ S k)) → t.get d = (T q).get d
  defs : a.defers = a0.defers
  heap : w0.heap.size ≤ w.heap.size
  env : w.os = w0.os ∧ w.tape = w0.tape ∧ w.output = w0.output
  new : ∀ B x, m B = some x → m0 B = some x ∨ ((A 0).next ≤ B ∧ (w0.heap.size ≤ x.blk ∨ ∃ B₀ x₀ b₀, m0 B₀ = some x₀ ∧ x₀.blk = x.blk ∧ (A 0).get B₀ = some b₀ ∧ b₀.wr = true))
  kept : ∀ r, r < w0.heap.size → (∀ B x b, m0 B = some x → x.blk = r → (A 0).get B = some b → b.wr = false) → w.heap[r]? = w0.heap[r]?

theorem Inv.start (c : Ctx P rec ops it A T v m0 w0) (ht : TR m0 (T 0) a0.tmps) : Inv P ops it A T m0 w0 a0 (fun _ => False) m0 (fun B => (A 0).get B) w0 a0 (T 0) where
  sz := fun _ h => h.elim
  edge := fun _ h => h.elim
  le := .refl m0
  blk := c.ag.blk
  lt := fun B x h => (c.ag.lt B x h).2
  dom := fun B x h => .inl (c.ag.lt B x h).1
  cov := fun _ h => h.elim
  inj := c.ag.inj
  G := fun q B x hq hx _ _ hn => by
    have hB := (c.ag.lt B x hx).1
    refine (c.keepA B hB q (Nat.zero_le _) hq fun e _ he hE => ?_).symm
    rcases hn e he hE with h | h
    · exact h.elim
    · have := c.next_mono (e + 1) 0 (by omega) (by omega)
      omega
  L := fun _ _ _ h => h.elim
  tr := ht
  tn := rfl
  hi := fun _ _ => rfl
  TI := fun d q hq h => (c.Tkeep d q 0 (Nat.zero_le _) hq fun k _ hk hd => (h k (by omega) hd).1 hk).symm
  defs := rfl
  heap := Nat.le_refl _
  env := ⟨rfl, rfl, rfl⟩
  new := fun _ _ h => .inl h
  kept := fun _ _ _ => rfl

section
variable {S : Nat → Prop} {m : Map} {g : Nat → Option AB} {w : World} {a : Act} {t : AT}

theorem Inv.down (I : Inv P ops it A T m0 w0 a0 S m g w a t) (hst : Stat P ops it) : ∀ k, S k → ∀ j, (it k).2.testBit j = true → S j := by
  intro k
  induction k using Nat.strongRecOn with
  | ind k ih =>
    intro hk j hj
    obtain ⟨e, he, hb, h⟩ := hst.r3 k (I.sz k hk) j hj
    have hs := I.edge k hk e he hb
    rcases h with rfl | h
    · exact hs
    · exact ih e.on (hst.r1 k (I.sz k hk) e he hb) hs j h

/-- what is known of the operation that comes next -/
structure Nxt (ops : Array Oper) (it : It) (S : Nat → Prop) (i : Nat) : Prop where
  lt : i < ops.size
  no : ¬ S i
  edge : ∀ e ∈ (it i).1.after, Region.binds .any e = true → S e.on

theorem Inv.ahead (I : Inv P ops it A T m0 w0 a0 S m g w a t) (hst : Stat P ops it) {i : Nat} (N : Nxt ops it S i) (j : Nat) (hj : (it i).2.testBit j = true) : S j := by
  obtain ⟨e, he, hb, h⟩ := hst.r3 i N.lt j hj
  have hs := N.edge e he hb
  rcases h with rfl | h
  · exact hs
  · exact I.down hst _ hs j h

theorem Inv.behind (I : Inv P ops it A T m0 w0 a0 S m g w a t) (hst : Stat P ops it) {i : Nat} (N : Nxt ops it S i) (k : Nat) (hk : S k) : (it k).2.testBit i = false := by
  cases h : (it k).2.testBit i with
  | false => rfl
  | true => exact absurd (I.down hst k hk i h) N.no

/-- what the operation looks at is what it looked at in the order of the text -/
theorem Inv.sees (I : Inv P ops it A T m0 w0 a0 S m g w a t) (hst : Stat P ops it) {i : Nat} (N : Nxt ops it S i) (d : Nat) (hd : d ∈ looksAt ops.toList (it i).1) : t.get d = (T i).get d := by
  refine I.TI d i (Nat.le_of_lt N.lt) fun k hk hdst => ⟨fun hki => ?_, fun hs => ?_⟩
  · cases hb : (it i).2.testBit k with
    | true => exact I.ahead hst N k hb
    | false => exact absurd hd ((hst.r2 k i hki N.lt hb).2.1 d hdst).1
  · by_cases hki : k < i
    · exact hki
    · have hne : k ≠ i := fun e => N.no (e ▸ hs)
      have := I.behind hst N k hs
      exact absurd hd ((hst.r2 i k (by omega) hk this).2.2 d hdst)

/-- the temporaries once it is done -/
theorem Inv.putT (I : Inv P ops it A T m0 w0 a0 S m g w a t) (c : Ctx P rec ops it A T v m0 w0) {i : Nat} (N : Nxt ops it S i) {x : AV} (hx : T (i + 1) = putA (T i) (it i).1.dst x) :
    (putA t (it i).1.dst x).n = (T 0).n ∧ (∀ d, ¬ d < (T 0).n → (putA t (it i).1.dst x).get d = (T 0).get d) ∧
    ∀ d q, q ≤ ops.size → (∀ k, k < ops.size → (it k).1.dst = some d → (k < q ↔ (S k ∨ k = i))) → (putA t (it i).1.dst x).get d = (T q).get d := by
  have hhi : ∀ d, ¬ d < (T 0).n → (putA t (it i).1.dst x).get d = (T 0).get d := by
    intro d hd
    by_cases he : (it i).1.dst = some d
    · rw [he, putA_same, if_neg (by rw [I.tn]; exact hd)]; exact I.hi d hd
    · rw [putA_other _ _ _ _ he]; exact I.hi d hd
  refine ⟨by rw [putA_n]; exact I.tn, hhi, ?_⟩
  intro d q hq h
  by_cases hlt : d < (T 0).n
  · by_cases he : (it i).1.dst = some d
    · have hiq := (h i N.lt he).2 (.inr rfl)
      have h1 : (T q).get d = (T (i + 1)).get d := by
        refine c.Tkeep d q (i + 1) hiq hq fun k hk hkq hdst => ?_
        rcases (h k (by omega) hdst).1 hkq with hs | hs
        · have := I.behind c.st N k hs
          exact ((c.st.r2 i k (by omega) (by omega) this).2.1 d he).2 hdst
        · omega
      rw [h1, hx, he, putA_same, putA_same, I.tn, c.Tn i (Nat.le_of_lt N.lt)]
      simp [hlt]
    · rw [putA_other _ _ _ _ he]
      refine I.TI d q hq fun k hk hdst => ?_
      rw [h k hk hdst]
      have : k ≠ i := fun e => he (e ▸ hdst)
      simp [this]
  · rw [hhi d hlt, c.Thigh d hlt q hq]

theorem Inv.edge' (I : Inv P ops it A T m0 w0 a0 S m g w a t) {i : Nat} (N : Nxt ops it S i) : ∀ k, (S k ∨ k = i) → ∀ e ∈ (it k).1.after, Region.binds .any e = true → (S e.on ∨ e.on = i) := by
  intro k hk e he hb
  rcases hk with hk | rfl
  · exact .inl (I.edge k hk e he hb)
  · exact .inl (N.edge e he hb)

/-- an operation that leaves memory alone -/
theorem Inv.quiet (I : Inv P ops it A T m0 w0 a0 S m g w a t) (c : Ctx P rec ops it A T v m0 w0) {i : Nat} (N : Nxt ops it S i) (hne : ¬ Eff P ops.toList it T i) (hA : (A (i + 1)).next = (A i).next) {x : AV} {u : Value}
    (hx : T (i + 1) = putA (T i) (it i).1.dst x) (hu : VR m x u) : Inv P ops it A T m0 w0 a0 (fun k => S k ∨ k = i) m g w (a.put (it i).1.dst u) (putA t (it i).1.dst x) := by
  obtain ⟨h1, h2, h3⟩ := I.putT c N hx
  exact {
    sz := fun k hk => hk.elim (I.sz k) (fun e => e ▸ N.lt)
    edge := I.edge' N
    le := I.le
    blk := I.blk
    lt := I.lt
    dom := fun B x hB => (I.dom B x hB).imp id fun ⟨j, a, b, r⟩ => ⟨j, a, .inl b, r⟩
    cov := fun j hj B hB hB' => by
      rcases hj with hj | rfl
      · exact I.cov j hj B hB hB'
      · omega
    inj := I.inj
    G := fun q B x hq hB hlt h4 h5 => I.G q B x hq hB hlt (fun e hE hS => h4 e hE (.inl hS)) fun e he hE => by
      rcases h5 e he hE with (h | h) | h
      · exact .inl h
      · subst h; exact absurd hE hne
      · exact .inr h
    L := fun e B hE hS hB hn => by
      rcases hS with hS | rfl
      · exact I.L e B hE hS hB hn
      · exact absurd hE hne
    tr := I.tr.putA _ hu
    tn := h1
    hi := h2
    TI := h3
    defs := by rw [put_defers]; exact I.defs
    heap := I.heap
    env := I.env
    new := I.new
    kept := I.kept }

end
end Go.Fold

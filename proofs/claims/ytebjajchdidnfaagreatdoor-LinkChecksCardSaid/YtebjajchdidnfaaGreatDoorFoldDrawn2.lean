/-
  A part of the road: an evaluator over abstract memory with a proved simulation, and what is reckoned by it. Written by an AI agent; no person has read it.
-/
import Derived.Test.YtebjajchdidnfaaGreatDoorFoldDrawn
set_option linter.all false
namespace Go.Fold
variable {P : Program} {rec : Rec}
variable {ops : Array Oper} {it : It} {A : Nat → AH} {T : Nat → AT} {v : Nat → AV} {m0 : Map} {w0 : World} {a0 : Act}
variable {S : Nat → Prop} {m : Map} {g : Nat → Option AB} {w : World} {a : Act} {t : AT}

/-- the memory that is there tells of the text's memory at q -/
theorem Inv.look (I : Inv P ops it A T m0 w0 a0 S m g w a t) (c : Ctx P rec ops it A T v m0 w0) {q : Nat} (hq : q ≤ ops.size) (h1 : ∀ e, Eff P ops.toList it T e → S e → e < q) (h2 : ∀ e, e < q → Eff P ops.toList it T e → S e) : Look P m (A q) w where
  glob := c.ag.glob.mono I.le
  blk := fun B x b hx hb => by
    have hlt := c.top hq hb
    refine I.blk B x b hx ?_
    rw [I.G q B x hq hx hlt h1 (fun e he hE => .inl (h2 e he hE))]
    exact hb

theorem Inv.effs (I : Inv P ops it A T m0 w0 a0 S m g w a t) (c : Ctx P rec ops it A T v m0 w0) {j i : Nat} (hj : Eff P ops.toList it T j) (hi : Eff P ops.toList it T i) (hji : j < i) (hs : S i) : S j := by
  have hlt := I.sz i hs
  cases hb : (it i).2.testBit j with
  | true => exact I.down c.st i hs j hb
  | false => exact absurd ⟨hi.2, hj.2⟩ (c.st.r2 j i hji hlt hb).1

/-- where in the text the operation's look may be taken to stand -/
theorem Inv.stand (I : Inv P ops it A T m0 w0 a0 S m g w a t) (c : Ctx P rec ops it A T v m0 w0) {i : Nat} (N : Nxt ops it S i) (hl : Looks P ops.toList it T i) (hr : readA P (A i) (it i).1.op (T i) = some (v i)) :
    ∃ q, q ≤ ops.size ∧ readA P (A q) (it i).1.op (T i) = some (v i) ∧ (∀ e, Eff P ops.toList it T e → S e → e < q) ∧ (∀ e, e < q → Eff P ops.toList it T e → S e) := by
  by_cases h1 : ∃ e, i < e ∧ Eff P ops.toList it T e ∧ S e
  · obtain ⟨e, he⟩ := h1
    obtain ⟨k, _, ⟨hk1, hk2, hk3⟩, hk4⟩ := greatest (fun e => i < e ∧ Eff P ops.toList it T e ∧ S e) ops.size (fun k hk => I.sz k hk.2.2) e he
    have hkn := I.sz k hk3
    refine ⟨k + 1, hkn, c.tr.late i k (Nat.zero_le _) hk1 hkn hl hk2 (I.behind c.st N k hk3), ?_, ?_⟩
    · intro e hE hS
      by_cases h : e < k + 1
      · exact h
      · exact absurd ⟨by omega, hE, hS⟩ (hk4 e (by omega))
    · intro e he hE
      by_cases h : e = k
      · exact h ▸ hk3
      · exact I.effs c hE hk2 (by omega) hk3
  · have h1' : ∀ e, Eff P ops.toList it T e → S e → e < i := fun e hE hS => by
      by_cases h : e < i
      · exact h
      · have : e ≠ i := fun h => N.no (h ▸ hS)
        exact absurd ⟨e, by omega, hE, hS⟩ h1
    by_cases h2 : ∃ e, e < i ∧ Eff P ops.toList it T e ∧ ¬ S e
    · obtain ⟨e, he⟩ := h2
      obtain ⟨k, _, ⟨hk1, hk2, hk3⟩, hk4⟩ := least (fun e => e < i ∧ Eff P ops.toList it T e ∧ ¬ S e) e he
      have hb : (it i).2.testBit k = false := by
        cases hb : (it i).2.testBit k with
        | false => rfl
        | true => exact absurd (I.ahead c.st N k hb) hk3
      refine ⟨k, Nat.le_of_lt (Nat.lt_trans hk1 N.lt), c.tr.past k i (Nat.zero_le _) hk1 N.lt hk2 hl hb, ?_, ?_⟩
      · intro e hE hS
        by_cases h : e < k
        · exact h
        · by_cases he : e = k
          · exact absurd (he ▸ hS) hk3
          · exact absurd (I.effs c hk2 hE (by omega) hS) hk3
      · intro e he hE
        by_cases hS : S e
        · exact hS
        · exact absurd ⟨by omega, hE, hS⟩ (hk4 e he)
    · refine ⟨i, Nat.le_of_lt N.lt, hr, h1', fun e he hE => ?_⟩
      by_cases hS : S e
      · exact hS
      · exact absurd ⟨e, he, hE, hS⟩ h2

theorem plain_read {A : AH} {o : Op} {t : AT} {x : AV} (h : readA P A o t = some x) : ∀ c, o ≠ .defer c := by
  intro c hc; subst hc; simp [readA] at h
theorem plain_make {A : AH} {o : Op} {t : AT} {x : AV × AH} (h : makeA P A o t = some x) : ∀ c, o ≠ .defer c := by
  intro c hc; subst hc; simp [makeA] at h
theorem plain_turn {A : AH} {o : Op} {t : AT} {x : AV × AH} (h : turnA P rec o t A = some x) : ∀ cs b, o ≠ .select cs b := by
  intro cs b hc; subst hc
  unfold turnA at h
  split at h
  · simp [effA] at h
  · simp [callOpA] at h
  · cases h

theorem sees_operands {o : Oper} {d : Nat} (h : d ∈ tmpsOf o.op.operands.toList) : d ∈ looksAt ops.toList o := by
  unfold looksAt
  simp [h]

theorem Inv.alike (I : Inv P ops it A T m0 w0 a0 S m g w a t) (hst : Stat P ops it) {i : Nat} (N : Nxt ops it S i) : Alike P t (T i) (it i).1.op.operands.toList :=
  alike_of fun d hd => I.sees hst N d (sees_operands hd)

theorem Inv.wants (I : Inv P ops it A T m0 w0 a0 S m g w a t) (hst : Stat P ops it) {i : Nat} (N : Nxt ops it S i) {b : Bool} (h : wantedA ops.toList (it i).1 (T i) = b) : Region.wanted (it i).1 (yielded ops a.tmps) = b := by
  rw [← wantedA_eq I.tr ops (it i).1, wantedA_congr fun d hd => I.sees hst N d hd]; exact h

/-- one step of any order -/
def StepsTo (P : Program) (ops : Array Oper) (i : Nat) (a : Act) (w : World) (a' : Act) (w' : World) : Prop :=
  ∀ (b : Frame) (rest : List Nat) (k : List Item) (cs : List Frame), Steps P (lone (b.atR a (.inRegion ops (i :: rest) :: k)) cs w) (lone (b.atR a' (.inRegion ops rest :: k)) cs w')

theorem StepsTo.of_does (hst : Stat P ops it) {i : Nat} (hi : i < ops.size) (hd : ∀ c, (it i).1.op ≠ .defer c) {w' : World} {u : Value} (h : Does P (execOp a.eval (it i).1) w u w') (hw : Region.wanted (it i).1 (yielded ops a.tmps) = true) :
    StepsTo P ops i a w (a.put (it i).1.dst u) w' :=
  fun b rest k cs => OpSteps.of_does (ro := b.roundOf) hd h b ops i rest k cs rfl (hst.top i hi) hw

/-- new memory -/
theorem Inv.fresh (I : Inv P ops it A T m0 w0 a0 S m g w a t) (c : Ctx P rec ops it A T v m0 w0) {i : Nat} (N : Nxt ops it S i) (hne : ¬ Eff P ops.toList it T i) {b : AB} {o : Obj} {y : Img} {x : AV} {u : Value} {w' : World}
    (hA : A (i + 1) = (A i).new b) (hx : T (i + 1) = putA (T i) (it i).1.dst x) (hy : y.blk = w.heap.size) (hw : w'.heap = w.heap.push o) (he : w'.os = w.os ∧ w'.tape = w.tape ∧ w'.output = w.output)
    (hb : ∀ m' : Map, m.le m' → m' (A i).next = some y → BR P m' y b o ∧ VR m' x u) :
    Inv P ops it A T m0 w0 a0 (fun k => S k ∨ k = i) (m.plus (A i).next y) (fun B => if B = (A i).next then some b else g B) w' (a.put (it i).1.dst u) (putA t (it i).1.dst x) := by
  have hnx : (A (i + 1)).next = (A i).next + 1 := by rw [hA, AH.next_new]
  have hnone : m (A i).next = none := by
    cases hm : m (A i).next with
    | none => rfl
    | some z =>
      exfalso
      rcases I.dom _ _ hm with h | ⟨j, hj, hs, h1, h2⟩
      · have := c.next_mono i 0 (Nat.zero_le _) (Nat.le_of_lt N.lt); omega
      · rcases Nat.lt_trichotomy j i with h | h | h
        · have := c.next_mono i (j + 1) h (Nat.le_of_lt N.lt); omega
        · exact N.no (h ▸ hs)
        · have := c.next_mono j (i + 1) h (Nat.le_of_lt hj); omega
  have hle : m.le (m.plus (A i).next y) := Map.le_plus hnone
  obtain ⟨hb1, hb2⟩ := hb _ hle (Map.plus_same ..)
  obtain ⟨h1, h2, h3⟩ := I.putT c N hx
  have hold : ∀ B z, m.plus (A i).next y B = some z → (B = (A i).next ∧ z = y) ∨ (B ≠ (A i).next ∧ m B = some z) := by
    intro B z hz
    by_cases hB : B = (A i).next
    · subst hB; rw [Map.plus_same] at hz; cases hz; exact .inl ⟨rfl, rfl⟩
    · rw [Map.plus_other _ _ _ _ hB] at hz; exact .inr ⟨hB, hz⟩
  exact {
    sz := fun k hk => hk.elim (I.sz k) (fun e => e ▸ N.lt)
    edge := I.edge' N
    le := I.le.trans hle
    blk := fun B z b' hz hg => by
      rcases hold B z hz with ⟨rfl, rfl⟩ | ⟨hB, hz⟩
      · rw [if_pos rfl] at hg; cases hg
        exact ⟨o, by rw [hw, hy]; simp, hb1⟩
      · rw [if_neg hB] at hg
        obtain ⟨o', ho', hr⟩ := I.blk B z b' hz hg
        exact ⟨o', by rw [hw, push_get_old _ _ _ (I.lt _ _ hz)]; exact ho', hr.mono hle⟩
    lt := fun B z hz => by
      rw [hw, Array.size_push]
      rcases hold B z hz with ⟨rfl, rfl⟩ | ⟨hB, hz⟩
      · omega
      · have := I.lt _ _ hz; omega
    dom := fun B z hz => by
      rcases hold B z hz with ⟨rfl, rfl⟩ | ⟨hB, hz⟩
      · exact .inr ⟨i, N.lt, .inr rfl, Nat.le_refl _, by omega⟩
      · exact (I.dom B z hz).imp id fun ⟨j, a, b, r⟩ => ⟨j, a, .inl b, r⟩
    cov := fun j hj B hB hB' => by
      rcases hj with hj | rfl
      · cases h : m B with
        | none => exact absurd h (I.cov j hj B hB hB')
        | some z => rw [hle _ _ h]; exact fun e => by cases e
      · have : B = (A j).next := by omega
        rw [this, Map.plus_same]; exact fun e => by cases e
    inj := fun B B' z z' c c' hz hc hcw hz' hc' hd heq => by
      rcases hold B z hz with ⟨rfl, rfl⟩ | ⟨hB, _⟩
      · rcases hold B' z' hz' with ⟨rfl, rfl⟩ | ⟨hB', hz2'⟩
        · rfl
        · have := I.lt _ _ hz2'; omega
      · rename_i hz2
        rcases hold B' z' hz' with ⟨rfl, rfl⟩ | ⟨hB', hz2'⟩
        · have := I.lt _ _ hz2; omega
        · rw [if_neg hB] at hc
          rw [if_neg hB'] at hc'
          exact I.inj B B' z z' c c' hz2 hc hcw hz2' hc' hd heq
    G := fun q B z hq hz hlt h4 h5 => by
      have h4' : ∀ e, Eff P ops.toList it T e → S e → e < q := fun e hE hS => h4 e hE (.inl hS)
      have h5' : ∀ e, e < q → Eff P ops.toList it T e → S e ∨ (A (e + 1)).next ≤ B := fun e he hE => by
        rcases h5 e he hE with (h | h) | h
        · exact .inl h
        · subst h; exact absurd hE hne
        · exact .inr h
      rcases hold B z hz with ⟨rfl, rfl⟩ | ⟨hB, hz⟩
      · rw [if_pos rfl]
        have hq' : i + 1 ≤ q := by
          by_cases h : q ≤ i
          · have := c.next_mono i q h (Nat.le_of_lt N.lt); omega
          · omega
        rw [c.keepA (A i).next (p := i + 1) (by omega) q hq' hq ?_, hA, AH.get_new_same]
        intro e he1 he2 hE
        have hn := c.next_mono e (i + 1) he1 (by omega)
        rcases h5' e he2 hE with h | h
        · exact I.L e _ hE h (by omega) hnone
        · have := c.next_mono (e + 1) (i + 1) (by omega) (by omega); omega
      · rw [if_neg hB]
        exact I.G q B z hq hz hlt h4' h5'
    L := fun e B hE hS hB hn => by
      rcases hS with hS | rfl
      · refine I.L e B hE hS hB ?_
        cases h : m B with
        | none => rfl
        | some z => rw [hle _ _ h] at hn; cases hn
      · exact absurd hE hne
    tr := (I.tr.mono hle).putA _ hb2
    tn := h1
    hi := h2
    TI := h3
    defs := by rw [put_defers]; exact I.defs
    heap := by rw [hw, Array.size_push]; have := I.heap; omega
    env := ⟨he.1.trans I.env.1, he.2.1.trans I.env.2.1, he.2.2.trans I.env.2.2⟩
    new := fun B z hz => by
      rcases hold B z hz with ⟨rfl, rfl⟩ | ⟨hB, hz⟩
      · exact .inr ⟨c.next_mono i 0 (Nat.zero_le _) (Nat.le_of_lt N.lt), .inl (by rw [hy]; exact I.heap)⟩
      · exact I.new B z hz
    kept := fun r hr hc => by
      rw [hw, push_get_old _ _ _ (Nat.lt_of_lt_of_le hr I.heap)]
      exact I.kept r hr hc }

theorem TR.only {m m' : Map} {t T : AT} {a a' : Act} {N : Nat} (hN : ∀ b x, m' b = some x → b < N) (h : TR m t a.tmps) (h' : TR m' T a'.tmps) {ds : List Nat} (hs : ∀ d ∈ ds, t.get d = T.get d) : TR (m.cut N) (only ds t) (onlyAct ds a).tmps := by
  refine ⟨by simp [onlyAct, Go.Fold.only, h.size], fun d => ?_⟩
  rw [only_get, onlyAct_get]
  by_cases hd : d ∈ ds
  · rw [if_pos hd]
    by_cases hn : d < t.n
    · rw [if_pos ⟨hd, hn⟩]
      have h1 := h'.at_ d
      rw [← hs d hd] at h1
      exact VR.cut hN (h.at_ d) h1
    · rw [if_neg (fun e => hn e.2)]
      have : a.tmps.getD d Go.undef = Go.undef := by
        have : ¬ d < a.tmps.size := by rw [h.size]; exact hn
        simp [Array.getD, this]
      rw [this]; exact VR.undef
  · rw [if_neg (fun e => hd e.1), if_neg hd]
    exact VR.undef

theorem only_same {m : Map} {t : AT} {a : Act} (h : TR m t a.tmps) {ds : List Nat} {d : Nat} (hd : d ∈ ds) : (only ds t).get d = t.get d := by
  rw [only_get]
  by_cases hn : d < t.n
  · rw [if_pos ⟨hd, hn⟩]
  · rw [if_neg (fun e => hn e.2)]
    have h1 := h.at_ d
    have : a.tmps.getD d Go.undef = Go.undef := by
      have : ¬ d < a.tmps.size := by rw [h.size]; exact hn
      simp [Array.getD, this]
    rw [this] at h1
    exact h1.undef_inv.symm

end Go.Fold

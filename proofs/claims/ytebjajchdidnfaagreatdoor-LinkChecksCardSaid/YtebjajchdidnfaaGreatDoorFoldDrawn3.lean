/-
  A part of the road: an evaluator over abstract memory with a proved simulation, and what is reckoned by it. Written by an AI agent; no person has read it.
-/
import Derived.Test.YtebjajchdidnfaaGreatDoorFoldDrawn2
set_option linter.all false
namespace Go.Fold
variable {P : Program} {rec : Rec}
variable {ops : Array Oper} {it : It} {A : Nat → AH} {T : Nat → AT} {v : Nat → AV} {m0 : Map} {w0 : World} {a0 : Act}
variable {S : Nat → Prop} {m : Map} {g : Nat → Option AB} {w : World} {a : Act} {t : AT}

/-- what has been turned stands ahead of what turns next -/
theorem Inv.effLt (I : Inv P ops it A T m0 w0 a0 S m g w a t) (c : Ctx P rec ops it A T v m0 w0) {i : Nat} (N : Nxt ops it S i) (hE : Eff P ops.toList it T i) (e : Nat) (he : Eff P ops.toList it T e) (hS : S e) : e < i := by
  by_cases h : e < i
  · exact h
  · have hne : e ≠ i := fun h => N.no (h ▸ hS)
    exact absurd (I.effs c hE he (by omega) hS) N.no

theorem Inv.effAll (I : Inv P ops it A T m0 w0 a0 S m g w a t) (c : Ctx P rec ops it A T v m0 w0) {i : Nat} (N : Nxt ops it S i) (hE : Eff P ops.toList it T i) (e : Nat) (hlt : e < i) (he : Eff P ops.toList it T e) : S e := by
  cases hb : (it i).2.testBit e with
  | true => exact I.ahead c.st N e hb
  | false => exact absurd ⟨hE.2, he.2⟩ (c.st.r2 e i hlt N.lt hb).1

theorem Inv.domCut (I : Inv P ops it A T m0 w0 a0 S m g w a t) (c : Ctx P rec ops it A T v m0 w0) {i : Nat} (N : Nxt ops it S i) {B : Nat} {x : Img} (h : m B = some x) : B < (A i).next ∨ (A (i + 1)).next ≤ B := by
  rcases I.dom B x h with h1 | ⟨j, hj, hs, h1, h2⟩
  · exact .inl (Nat.lt_of_lt_of_le h1 (c.next_mono i 0 (Nat.zero_le _) (Nat.le_of_lt N.lt)))
  · rcases Nat.lt_trichotomy j i with h | h | h
    · exact .inl (Nat.lt_of_lt_of_le h2 (c.next_mono i (j + 1) h (Nat.le_of_lt N.lt)))
    · exact absurd (h ▸ hs) N.no
    · exact .inr (Nat.le_trans (c.next_mono j (i + 1) h (Nat.le_of_lt hj)) h1)

theorem Inv.agreeCut (I : Inv P ops it A T m0 w0 a0 S m g w a t) (c : Ctx P rec ops it A T v m0 w0) {i : Nat} (N : Nxt ops it S i) (hE : Eff P ops.toList it T i) {m' : Map} {w' : World} (h' : Sim P m0 (A 0) w0 m' (A i) w') :
    Agree P (m.cut (A i).next) (A i) w := by
  have hin := Nat.le_of_lt N.lt
  have hG : ∀ B x, m B = some x → B < (A i).next → g B = (A i).get B := fun B x hx hB =>
    I.G i B x hin hx hB (I.effLt c N hE) (fun e he hEe => .inl (I.effAll c N hE e he hEe))
  have h0 : (A 0).next ≤ (A i).next := c.next_mono i 0 (Nat.zero_le _) hin
  refine ⟨⟨?_, ?_⟩, ?_, ?_, fun B b hb => c.top hin hb⟩
  · refine c.ag.glob.mono fun B x hx => Map.cut_of ?_ (I.le _ _ hx)
    exact Nat.lt_of_lt_of_le (c.ag.lt B x hx).1 h0
  · intro B x b hx hb
    obtain ⟨hB, hx⟩ := Map.cut_some hx
    obtain ⟨o, ho, hr⟩ := I.blk B x b hx (by rw [hG B x hx hB]; exact hb)
    have hm' : ∃ x', m' B = some x' := by
      by_cases hB0 : B < (A 0).next
      · rcases I.new B x hx with h1 | ⟨h1, _⟩
        · exact ⟨x, h'.le _ _ h1⟩
        · omega
      · cases h2 : m' B with
        | none => exact absurd h2 (h'.cov B (by omega) hB)
        | some x' => exact ⟨x', rfl⟩
    obtain ⟨x', hx'⟩ := hm'
    obtain ⟨o', _, hr'⟩ := h'.agree.blk B x' b hx' hb
    exact ⟨o, ho, hr.cut (fun b y hy => (h'.agree.lt b y hy).1) hr'⟩
  · intro B x hx
    obtain ⟨hB, hx⟩ := Map.cut_some hx
    exact ⟨hB, I.lt B x hx⟩
  · intro B B' x x' b b' hx hb hw hx' hb' hd heq
    obtain ⟨hB, hx⟩ := Map.cut_some hx
    obtain ⟨hB', hx'⟩ := Map.cut_some hx'
    exact I.inj B B' x x' b b' hx (by rw [hG B x hx hB]; exact hb) hw hx' (by rw [hG B' x' hx' hB']; exact hb') hd heq

def Map.over (m' m : Map) : Map := fun B => match m' B with | some x => some x | none => m B
theorem Map.over_some {m' m : Map} {B : Nat} {x : Img} (h : m' B = some x) : Map.over m' m B = some x := by simp [Map.over, h]
theorem Map.over_none {m' m : Map} {B : Nat} (h : m' B = none) : Map.over m' m B = m B := by simp [Map.over, h]

def gover (m' : Map) (g' g : Nat → Option AB) : Nat → Option AB := fun B => match m' B with | some _ => g' B | none => g B
theorem gover_some {m' : Map} {g' g : Nat → Option AB} {B : Nat} {x : Img} (h : m' B = some x) : gover m' g' g B = g' B := by simp [gover, h]
theorem gover_none {m' : Map} {g' g : Nat → Option AB} {B : Nat} (h : m' B = none) : gover m' g' g B = g B := by simp [gover, h]

/-- an operation that turns memory -/
theorem Inv.turned (I : Inv P ops it A T m0 w0 a0 S m g w a t) (c : Ctx P rec ops it A T v m0 w0) {i : Nat} (N : Nxt ops it S i) (hE : Eff P ops.toList it T i) {x : AV} {u : Value} {m' : Map} {w' : World}
    (hx : T (i + 1) = putA (T i) (it i).1.dst x) (hs : Sim P (m.cut (A i).next) (A i) w m' (A (i + 1)) w') (hu : VR m' x u) :
    Inv P ops it A T m0 w0 a0 (fun k => S k ∨ k = i) (Map.over m' m) (gover m' (A (i + 1)).get g) w' (a.put (it i).1.dst u) (putA t (it i).1.dst x) := by
  have hin := Nat.le_of_lt N.lt
  obtain ⟨w1, m1, a1, H, _⟩ := c.hyp i hin
  have hnx : (A i).next ≤ (A (i + 1)).next := c.nx i N.lt
  obtain ⟨h1, h2, h3⟩ := I.putT c N hx
  have hG : ∀ B x, m B = some x → B < (A i).next → g B = (A i).get B := fun B x hx hB =>
    I.G i B x hin hx hB (I.effLt c N hE) (fun e he hEe => .inl (I.effAll c N hE e he hEe))
  have hle' : m'.le (Map.over m' m) := fun B z hz => Map.over_some hz
  have hle : m.le (Map.over m' m) := by
    intro B z hz
    rcases I.domCut c N hz with hB | hB
    · exact Map.over_some (hs.le _ _ (Map.cut_of hB hz))
    · rw [Map.over_none]; exact hz
      cases h : m' B with
      | none => rfl
      | some y => have := (hs.agree.lt _ _ h).1; omega
  -- what is in the new map: it is in m', or it is old and made later in the text
  have hold : ∀ B z, Map.over m' m B = some z → (m' B = some z) ∨ (m' B = none ∧ m B = some z ∧ (A (i + 1)).next ≤ B) := by
    intro B z hz
    cases h : m' B with
    | some y => rw [Map.over_some h] at hz; cases hz; exact .inl rfl
    | none =>
      rw [Map.over_none h] at hz
      refine .inr ⟨rfl, hz, ?_⟩
      rcases I.domCut c N hz with hB | hB
      · rw [hs.le _ _ (Map.cut_of hB hz)] at h; cases h
      · exact hB
  -- a block that may be written, of m', lies over no block made later
  have apart : ∀ B z B' z' b' , m' B = some z → m B' = some z' → (A (i + 1)).next ≤ B' → g B' = some b' → z.blk = z'.blk →
      (∃ b, (A (i + 1)).get B = some b ∧ (b.wr = true ∧ b' ≠ .dead ∨ b'.wr = true ∧ b ≠ .dead)) → False := by
    intro B z B' z' b' hz hz' hB' hg' heq ⟨b, hb, hww⟩
    have hd' : b' ≠ .dead := by
      rcases hww with h | h
      · exact h.2
      · intro e; subst e; simp [AB.wr] at h
    rcases hs.new B z hz with hc | ⟨hB, hc⟩
    · obtain ⟨hB, hz0⟩ := Map.cut_some hc
      have : B = B' := by
        rcases hww with ⟨hw, _⟩ | ⟨hw, hd⟩
        · obtain ⟨b0, hb0, hw0⟩ := hs.old B hB b hb hw
          exact I.inj B B' z z' b0 b' hz0 (by rw [hG B z hz0 hB]; exact hb0) hw0 hz' hg' hd' heq
        · obtain ⟨b0, hb0, hd0⟩ := hs.live B hB b hb hd
          exact (I.inj B' B z' z b' b0 hz' hg' hw hz0 (by rw [hG B z hz0 hB]; exact hb0) hd0 heq.symm).symm
      omega
    · rcases hc with hc | ⟨B₀, x₀, b₀, hc1, hc2, hc3, hc4⟩
      · have := I.lt _ _ hz'; omega
      · obtain ⟨hB₀, hx₀⟩ := Map.cut_some hc1
        have : B₀ = B' := I.inj B₀ B' x₀ z' b₀ b' hx₀ (by rw [hG B₀ x₀ hx₀ hB₀]; exact hc3) hc4 hz' hg' hd' (hc2.trans heq)
        omega
  exact {
    sz := fun k hk => hk.elim (I.sz k) (fun e => e ▸ N.lt)
    edge := I.edge' N
    le := I.le.trans hle
    blk := fun B z b hz hg => by
      rcases hold B z hz with hz1 | ⟨hn, hz1, hB⟩
      · rw [gover_some hz1] at hg
        obtain ⟨o, ho, hr⟩ := hs.agree.blk B z b hz1 hg
        exact ⟨o, ho, hr.mono hle'⟩
      · rw [gover_none hn] at hg
        obtain ⟨o, ho, hr⟩ := I.blk B z b hz1 hg
        by_cases hd : b = .dead
        · subst hd
          have := I.lt _ _ hz1
          have hlt : z.blk < w'.heap.size := Nat.lt_of_lt_of_le this hs.heap
          exact ⟨w'.heap[z.blk], by simp [hlt], trivial⟩
        · refine ⟨o, ?_, hr.mono hle⟩
          rw [hs.kept z.blk (I.lt _ _ hz1) ?_]; exact ho
          intro B₁ x₁ b₁ hc hblk hb₁
          obtain ⟨hB₁, hx₁⟩ := Map.cut_some hc
          cases hw₁ : b₁.wr with
          | false => rfl
          | true =>
            have : B₁ = B := I.inj B₁ B x₁ z b₁ b hx₁ (by rw [hG B₁ x₁ hx₁ hB₁]; exact hb₁) hw₁ hz1 hg hd hblk
            omega
    lt := fun B z hz => by
      rcases hold B z hz with hz1 | ⟨hn, hz1, hB⟩
      · exact (hs.agree.lt _ _ hz1).2
      · exact Nat.lt_of_lt_of_le (I.lt _ _ hz1) hs.heap
    dom := fun B z hz => by
      have old : m B = some z → _ := fun h => (I.dom B z h).imp id fun ⟨j, a, b, r⟩ => (⟨j, a, .inl b, r⟩ : ∃ j, j < ops.size ∧ (S j ∨ j = i) ∧ (A j).next ≤ B ∧ B < (A (j + 1)).next)
      rcases hold B z hz with hz1 | ⟨hn, hz1, hB⟩
      · rcases hs.new B z hz1 with hc | ⟨hB, _⟩
        · exact old (Map.cut_some hc).2
        · exact .inr ⟨i, N.lt, .inr rfl, hB, (hs.agree.lt _ _ hz1).1⟩
      · exact old hz1
    cov := fun j hj B hB hB' => by
      rcases hj with hj | rfl
      · cases h : m B with
        | none => exact absurd h (I.cov j hj B hB hB')
        | some z => rw [hle _ _ h]; exact fun e => by cases e
      · cases h : m' B with
        | none => exact absurd h (hs.cov B hB hB')
        | some z => rw [hle' _ _ h]; exact fun e => by cases e
    inj := fun B B' z z' b b' hz hb hw hz' hb' hd heq => by
      rcases hold B z hz with hz1 | ⟨hn, hz1, hB⟩
      · rw [gover_some hz1] at hb
        rcases hold B' z' hz' with hz1' | ⟨hn', hz1', hB'⟩
        · rw [gover_some hz1'] at hb'
          exact hs.agree.inj B B' z z' b b' hz1 hb hw hz1' hb' hd heq
        · rw [gover_none hn'] at hb'
          exact (apart B z B' z' b' hz1 hz1' hB' hb' heq ⟨b, hb, .inl ⟨hw, hd⟩⟩).elim
      · rw [gover_none hn] at hb
        rcases hold B' z' hz' with hz1' | ⟨hn', hz1', hB'⟩
        · rw [gover_some hz1'] at hb'
          exact (apart B' z' B z b hz1' hz1 hB hb heq.symm ⟨b', hb', .inr ⟨hw, hd⟩⟩).elim
        · rw [gover_none hn'] at hb'
          exact I.inj B B' z z' b b' hz1 hb hw hz1' hb' hd heq
    G := fun q B z hq hz hlt h4 h5 => by
      have hiq : i < q := h4 i hE (.inr rfl)
      rcases hold B z hz with hz1 | ⟨hn, hz1, hB⟩
      · rw [gover_some hz1]
        have hB := (hs.agree.lt _ _ hz1).1
        refine (c.keepA B hB q hiq hq fun e he1 he2 hEe => ?_).symm
        exfalso
        rcases h5 e he2 hEe with (h | h) | h
        · have := I.effLt c N hE e hEe h; omega
        · omega
        · have := c.next_mono (e + 1) (i + 1) (by omega) (by omega); omega
      · rw [gover_none hn]
        refine I.G q B z hq hz1 hlt (fun e hEe hS => h4 e hEe (.inl hS)) fun e he hEe => ?_
        rcases h5 e he hEe with (h | h) | h
        · exact .inl h
        · subst h; exact .inr hB
        · exact .inr h
    L := fun e B hEe hS hB hn => by
      have hmn : m B = none := by
        cases h : m B with
        | none => rfl
        | some z => rw [hle _ _ h] at hn; cases hn
      rcases hS with hS | rfl
      · exact I.L e B hEe hS hB hmn
      · refine hs.loc B hB ?_
        simp [Map.cut, hmn]
    tr := (I.tr.mono hle).putA _ (hu.mono hle')
    tn := h1
    hi := h2
    TI := h3
    defs := by rw [put_defers]; exact I.defs
    heap := Nat.le_trans I.heap hs.heap
    env := ⟨hs.env.1.trans I.env.1, hs.env.2.1.trans I.env.2.1, hs.env.2.2.trans I.env.2.2⟩
    new := fun B z hz => by
      rcases hold B z hz with hz1 | ⟨hn, hz1, hB⟩
      · rcases hs.new B z hz1 with hc | ⟨hB, hc⟩
        · exact I.new B z (Map.cut_some hc).2
        · refine .inr ⟨Nat.le_trans (c.next_mono i 0 (Nat.zero_le _) hin) hB, ?_⟩
          rcases hc with hc | ⟨B₀, x₀, b₀, hc1, hc2, hc3, hc4⟩
          · exact .inl (Nat.le_trans I.heap hc)
          · rcases I.new B₀ x₀ (Map.cut_some hc1).2 with h4 | ⟨_, h4⟩
            · obtain ⟨b, hb, hbw⟩ := H.old B₀ (c.ag.lt _ _ h4).1 b₀ hc3 hc4
              exact .inr ⟨B₀, x₀, b, h4, hc2, hb, hbw⟩
            · rcases h4 with h4 | ⟨B₁, x₁, b₁, hm1, hblk1, hg1, hw1⟩
              · exact .inl (hc2 ▸ h4)
              · exact .inr ⟨B₁, x₁, b₁, hm1, hblk1.trans hc2, hg1, hw1⟩
      · exact I.new B z hz1
    kept := fun r hr hc => by
      rw [hs.kept r (Nat.lt_of_lt_of_le hr I.heap) ?_]
      · exact I.kept r hr hc
      intro B z b hz hblk hg
      cases hw : b.wr with
      | false => rfl
      | true =>
        exfalso
        rcases I.new B z (Map.cut_some hz).2 with h4 | ⟨hB, h4⟩
        · obtain ⟨b0, hb0, hbw⟩ := H.old B (c.ag.lt _ _ h4).1 b hg hw
          have := hc B z b0 h4 hblk hb0
          rw [hbw] at this; exact absurd this (by simp)
        · rcases h4 with h4 | ⟨B₀, x₀, b₀, hm0, hblk0, hg0, hw0⟩
          · omega
          · have := hc B₀ x₀ b₀ hm0 (hblk0.trans hblk) hg0
            rw [hw0] at this; exact absurd this (by simp) }

/-- one more operation -/
theorem Inv.next (I : Inv P ops it A T m0 w0 a0 S m g w a t) (c : Ctx P rec ops it A T v m0 w0) {i : Nat} (N : Nxt ops it S i) :
    ∃ m' g' w' a' t', Inv P ops it A T m0 w0 a0 (fun k => S k ∨ k = i) m' g' w' a' t' ∧ StepsTo P ops i a w a' w' := by
  cases c.tr.step i (Nat.zero_le _) N.lt with
  | skip h hA hT =>
    refine ⟨_, _, _, _, _, I.quiet c N (fun hE => by rw [hE.1] at h; cases h) (by rw [hA]) hT VR.undef, fun b rest k cs => ?_⟩
    exact opSkips b ops i rest k cs (c.st.top i N.lt) (I.wants c.st N h)
  | look h ht hk hr hA hT =>
    obtain ⟨q, hq, hrq, h1, h2⟩ := I.stand c N ⟨h, ht, hk⟩ hr
    rw [← readA_congr (I.alike c.st N)] at hrq
    obtain ⟨u, hrun, hu⟩ := readA_sim (I.look c hq h1 h2) I.tr hrq
    refine ⟨_, _, _, _, _, I.quiet c N (fun hE => by rw [hE.2] at ht; cases ht) (by rw [hA]) hT hu, ?_⟩
    exact .of_does c.st N.lt (plain_read hr) (.value hrun) (I.wants c.st N h)
  | make h ht hk hr hT =>
    have hne : ¬ Eff P ops.toList it T i := fun hE => by rw [hE.2] at ht; cases ht
    have hr' := hr
    rw [← makeA_congr (I.alike c.st N)] at hr'
    obtain ⟨u, w', hrun, henv, hcase⟩ := makeA_sim (w := w) (A := A i) (c.ag.glob.mono I.le) I.tr hr'
    have hst : StepsTo P ops i a w (a.put (it i).1.dst u) w' := .of_does c.st N.lt (plain_make hr) (.value hrun) (I.wants c.st N h)
    rcases hcase with ⟨hA, hh, hu⟩ | ⟨b, o, y, hA, _, hy, hh, hb⟩
    · have I' := I.quiet c N hne (by rw [hA]) hT hu
      refine ⟨_, _, w', _, _, { I' with blk := fun B x b h1 h2 => by rw [hh]; exact I'.blk B x b h1 h2, lt := fun B x h1 => by rw [hh]; exact I'.lt B x h1, heap := by rw [hh]; exact I'.heap, env := ⟨henv.1.trans I'.env.1, henv.2.1.trans I'.env.2.1, henv.2.2.trans I'.env.2.2⟩, kept := fun r h1 h2 => by rw [hh]; exact I'.kept r h1 h2 }, hst⟩
    · exact ⟨_, _, _, _, _, I.fresh c N hne hA hT hy hh henv hb, hst⟩
  | turn h ht hr hT =>
    have hE : Eff P ops.toList it T i := ⟨h, ht⟩
    obtain ⟨w1, m1, a1, H, hTR⟩ := c.hyp i (Nat.le_of_lt N.lt)
    have hag := I.agreeCut c N hE H
    have htr := TR.only (N := (A i).next) (fun b y hy => (H.agree.lt b y hy).1) I.tr hTR (ds := tmpsOf (it i).1.op.operands.toList) fun d hd => I.sees c.st N d (sees_operands hd)
    have halike : Alike P (only (tmpsOf (it i).1.op.operands.toList) t) (T i) (it i).1.op.operands.toList :=
      alike_of fun d hd => by rw [only_same I.tr hd]; exact I.sees c.st N d (sees_operands hd)
    have hr' := hr
    rw [← turnA_congr halike] at hr'
    obtain ⟨hd, u, w', m', hdo, hu, hs⟩ := turnA_sim c.rok hag htr hr'
    refine ⟨_, _, w', _, _, I.turned c N hE hT hs hu, .of_does c.st N.lt hd ?_ (I.wants c.st N h)⟩
    rw [← execOp_congr (it i).1 (plain_turn hr) (ρ := (onlyAct (tmpsOf (it i).1.op.operands.toList) a).eval)]
    · exact hdo
    · intro x hx
      refine onlyAct_eval fun d hxd => ?_
      subst hxd
      exact mem_tmpsOf (by simpa using hx)

end Go.Fold

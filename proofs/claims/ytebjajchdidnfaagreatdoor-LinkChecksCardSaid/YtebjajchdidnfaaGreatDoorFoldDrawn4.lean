/-
  A part of the road: an evaluator over abstract memory with a proved simulation, and what is reckoned by it. Written by an AI agent; no person has read it.
-/
import Derived.Test.YtebjajchdidnfaaGreatDoorFoldDrawn3
import Derived.Test.YtebjajchdidnfaaGreatDoorFoldEv
set_option linter.all false
namespace Go.Fold
variable {P : Program} {rec : Rec}
variable {ops : Array Oper} {it : It} {A : Nat → AH} {T : Nat → AT} {v : Nat → AV} {m0 : Map} {w0 : World} {a0 : Act}
variable {S : Nat → Prop} {m : Map} {g : Nat → Option AB} {w : World} {a : Act} {t : AT}

def Lst (listed : Array Bool) (k : Nat) : Prop := listed.getD k false = true

/-- how many of the first n are still to come -/
def left (listed : Array Bool) : Nat → Nat
  | 0 => 0
  | n + 1 => left listed n + (if listed.getD n false = true then 0 else 1)

theorem lst_set {listed : Array Bool} {i : Nat} (hi : i < listed.size) (k : Nat) : Lst (listed.setIfInBounds i true) k ↔ (Lst listed k ∨ k = i) := by
  unfold Lst
  simp only [Array.getD_eq_getD_getElem?]
  by_cases h : k = i
  · subst h; simp [hi]
  · rw [Array.getElem?_setIfInBounds_ne (fun e => h e.symm)]; simp [h]

theorem left_set {listed : Array Bool} {i : Nat} (hi : i < listed.size) (hn : ¬ Lst listed i) : ∀ n, left (listed.setIfInBounds i true) n + (if i < n then 1 else 0) = left listed n
  | 0 => by simp [left]
  | n + 1 => by
    have ih := left_set hi hn n
    simp only [left]
    have h := lst_set hi n
    unfold Lst at h hn
    by_cases hin : n = i
    · subst hin
      rw [if_pos (h.2 (.inr rfl)), if_neg hn]
      simp at ih ⊢
      omega
    · have h2 : (listed.setIfInBounds i true).getD n false = true ↔ listed.getD n false = true := by rw [h]; simp [hin]
      simp only [h2]
      have h3 : (i < n + 1) ↔ i < n := by omega
      simp only [h3]
      omega

theorem left_zero {listed : Array Bool} : ∀ n, left listed n = 0 → ∀ k, k < n → Lst listed k
  | 0, _, k, hk => by omega
  | n + 1, h, k, hk => by
    simp only [left] at h
    by_cases hkn : k = n
    · subst hkn
      unfold Lst
      by_cases hl : listed.getD k false = true
      · exact hl
      · rw [if_neg hl] at h; omega
    · exact left_zero n (by omega) k (by omega)

theorem left_le {listed : Array Bool} : ∀ n, left listed n ≤ n
  | 0 => Nat.le_refl _
  | n + 1 => by
    have := left_le (listed := listed) n
    simp only [left]
    split <;> omega

/-- all that is asked of the end -/
structure Ends (P : Program) (ops : Array Oper) (A : Nat → AH) (T : Nat → AT) (m0 : Map) (w0 : World) (a0 : Act) (m : Map) (w : World) (a : Act) : Prop where
  sim : Sim P m0 (A 0) w0 m (A ops.size) w
  tr : TR m (T ops.size) a.tmps
  defs : a.defers = a0.defers

theorem find_range (c : Ctx P rec ops it A T v m0 w0) {B : Nat} : ∀ q, q ≤ ops.size → (A 0).next ≤ B → B < (A q).next → ∃ i, i < q ∧ (A i).next ≤ B ∧ B < (A (i + 1)).next
  | 0, _, h1, h2 => by omega
  | q + 1, hq, h1, h2 => by
    by_cases h : B < (A q).next
    · obtain ⟨i, h3, h4⟩ := find_range c q (by omega) h1 h
      exact ⟨i, by omega, h4⟩
    · exact ⟨q, by omega, by omega, h2⟩

theorem Inv.ends (I : Inv P ops it A T m0 w0 a0 S m g w a t) (c : Ctx P rec ops it A T v m0 w0) (hall : ∀ k, k < ops.size → S k) : Ends P ops A T m0 w0 a0 m w a := by
  obtain ⟨w1, m1, a1, H, _⟩ := c.hyp ops.size (Nat.le_refl _)
  have hdom : ∀ B x, m B = some x → B < (A ops.size).next := by
    intro B x hx
    rcases I.dom B x hx with h | ⟨i, hi, _, _, h⟩
    · exact Nat.lt_of_lt_of_le h (c.next_mono _ 0 (Nat.zero_le _) (Nat.le_refl _))
    · exact Nat.lt_of_lt_of_le h (c.next_mono _ (i + 1) hi (Nat.le_refl _))
  have hG : ∀ B x, m B = some x → g B = (A ops.size).get B := fun B x hx =>
    I.G ops.size B x (Nat.le_refl _) hx (hdom B x hx) (fun e _ hS => I.sz e hS) (fun e he _ => .inl (hall e he))
  refine ⟨⟨⟨⟨c.ag.glob.mono I.le, ?_⟩, ?_, ?_, fun B b hb => c.top (Nat.le_refl _) hb⟩, I.le, I.new, H.next, I.kept, I.heap, I.env, H.old, H.live, H.ro, H.loc, ?_⟩, ?_, I.defs⟩
  · intro B x b hx hb
    exact I.blk B x b hx (by rw [hG B x hx]; exact hb)
  · exact fun B x hx => ⟨hdom B x hx, I.lt B x hx⟩
  · intro B B' x x' b b' hx hb hw hx' hb' hd heq
    exact I.inj B B' x x' b b' hx (by rw [hG B x hx]; exact hb) hw hx' (by rw [hG B' x' hx']; exact hb') hd heq
  · intro B hB hB'
    obtain ⟨i, hi, h1, h2⟩ := find_range c ops.size (Nat.le_refl _) hB hB'
    exact I.cov i (hall i hi) B h1 h2
  · refine ⟨I.tr.size.trans (I.tn.trans (c.Tn _ (Nat.le_refl _)).symm), fun d => ?_⟩
    rw [← I.TI d ops.size (Nat.le_refl _) fun k hk _ => ⟨fun _ => hall k hk, fun _ => hk⟩]
    exact I.tr.at_ d

theorem any_order (c : Ctx P rec ops it A T v m0 w0) : ∀ (fuel τ : Nat) (listed : Array Bool) (m : Map) (g : Nat → Option AB) (w : World) (a : Act) (t : AT),
    listed.size = ops.size → left listed ops.size ≤ fuel → Inv P ops it A T m0 w0 a0 (Lst listed) m g w a t →
    ∃ m' w' a', Ends P ops A T m0 w0 a0 m' w' a' ∧ ∀ (b : Frame) (k : List Item) (cs : List Frame), Steps P (lone (b.atR a (.inRegion ops (Region.linearise.go .any ops fuel τ listed []) :: k)) cs w) (lone (b.atR a' (.inRegion ops [] :: k)) cs w')
  | 0, τ, listed, m, g, w, a, t, hsz, hf, I => by
    refine ⟨m, w, a, I.ends c (left_zero _ (by omega)), fun b k cs => ?_⟩
    simp only [Region.linearise.go, List.reverse_nil]
    exact Steps.refl _ _
  | fuel + 1, τ, listed, m, g, w, a, t, hsz, hf, I => by
    have hgo : Region.linearise.go .any ops (fuel + 1) τ listed [] = match (Region.ready .any ops listed)[τ % (Region.ready .any ops listed).length]? with
      | some i => Region.linearise.go .any ops fuel (τ / (Region.ready .any ops listed).length) (listed.setIfInBounds i true) [i]
      | none => [] := rfl
    rw [hgo]
    cases hi : (Region.ready .any ops listed)[τ % (Region.ready .any ops listed).length]? with
    | none =>
      have hnil : Region.ready .any ops listed = [] := by
        cases hr : Region.ready .any ops listed with
        | nil => rfl
        | cons x xs =>
          rw [hr] at hi
          have hlt : τ % (x :: xs).length < (x :: xs).length := Nat.mod_lt _ (by simp)
          simp at hi
          simp at hlt
          omega
      have hall : ∀ k, k < ops.size → Lst listed k := by
        intro k
        induction k using Nat.strongRecOn with
        | ind k ih =>
          intro hk
          by_cases hl : Lst listed k
          · exact hl
          · exfalso
            have : k ∈ Region.ready .any ops listed := by
              unfold Region.ready
              rw [List.mem_filter]
              refine ⟨List.mem_range.2 hk, ?_⟩
              have h1 : listed.getD k true = false := by
                unfold Lst at hl
                simp only [Array.getD_eq_getD_getElem?] at hl ⊢
                have : k < listed.size := by omega
                simp only [Array.getElem?_eq_getElem this, Option.getD_some] at hl ⊢
                simpa using hl
              rw [h1, c.st.top k hk]
              simp only [Bool.not_false, Bool.true_and, Option.map_some, Option.getD_some, Array.all_eq_true_iff_forall_mem]
              intro e he
              cases hb : Region.binds .any e with
              | false => simp
              | true =>
                have := ih e.on (c.st.r1 k hk e he hb) (Nat.lt_trans (c.st.r1 k hk e he hb) hk)
                simpa [Lst] using this
            rw [hnil] at this
            cases this
      exact ⟨m, w, a, I.ends c hall, fun b k cs => Steps.refl _ _⟩
    | some i =>
      simp only
      have hm := List.mem_of_getElem? hi
      unfold Region.ready at hm
      rw [List.mem_filter] at hm
      obtain ⟨hin, hm⟩ := hm
      have hin := List.mem_range.1 hin
      rw [c.st.top i hin] at hm
      simp only [Option.map_some, Option.getD_some, Bool.and_eq_true, Bool.not_eq_true', Array.all_eq_true_iff_forall_mem] at hm
      have hno : ¬ Lst listed i := by
        unfold Lst
        have h1 := hm.1
        have : i < listed.size := by omega
        simp only [Array.getD_eq_getD_getElem?, Array.getElem?_eq_getElem this, Option.getD_some] at h1 ⊢
        simp [h1]
      have N : Nxt ops it (Lst listed) i := ⟨hin, hno, fun e he hb => by
        have := hm.2 e he
        rw [hb] at this
        simpa [Lst] using this⟩
      obtain ⟨m1, g1, w1, a1, t1, I1, hs⟩ := I.next c N
      have hi' : i < listed.size := by omega
      have hS : (fun k => Lst listed k ∨ k = i) = Lst (listed.setIfInBounds i true) := funext fun k => propext (lst_set hi' k).symm
      rw [hS] at I1
      have hl := left_set hi' hno ops.size
      rw [if_pos hin] at hl
      obtain ⟨m2, w2, a2, h1, h2⟩ := any_order c fuel (τ / (Region.ready .any ops listed).length) _ m1 g1 w1 a1 t1 (by simpa using hsz) (by omega) I1
      refine ⟨m2, w2, a2, h1, fun b k cs => ?_⟩
      rw [linearise_go_acc, List.reverse_singleton, List.singleton_append]
      exact (hs b _ k cs).trans (h2 b k cs)

theorem drawnOk (hr : RecOk P rec) : DrawnOk P rec := by
  intro ops m0 A0 w0 t0 a0 t' A' τ hok hA ht hd
  rw [items_eq, show ops.toList.length = ops.size by simp] at hd
  obtain ⟨A, T, v, hA0, hT0, hAn, hTn, tr, _, _⟩ := trace_of ops.toList (itOf ops.toList) ops.size ops.size 0 [] [] t0 A0 t' A' (by omega) hd
  subst hA0; subst hT0; subst hAn; subst hTn
  have c := ctx_of hr (stat_of hok) tr hA ht
  have h0 : (fun _ : Nat => False) = Lst (Array.replicate ops.size false) := by
    funext k
    unfold Lst
    simp only [Array.getD_eq_getD_getElem?, Array.getElem?_replicate]
    split <;> simp
  have I := Inv.start c ht
  rw [h0] at I
  obtain ⟨m', w', a', E, hs⟩ := any_order c ops.size τ _ m0 _ w0 a0 _ (by simp) (left_le _) I
  exact ⟨a', w', m', E.sim, E.tr, E.defs, hs⟩

theorem ev_holds {hk : Hook} (hmix : P.follows .mixedOrders = true) (hpl : Plain P) (hhk : HookOk P hk) : ∀ n, RecOk P (ev P hk n) := ev_ok hmix hpl hhk fun _ => drawnOk

end Go.Fold
#print axioms Go.Fold.ev_holds

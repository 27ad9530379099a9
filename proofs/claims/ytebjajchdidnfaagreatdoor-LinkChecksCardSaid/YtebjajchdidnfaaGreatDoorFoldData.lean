/-
  A part of the road: an evaluator over abstract memory with a proved simulation, and what is reckoned by it. Written by an AI agent; no person has read it.
-/
import Derived.Test.YtebjajchdidnfaaGreatDoorFoldTop
import Derived.OpenShut
set_option linter.all false
namespace Go.Fold
open Go.RowKit
variable {H : Type}

/-! ### A reading, as abstract memory -/

/-- one behind the other -/
def absL (f : DataW H → AH → Option (List AV × AH)) : List (DataW H) → AH → Option (List AV × AH)
  | [], A => some ([], A)
  | d :: ds, A => match f d A with
    | some (c, A) => match absL f ds A with
      | some (cs, A) => some (c ++ cs, A)
      | none => none
    | none => none

/-- the fields of a struct, one behind the other -/
def absF (P : Program) (f : TypeId → DataW H → AH → Option (List AV × AH)) (tot : Nat) : Nat → List Field → List (DataW H) → AH → Option (List AV × AH)
  | o, [], [], A => bif o.beq tot then some ([], A) else none
  | o, fd :: fs, d :: ds, A => bif fd.offset.beq o then match f fd.type d A with
      | some (c, A) => match absF P f tot (o + P.cellsOf fd.type) fs ds A with
        | some (cs, A) => some (c ++ cs, A)
        | none => none
      | none => none
    else none
  | _, _, _, _ => none

def absD (P : Program) : Nat → TypeId → DataW H → AH → Option (List AV × AH)
  | 0, _, _, _ => none
  | n + 1, t, d, A => match P.underlying t, d with
    | some .bool, .lit (.bool b) => some ([.bool b], A)
    | some (.int k), .lit (.int _ i) => some ([.int k i], A)
    | some .string, .lit (.string s) => some ([.str (s.map (·.toNat))], A)
    | some (.slice _), .nil => some ([.slice none 0 (some 0)], A)
    | some (.slice e), .slice xs ys => bif (P.cellsOf e).beq 0 then none else match absL (absD P n e) (xs ++ ys) A with
      | some (cs, A) => some ([.slice (some (A.next, 0)) xs.length (some (xs.length + ys.length))], A.new (.cells cs e true))
      | none => none
    | some (.struct fs), .agg xs => absF P (absD P n) (P.cellsOf t) 0 fs.toList xs A
    | some (.array _ e), .agg xs => bif (P.cellsOf t).beq (xs.length * P.cellsOf e) then absL (absD P n e) xs A else none
    | _, _ => none

/-- abstract memory grows by what may not be written -/
structure Adds (P : Program) (w : World) (m : Map) (A : AH) (m' : Map) (A' : AH) : Prop where
  agree : Agree P m' A' w
  le : m.le m'
  next : A.next ≤ A'.next
  old : ∀ B, B < A.next → A'.get B = A.get B
  still : Still m' A'

theorem Adds.refl {P : Program} {w : World} {m : Map} {A : AH} (h : Agree P m A w) (hs : Still m A) : Adds P w m A m A := ⟨h, .refl m, Nat.le_refl _, fun _ _ => rfl, hs⟩
theorem Adds.trans {P : Program} {w : World} {m m1 m2 : Map} {A A1 A2 : AH} (h : Adds P w m A m1 A1) (k : Adds P w m1 A1 m2 A2) : Adds P w m A m2 A2 :=
  ⟨k.agree, h.le.trans k.le, Nat.le_trans h.next k.next, fun B hB => (k.old B (Nat.lt_of_lt_of_le hB h.next)).trans (h.old B hB), k.still⟩

/-- one block more that tells of memory that is there, and may not be written -/
theorem Adds.block {P : Program} {w : World} {m : Map} {A : AH} (h : Agree P m A w) (hs : Still m A) {a : Addr} {cs : Array Value} {e' e : TypeId} {fr : Nat × Nat} (ha : w.heap[a.block]? = some (.cells cs e' fr)) {c : List AV} {l : List Value}
    (hl : LR m c l) (hw : ∀ j, j < l.length → cs[a.off + j]? = l[j]?) (hne : l ≠ []) : Adds P w m A (m.plus A.next ⟨a.block, a.off, cs.size, P.cellsOf e⟩) (A.new (.cells c e true)) := by
  have hle : m.le (m.plus A.next ⟨a.block, a.off, cs.size, P.cellsOf e⟩) := Map.le_plus h.none_next
  have hlen := hl.length
  have hpos : 0 < l.length := List.length_pos_iff.2 hne
  have hlt : a.block < w.heap.size := (Array.getElem?_eq_some_iff.1 ha).1
  have hsz : a.off + l.length ≤ cs.size := by
    have h1 := hw (l.length - 1) (by omega)
    have h2 : l[l.length - 1]? = some (l[l.length - 1]'(by omega)) := List.getElem?_eq_getElem _
    rw [h2] at h1
    have := (Array.getElem?_eq_some_iff.1 h1).1
    omega
  have hwin : (cs.toList.drop a.off).take c.length = l := by
    apply List.ext_getElem?
    intro j
    rw [List.getElem?_take]
    split
    · rename_i hj
      rw [List.getElem?_drop, Array.getElem?_toList, hw j (by omega)]
    · rename_i hj
      rw [List.getElem?_eq_none (by omega)]
  refine ⟨⟨⟨h.glob.mono hle, ?_⟩, ?_, ?_, ?_⟩, hle, by simp [AH.next_new], fun B hB => AH.get_new_other _ _ _ (by omega), ?_⟩
  · intro B y b hy hb
    by_cases hB : B = A.next
    · subst hB; rw [Map.plus_same] at hy; cases hy
      rw [AH.get_new_same] at hb; cases hb
      exact ⟨_, ha, cs, e', fr, rfl, (fun hf => by cases hf), rfl, rfl, (by simp only; omega), (by simp only; rw [hwin]; exact hl.mono hle), (fun hf => by cases hf)⟩
    · rw [Map.plus_other _ _ _ _ hB] at hy
      rw [AH.get_new_other _ _ _ hB] at hb
      obtain ⟨o, ho, hr⟩ := h.blk _ _ _ hy hb
      exact ⟨o, ho, hr.mono hle⟩
  · intro B y hy
    by_cases hB : B = A.next
    · subst hB; rw [Map.plus_same] at hy; cases hy
      exact ⟨by simp [AH.next_new], hlt⟩
    · rw [Map.plus_other _ _ _ _ hB] at hy
      have := h.lt _ _ hy
      exact ⟨by simp only [AH.next_new]; omega, this.2⟩
  · intro B B' y y' b b' hy hb hwr hy' hb' hd heq
    by_cases hB : B = A.next
    · subst hB; rw [AH.get_new_same] at hb; cases hb; simp [AB.wr] at hwr
    · rw [Map.plus_other _ _ _ _ hB] at hy
      rw [AH.get_new_other _ _ _ hB] at hb
      rw [hs B y b hy hb] at hwr
      cases hwr
  · intro B b hb
    by_cases hB : B = A.next
    · subst hB; simp [AH.next_new]
    · rw [AH.get_new_other _ _ _ hB] at hb
      have := h.top _ _ hb
      simp only [AH.next_new]; omega
  · intro B y b hy hb
    by_cases hB : B = A.next
    · subst hB; rw [AH.get_new_same] at hb; cases hb; rfl
    · rw [Map.plus_other _ _ _ _ hB] at hy
      rw [AH.get_new_other _ _ _ hB] at hb
      exact hs B y b hy hb

/-- an unmapped block -/
theorem Adds.blank {P : Program} {w : World} {m : Map} {A : AH} (h : Agree P m A w) (hs : Still m A) (b : AB) : Adds P w m A m (A.new b) := by
  have hne : ∀ B x, m B = some x → B ≠ A.next := fun B x hx e => by have := (h.lt B x hx).1; omega
  refine ⟨⟨⟨h.glob, fun B x b' hx hb => h.blk B x b' hx (by rwa [AH.get_new_other _ _ _ (hne B x hx)] at hb)⟩, fun B x hx => ?_, ?_, ?_⟩, .refl m, by simp [AH.next_new], fun B hB => AH.get_new_other _ _ _ (by omega), ?_⟩
  · have := h.lt B x hx; simp only [AH.next_new]; omega
  · intro B B' y y' b b' hy hb hwr hy' hb' hd heq
    rw [AH.get_new_other _ _ _ (hne _ _ hy)] at hb
    rw [AH.get_new_other _ _ _ (hne _ _ hy')] at hb'
    exact h.inj _ _ _ _ _ _ hy hb hwr hy' hb' hd heq
  · intro B b hb
    by_cases hB : B = A.next
    · subst hB; simp [AH.next_new]
    · rw [AH.get_new_other _ _ _ hB] at hb
      have := h.top _ _ hb
      simp only [AH.next_new]; omega
  · intro B x b' hx hb
    rw [AH.get_new_other _ _ _ (hne _ _ hx)] at hb
    exact hs B x b' hx hb

section
variable {P : Program} {w : World} {enc : TypeId × Value → H} {base : Nat} {sp : Nat → Bool} {held : Bool}

/-- what a reading of cells becomes -/
def Abs (P : Program) (w : World) (f : DataW H → AH → Option (List AV × AH)) (d : DataW H) (cs : List Value) : Prop :=
  ∀ (m : Map) (A : AH) (c : List AV) (A' : AH), Agree P m A w → Still m A → f d A = some (c, A') → ∃ m', Adds P w m A m' A' ∧ LR m' c cs

theorem absL_ok {f : DataW H → AH → Option (List AV × AH)} : ∀ (ds : List (DataW H)) (css : List (List Value)), css.length = ds.length → (∀ (i : Nat) (d : DataW H) (cs : List Value), ds[i]? = some d → css[i]? = some cs → Abs P w f d cs) →
    ∀ (m : Map) (A : AH) (c : List AV) (A' : AH), Agree P m A w → Still m A → absL f ds A = some (c, A') → ∃ m', Adds P w m A m' A' ∧ LR m' c css.flatten
  | [], css, hl, _, m, A, c, A', hA, hs, h => by
    have : css = [] := List.length_eq_zero_iff.1 (by simpa using hl)
    subst this
    simp only [absL, Option.some.injEq, Prod.mk.injEq] at h
    obtain ⟨rfl, rfl⟩ := h
    exact ⟨m, .refl hA hs, by simp [LR]⟩
  | d :: ds, [], hl, _, m, A, c, A', hA, hs, h => by simp at hl
  | d :: ds, cs :: css, hl, hf, m, A, c, A', hA, hs, h => by
    simp only [absL] at h
    split at h
    · rename_i c1 A1 h1
      split at h
      · rename_i c2 A2 h2
        simp only [Option.some.injEq, Prod.mk.injEq] at h
        obtain ⟨rfl, rfl⟩ := h
        obtain ⟨m1, k1, k2⟩ := hf 0 d cs (by simp) (by simp) m A c1 A1 hA hs h1
        obtain ⟨m2, k3, k4⟩ := absL_ok ds css (by simpa using hl) (fun i d cs hd hc => hf (i + 1) d cs (by simpa using hd) (by simpa using hc)) m1 A1 c2 A2 k1.agree k1.still h2
        exact ⟨m2, k1.trans k3, by simpa using (k2.mono k3.le).append k4⟩
      · cases h
    · cases h

theorem absF_le {f : TypeId → DataW H → AH → Option (List AV × AH)} {tot : Nat} : ∀ (fs : List Field) (ds : List (DataW H)) (o : Nat) (A : AH) (r : List AV × AH), absF P f tot o fs ds A = some r → o ≤ tot
  | [], [], o, A, r, h => by
    simp only [absF] at h
    cases ho : o.beq tot with
    | false => simp [ho] at h
    | true => exact Nat.le_of_eq (Nat.eq_of_beq_eq_true ho)
  | [], _ :: _, o, A, r, h => by simp [absF] at h
  | _ :: _, [], o, A, r, h => by simp [absF] at h
  | fd :: fs, d :: ds, o, A, r, h => by
    simp only [absF] at h
    cases ho : fd.offset.beq o with
    | false => simp [ho] at h
    | true =>
      simp only [ho, cond_true] at h
      split at h
      · split at h
        · rename_i h2
          have := absF_le fs ds _ _ _ h2
          omega
        · cases h
      · cases h

theorem absF_ok {f : TypeId → DataW H → AH → Option (List AV × AH)} {cs : List Value} : ∀ (fs : List Field) (ds : List (DataW H)) (o : Nat), (∀ (i : Nat) (fd : Field) (d : DataW H), fs[i]? = some fd → ds[i]? = some d → Abs P w (f fd.type) d ((cs.drop fd.offset).take (P.cellsOf fd.type))) →
    ∀ (m : Map) (A : AH) (c : List AV) (A' : AH), Agree P m A w → Still m A → absF P f cs.length o fs ds A = some (c, A') → ∃ m', Adds P w m A m' A' ∧ LR m' c (cs.drop o)
  | [], [], o, _, m, A, c, A', hA, hs, h => by
    simp only [absF] at h
    cases ho : o.beq cs.length with
    | false => simp [ho] at h
    | true =>
      simp only [ho, cond_true, Option.some.injEq, Prod.mk.injEq] at h
      obtain ⟨rfl, rfl⟩ := h
      have := Nat.eq_of_beq_eq_true ho
      subst this
      exact ⟨m, .refl hA hs, by simp [LR]⟩
  | [], _ :: _, o, _, m, A, c, A', hA, hs, h => by simp [absF] at h
  | _ :: _, [], o, _, m, A, c, A', hA, hs, h => by simp [absF] at h
  | fd :: fs, d :: ds, o, hf, m, A, c, A', hA, hs, h => by
    simp only [absF] at h
    cases ho : fd.offset.beq o with
    | false => simp [ho] at h
    | true =>
      simp only [ho, cond_true] at h
      have ho := Nat.eq_of_beq_eq_true ho
      subst ho
      split at h
      · rename_i c1 A1 h1
        split at h
        · rename_i c2 A2 h2
          simp only [Option.some.injEq, Prod.mk.injEq] at h
          obtain ⟨rfl, rfl⟩ := h
          obtain ⟨m1, k1, k2⟩ := hf 0 fd d (by simp) (by simp) m A c1 A1 hA hs h1
          obtain ⟨m2, k3, k4⟩ := absF_ok fs ds _ (fun i fd d hd hc => hf (i + 1) fd d (by simpa using hd) (by simpa using hc)) m1 A1 c2 A2 k1.agree k1.still h2
          refine ⟨m2, k1.trans k3, ?_⟩
          have e : cs.drop fd.offset = (cs.drop fd.offset).take (P.cellsOf fd.type) ++ cs.drop (fd.offset + P.cellsOf fd.type) := by
            rw [← List.drop_drop, List.take_append_drop]
          rw [e]
          exact (k2.mono k3.le).append k4
        · cases h
      · cases h

/-- pieces of one length, put together -/
theorem chunks {α : Type} (sz : Nat) : ∀ (n : Nat) (l : List α), l.length = n * sz → ((List.range n).map fun i => (l.drop (i * sz)).take sz).flatten = l
  | 0, l, h => by
    have : l = [] := List.length_eq_zero_iff.1 (by simpa using h)
    simp [this]
  | n + 1, l, h => by
    rw [List.range_succ_eq_map, List.map_cons, List.map_map, List.flatten_cons]
    have e : ((fun i => (l.drop (i * sz)).take sz) ∘ Nat.succ) = fun i => ((l.drop sz).drop (i * sz)).take sz := by
      funext i
      simp only [Function.comp, List.drop_drop]
      rw [show (i.succ) * sz = sz + i * sz by rw [Nat.succ_mul]; omega]
    rw [e, chunks sz n (l.drop sz) (by rw [List.length_drop, h, Nat.succ_mul]; omega)]
    simp

theorem flat_get {α : Type} (sz : Nat) : ∀ (css : List (List α)), (∀ c ∈ css, c.length = sz) → ∀ (i r : Nat), r < sz → css.flatten[i * sz + r]? = (css[i]?).bind fun c => c[r]?
  | [], _, i, r, _ => by simp
  | c :: css, h, 0, r, hr => by
    have hc := h c (by simp)
    rw [List.flatten_cons, List.getElem?_append_left (by omega)]
    simp
  | c :: css, h, i + 1, r, hr => by
    have hc := h c (by simp)
    rw [List.flatten_cons, List.getElem?_append_right (by rw [Nat.succ_mul]; omega)]
    rw [show (i + 1) * sz + r - c.length = i * sz + r by rw [Nat.succ_mul]; omega]
    rw [flat_get sz css (fun c hc => h c (List.mem_cons_of_mem _ hc)) i r hr]
    simp

theorem flat_len {α : Type} (sz : Nat) : ∀ (css : List (List α)), (∀ c ∈ css, c.length = sz) → css.flatten.length = css.length * sz
  | [], _ => by simp
  | c :: css, h => by
    rw [List.flatten_cons, List.length_append, flat_len sz css (fun c hc => h c (List.mem_cons_of_mem _ hc)), h c (by simp), List.length_cons, Nat.succ_mul]; omega

theorem add_add (a : Addr) (x y : Nat) : (a.add x).add y = a.add (x + y) := by
  unfold Addr.add
  by_cases hx : x = 0 <;> by_cases hy : y = 0 <;> simp [hx, hy, Nat.add_assoc]

theorem plain_add (a : Addr) (h : a.spot = none) (j : Nat) : a.add j = ⟨a.block, a.off + j, none⟩ := by
  obtain ⟨b, o, s⟩ := a
  cases h
  exact add_off b o j
theorem plain_eq (a : Addr) (h : a.spot = none) : a = ⟨a.block, a.off + 0, none⟩ := by
  obtain ⟨b, o, s⟩ := a
  cases h
  rfl

theorem abs_ok (hsp1 : ∀ b, sp b = true) : ∀ (k : Nat) (t : TypeId) (n : Nat) (cs : List Value) (x : DataW H × List MemPlace), DataW.trod enc P w base sp held n t cs = some x → Abs P w (absD P k t) x.1 cs := by
  intro k
  induction k with
  | zero => intro t n cs x _ m A c A' _ _ h; simp [absD] at h
  | succ k ih =>
    intro t n cs x hd m A c A' hA hs h
    simp only [absD] at h
    split at h
    · rename_i b ht hx
      obtain ⟨b', rfl, hx'⟩ := DataW.trod_bool ht hd
      rw [hx'] at hx
      simp only [DataW.lit.injEq, Lit.bool.injEq] at hx
      subst hx
      simp only [Option.some.injEq, Prod.mk.injEq] at h
      obtain ⟨rfl, rfl⟩ := h
      exact ⟨m, .refl hA hs, .cons (by simp [VR]) .nil⟩
    · rename_i k0 k1 i ht hx
      obtain ⟨i', rfl, hx', _⟩ := DataW.trod_int ht hd
      rw [hx'] at hx
      simp only [DataW.lit.injEq, Lit.int.injEq] at hx
      obtain ⟨rfl, rfl⟩ := hx
      simp only [Option.some.injEq, Prod.mk.injEq] at h
      obtain ⟨rfl, rfl⟩ := h
      exact ⟨m, .refl hA hs, .cons (by simp [VR]) .nil⟩
    · rename_i s ht hx
      obtain ⟨s', rfl, hx', _⟩ := DataW.trod_string ht hd
      rw [hx'] at hx
      simp only [DataW.lit.injEq, Lit.string.injEq] at hx
      subst hx
      simp only [Option.some.injEq, Prod.mk.injEq] at h
      obtain ⟨rfl, rfl⟩ := h
      exact ⟨m, .refl hA hs, .cons (by simp [VR, bytes]) .nil⟩
    · rename_i e ht hx
      rcases DataW.trod_slice ht hd with ⟨rfl, _⟩ | ⟨a, len, cap, elems, rest, n', rfl, rfl, hx', _⟩
      · simp only [Option.some.injEq, Prod.mk.injEq] at h
        obtain ⟨rfl, rfl⟩ := h
        exact ⟨m, .refl hA hs, .cons (by simp [VR]) .nil⟩
      · rw [hx'] at hx; cases hx
    · rename_i e xs ys ht hx
      cases hz : (P.cellsOf e).beq 0 with
      | true => simp [hz] at h
      | false =>
        simp only [hz, cond_false] at h
        have hz : P.cellsOf e ≠ 0 := fun e0 => by rw [e0] at hz; cases hz
        split at h
        · rename_i cs1 A1 h1
          simp only [Option.some.injEq, Prod.mk.injEq] at h
          obtain ⟨rfl, rfl⟩ := h
          rcases DataW.trod_slice ht hd with ⟨_, hx'⟩ | ⟨a, len, cap, elems, rest, n', rfl, rfl, hx', hbase, hlc, hmx, hlen, hel, hsp, hns⟩
          · rw [hx'] at hx; cases hx
          · rw [hx'] at hx
            simp only [DataW.slice.injEq] at hx
            obtain ⟨rfl, rfl⟩ := hx
            rw [← List.map_append] at h1
            have each : ∀ i y, (elems ++ rest)[i]? = some y → ∃ ci, w.cells? base (a.add (i * P.cellsOf e)) (P.cellsOf e) = some ci ∧ DataW.trod enc P w base sp held n' e ci = some y := by
              intro i y hy
              have hb' : (w.cells? base (a.add (i * P.cellsOf e)) (P.cellsOf e)).bind (DataW.trod enc P w base sp held n' e) = some y := by
                by_cases hi : i < len
                · rw [hel i hi, ← hy, List.getElem?_append_left (by omega)]
                · have hi' : i - len < rest.length := by
                    have := (List.getElem?_eq_some_iff.1 hy).1
                    simp at this
                    omega
                  cases hs' : sp a.block with
                  | false => rw [hns hs'] at hi'; simp at hi'
                  | true =>
                    obtain ⟨hrl, hr⟩ := hsp hs'
                    have := hr (i - len) (by omega)
                    rw [show len + (i - len) = i by omega] at this
                    rw [this, ← hy, List.getElem?_append_right (by omega), hlen]
              exact Option.bind_eq_some_iff.1 hb'
            have hcap : cap = elems.length + rest.length := by have := (hsp (hsp1 _)).1; omega
            let css : List (List Value) := (List.range (elems ++ rest).length).map fun i => (w.cells? base (a.add (i * P.cellsOf e)) (P.cellsOf e)).getD []
            have hcss : ∀ i ci, css[i]? = some ci → ∃ y, (elems ++ rest)[i]? = some y ∧ w.cells? base (a.add (i * P.cellsOf e)) (P.cellsOf e) = some ci ∧ DataW.trod enc P w base sp held n' e ci = some y := by
              intro i ci hci
              simp only [css, List.getElem?_map] at hci
              have hi : i < (elems ++ rest).length := by
                by_cases hi : i < (elems ++ rest).length
                · exact hi
                · rw [List.getElem?_eq_none (by simp at hi ⊢; omega)] at hci; cases hci
              rw [List.getElem?_range hi] at hci
              obtain ⟨ci', h2, h3⟩ := each i _ (List.getElem?_eq_getElem hi)
              simp only [Option.map_some, h2, Option.getD_some, Option.some.injEq] at hci
              subst hci
              exact ⟨_, List.getElem?_eq_getElem hi, h2, h3⟩
            have hlen1 : ∀ c ∈ css, c.length = P.cellsOf e := by
              intro c hc
              obtain ⟨i, hi⟩ := List.getElem?_of_mem hc
              obtain ⟨y, _, h2, _⟩ := hcss i c hi
              exact (World.cells?_some h2).2.1
            have hcl : css.length = (elems ++ rest).length := by simp [css]
            obtain ⟨m1, k1, k2⟩ := absL_ok _ css (by rw [hcl, List.length_map]) (fun i d ci hdd hci => by
              obtain ⟨y, hy, _, h3⟩ := hcss i ci hci
              rw [List.getElem?_map, hy] at hdd
              cases hdd
              exact ih _ _ _ _ h3) m A cs1 A1 hA hs h1
            by_cases hn : css = []
            · have h0 : (elems ++ rest).length = 0 := by rw [← hcl, hn]; rfl
              rw [List.length_append] at h0
              refine ⟨m1, k1.trans (Adds.blank k1.agree k1.still _), .cons ?_ .nil⟩
              simp only [VR, List.length_map]
              exact ⟨a, by rw [hcap, hlen], by omega, .inl (by omega)⟩
            · have hfl := flat_len _ css hlen1
              have hpos : 0 < css.length := List.length_pos_iff.2 hn
              have hcell : ∀ j, j < css.flatten.length → w.cell? (a.add j) = css.flatten[j]? := by
                intro j hj
                have hq : j / P.cellsOf e < css.length := by
                  rw [Nat.div_lt_iff_lt_mul (by omega)]; omega
                have hr := Nat.mod_lt j (show 0 < P.cellsOf e by omega)
                obtain ⟨y, _, h2, _⟩ := hcss (j / P.cellsOf e) _ (List.getElem?_eq_getElem hq)
                have h3 := (World.cells?_some h2).2.2 (j % P.cellsOf e) hr
                rw [add_add, Nat.div_add_mod'] at h3
                rw [h3]
                have h4 := flat_get _ css hlen1 (j / P.cellsOf e) (j % P.cellsOf e) hr
                rw [Nat.div_add_mod'] at h4
                rw [h4, List.getElem?_eq_getElem hq]
                rfl
              have hne : css.flatten ≠ [] := by
                intro e0
                rw [e0] at hfl
                have := Nat.mul_pos hpos (show 0 < P.cellsOf e by omega)
                simp at hfl; omega
              have hfpos := List.length_pos_iff.2 hne
              have hc0 := hcell 0 hfpos
              rw [List.getElem?_eq_getElem hfpos] at hc0
              have ha0 : a.add 0 = a := by simp [Addr.add]
              rw [ha0] at hc0
              unfold World.cell? at hc0
              split at hc0
              · rename_i arr e' fr hh
                have hspot : a.spot = none := by
                  cases hsp' : a.spot with
                  | none => rfl
                  | some _ => simp [hsp'] at hc0
                have hw : ∀ j, j < css.flatten.length → arr[a.off + j]? = css.flatten[j]? := by
                  intro j hj
                  rw [← hcell j hj]
                  rw [plain_add a hspot, cell?_cells hh]
                have K := Adds.block (e := e) k1.agree k1.still hh k2 hw hne
                refine ⟨_, k1.trans K, .cons ?_ .nil⟩
                simp only [VR, List.length_map]
                exact ⟨a, by rw [hcap, hlen], by omega, .inr ⟨_, Map.plus_same .., plain_eq a hspot⟩⟩
              · cases hc0
        · cases h
    · rename_i fs xs ht hx
      obtain ⟨ys, n', rfl, hx', hcl, hyl, hf⟩ := DataW.trod_struct ht hd
      rw [hx'] at hx
      simp only [DataW.agg.injEq] at hx
      subst hx
      rw [← hcl] at h
      have := absF_ok fs.toList (ys.map (·.1)) 0 (fun i fd d hfd hdd => by
        rw [Array.getElem?_toList] at hfd
        have h1 := hf i fd hfd
        rw [List.getElem?_map] at hdd
        cases hy : ys[i]? with
        | none => rw [hy] at hdd; cases hdd
        | some y =>
          rw [hy] at hdd h1
          cases hdd
          exact ih _ _ _ _ h1) m A c A' hA hs h
      simpa using this
    · rename_i n0 e xs ht hx
      cases hz : (P.cellsOf t).beq (xs.length * P.cellsOf e) with
      | false => simp [hz] at h
      | true =>
        simp only [hz, cond_true] at h
        have hz := Nat.eq_of_beq_eq_true hz
        obtain ⟨ys, n', rfl, hx', hcl, hyl, hf⟩ := DataW.trod_array ht hd
        rw [hx'] at hx
        simp only [DataW.agg.injEq] at hx
        subst hx
        rw [List.length_map, hyl] at hz
        rw [hz] at hcl
        have := absL_ok (ys.map (·.1)) ((List.range n0).map fun i => (cs.drop (i * P.cellsOf e)).take (P.cellsOf e)) (by simp [hyl]) (fun i d ci hdd hci => by
          rw [List.getElem?_map] at hdd hci
          have hi : i < n0 := by
            by_cases hi : i < n0
            · exact hi
            · rw [List.getElem?_eq_none (by simp; omega)] at hci; cases hci
          rw [List.getElem?_range hi] at hci
          simp only [Option.map_some, Option.some.injEq] at hci
          subst hci
          have h1 := hf i hi
          cases hy : ys[i]? with
          | none => rw [hy] at hdd; cases hdd
          | some y =>
            rw [hy] at hdd h1
            cases hdd
            exact ih _ _ _ _ h1) m A c A' hA hs h
        rwa [chunks _ _ _ hcl] at this
    · cases h

end

end Go.Fold

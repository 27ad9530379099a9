/-
  A part of the road: an evaluator over abstract memory with a proved simulation, and what is reckoned by it. Written by an AI agent; no person has read it.
-/
import Derived.Test.YtebjajchdidnfaaGreatDoorFoldData
set_option linter.all false
namespace Go.Fold
open Go.RowKit
variable {P : Program} {H : Type}

/-! ### The package-level variables that are laid -/

/-- every package-level variable, of which nothing is told yet -/
def globMap (P : Program) (w : World) : Map := fun g =>
  if g < P.globals.size then some ⟨g, 0, (match w.heap[g]? with | some (.cells cs _ _) => cs.size | _ => 0), P.cellsOf ((P.globals[g]?).elim 0 (·.type))⟩ else none

theorem globMap_some {w : World} {B : Nat} {x : Img} (h : globMap P w B = some x) : B < P.globals.size ∧ x.blk = B := by
  unfold globMap at h
  split at h
  · rename_i hb; cases h; exact ⟨hb, rfl⟩
  · cases h

theorem glob_start {w : World} (hw : P.globals.size ≤ w.heap.size) : Agree P (globMap P w) ⟨P.globals.size, .nil⟩ w where
  glob := fun g hg => ⟨_, if_pos hg, rfl, rfl⟩
  blk := fun B x b _ hb => by simp [AH.get, T.get] at hb
  lt := fun B x hx => by
    obtain ⟨h1, h2⟩ := globMap_some hx
    exact ⟨h1, by omega⟩
  inj := fun B B' x x' b b' _ hb => by simp [AH.get, T.get] at hb
  top := fun B b hb => by simp [AH.get, T.get] at hb

theorem still_start {m : Map} {n : Nat} : Still m ⟨n, .nil⟩ := fun B x b _ hb => by simp [AH.get, T.get] at hb

/-- a variable is told -/
theorem Adds.tell {w : World} {m : Map} {A : AH} (h : Agree P m A w) (hs : Still m A) {g : Nat} {x : Img} (hx : m g = some x) {c : List AV} {e : TypeId} {o : Obj} (ho : w.heap[x.blk]? = some o) (hb : BR P m x (.cells c e true) o) :
    Agree P m (A.put g (.cells c e true)) w ∧ Still m (A.put g (.cells c e true)) := by
  refine ⟨⟨⟨h.glob, fun B y b hy hg => ?_⟩, fun B y hy => by simpa [AH.next_put] using h.lt B y hy, fun B B' y y' b b' hy hg hw hy' hg' hd he => ?_, fun B b hg => ?_⟩, fun B y b hy hg => ?_⟩
  · by_cases hB : B = g
    · subst hB
      rw [AH.get_put_same] at hg; cases hg
      rw [hx] at hy; cases hy
      exact ⟨o, ho, hb⟩
    · rw [AH.get_put_other _ _ _ _ hB] at hg
      exact h.blk B y b hy hg
  · by_cases hB : B = g
    · subst hB
      rw [AH.get_put_same] at hg; cases hg; simp [AB.wr] at hw
    · rw [AH.get_put_other _ _ _ _ hB] at hg
      rw [hs B y b hy hg] at hw; cases hw
  · by_cases hB : B = g
    · subst hB; exact (h.lt _ _ hx).1
    · rw [AH.get_put_other _ _ _ _ hB] at hg
      exact h.top B b hg
  · by_cases hB : B = g
    · subst hB
      rw [AH.get_put_same] at hg; cases hg; rfl
    · rw [AH.get_put_other _ _ _ _ hB] at hg
      exact hs B y b hy hg

/-- abstract memory, once all that are laid are told -/
def laidA (P : Program) (k : Nat) : List (String × DataW H) → AH → Option AH
  | [], A => some A
  | (n, d) :: r, A => match P.globalNamed n with
    | some g => match P.globals[g]? with
      | some gl => match absD P k gl.type d A with
        | some (c, A1) => laidA P k r (A1.put g (.cells c gl.type true))
        | none => none
      | none => none
    | none => none

theorem laid_ok {k : Nat} {w : World} : ∀ (laid : List (String × DataW Unit)) (ps : List MemPlace), DataW.LaidVars P w laid ps → ∀ (m : Map) (A A' : AH), (globMap P w).le m → Agree P m A w → Still m A → laidA P k laid A = some A' →
    ∃ m', m.le m' ∧ Agree P m' A' w ∧ Still m' A'
  | [], ps, _, m, A, A', _, hA, hs, h => by
    simp only [laidA, Option.some.injEq] at h
    subst h
    exact ⟨m, .refl m, hA, hs⟩
  | (n, d) :: r, ps, hl, m, A, A', hgm, hA, hs, h => by
    obtain ⟨g, t, cs, fuel, p, q, hg, ht, hv, hd, hrest, _⟩ := hl
    simp only [laidA, hg] at h
    cases hgl : P.globals[g]? with
    | none => rw [hgl] at ht; cases ht
    | some gl =>
      rw [hgl] at ht
      simp only [Option.map_some, Option.some.injEq] at ht
      subst ht
      simp only [hgl] at h
      split at h
      · rename_i c A1 h1
        obtain ⟨m1, k1, k2⟩ := abs_ok (fun _ => rfl) k gl.type fuel cs.toList _ hd m A c A1 hA hs h1
        have hlt : g < P.globals.size := (Array.getElem?_eq_some_iff.1 hgl).1
        have hmg : globMap P w g = some ⟨g, 0, (match w.heap[g]? with | some (.cells cs _ _) => cs.size | _ => 0), P.cellsOf ((P.globals[g]?).elim 0 (·.type))⟩ := if_pos hlt
        have hx := k1.le _ _ (hgm _ _ hmg)
        unfold World.var? at hv
        rw [hg] at hv
        simp only [Option.bind_some] at hv
        split at hv
        · rename_i cs' e' fr hh
          simp only [Option.some.injEq] at hv
          subst hv
          have hlen := k2.length
          have hbr : BR P m1 ⟨g, 0, (match w.heap[g]? with | some (.cells cs _ _) => cs.size | _ => 0), P.cellsOf ((P.globals[g]?).elim 0 (·.type))⟩ (.cells c gl.type true) (.cells cs' e' fr) := by
            refine ⟨cs', e', fr, rfl, (fun hf => by cases hf), by simp only [hh], by simp only [hgl]; rfl, ?_, ?_, (fun hf => by cases hf)⟩
            · simp only [hh]; simp at hlen; omega
            · have : (cs'.toList.drop 0).take c.length = cs'.toList := by rw [List.drop_zero, ← hlen, List.take_length]
              simp only
              rw [this]; exact k2
          obtain ⟨t1, t2⟩ := Adds.tell k1.agree k1.still hx (o := .cells cs' e' fr) hh hbr
          obtain ⟨m2, j1, j2, j3⟩ := laid_ok r q hrest m1 _ A' (hgm.trans k1.le) t1 t2 h
          exact ⟨m2, k1.le.trans j1, j2, j3⟩
        · cases hv
      · cases h

/-- what the world's shape says of its size -/
theorem globals_le {w : World} (hs : w.ShapedOpen P) (hz : ∀ g, g < P.globals.size → (((begin P (fun _ _ => 0) default).world.heap[g]?).bind Obj.row?).isSome = true) : P.globals.size ≤ w.heap.size := by
  by_cases h : P.globals.size = 0
  · omega
  · have hg : P.globals.size - 1 < P.globals.size := by omega
    have h1 := hz _ hg
    cases h2 : ((begin P (fun _ _ => 0) default).world.heap[P.globals.size - 1]?).bind Obj.row? with
    | none => rw [h2] at h1; cases h1
    | some x =>
      obtain ⟨zero, t⟩ := x
      obtain ⟨cs, h3, _⟩ := hs.1 _ zero t hg h2
      have := (Array.getElem?_eq_some_iff.1 h3).1
      omega

/-- the start of a call: what is laid is told -/
theorem start_ok {k : Nat} {w : World} {laid : List (String × DataW Unit)} (hl : laidMet P laid w) (hw : P.globals.size ≤ w.heap.size) {A' : AH} (h : laidA P k laid ⟨P.globals.size, .nil⟩ = some A') : ∃ m', Agree P m' A' w ∧ Still m' A' := by
  obtain ⟨ps, h1, _⟩ := hl
  obtain ⟨m', _, h2, h3⟩ := laid_ok laid ps h1 _ _ A' (.refl _) (glob_start hw) still_start h
  exact ⟨m', h2, h3⟩

end Go.Fold

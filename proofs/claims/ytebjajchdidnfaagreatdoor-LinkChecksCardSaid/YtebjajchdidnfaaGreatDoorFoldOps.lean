/-
  A part of the road: an evaluator over abstract memory with a proved simulation, and what is reckoned by it. Written by an AI agent; no person has read it.
-/
import Derived.Test.YtebjajchdidnfaaGreatDoorFoldHeap
import Derived.Laws.Cells
import Derived.Laws.World
set_option linter.all false
namespace Go.Fold
variable {P : Program}

/-! ### The model's small questions -/

theorem run_underlying {t : TypeId} {d : TypeDesc} (h : P.underlying t = some d) (w : World) : (underlying t).run P w = .ok d w := by
  simp [underlying, h, Result.andThen]

theorem run_typeInfo {t : TypeId} {i : TypeInfo} (h : P.info? t = some i) (w : World) : (typeInfo t).run P w = .ok i w := by
  simp [typeInfo, h, Result.andThen]

theorem run_sizeOf {t : TypeId} {n : Nat} (h : sizeA P t = some n) (w : World) : (sizeOf t).run P w = .ok n w := by
  unfold sizeA at h
  split at h
  · rename_i i hi
    simp only [Option.some.injEq] at h; subst h
    simp [sizeOf, run_typeInfo hi, Result.andThen]
  · simp at h

theorem sizeA_info {t : TypeId} {n : Nat} (h : sizeA P t = some n) : ∃ i, P.info? t = some i ∧ i.size = n := by
  unfold sizeA at h
  split at h
  · rename_i i hi; exact ⟨i, hi, by simpa using h⟩
  · simp at h

theorem sizeA_cells {t : TypeId} {n : Nat} (h : sizeA P t = some n) : P.cellsOf t = n := by
  obtain ⟨i, hi, rfl⟩ := sizeA_info h
  simp [Program.cellsOf, hi]

theorem run_isAgg {t : TypeId} {b : Bool} (h : isAgg P t = some b) (w : World) : (Go.isAgg t).run P w = .ok b w := by
  unfold isAgg at h
  split at h
  · rename_i fs hu; simp only [Option.some.injEq] at h; subst h; simp [Go.isAgg, run_underlying hu, Result.andThen]
  · rename_i n e hu; simp only [Option.some.injEq] at h; subst h; simp [Go.isAgg, run_underlying hu, Result.andThen]
  · rename_i d h1 h2 hu
    simp only [Option.some.injEq] at h; subst h
    simp only [Go.isAgg, Sem.run_bind, run_underlying hu, Result.andThen_ok]
    cases d with
    | struct fs => exact (h1 fs rfl).elim
    | array n e => exact (h2 n e rfl).elim
    | _ => rfl
  · simp at h

/-! ### Lists -/

theorem sub_eq {l : List AV} {o n : Nat} {r : List AV} (h : sub l o n = some r) : o + n ≤ l.length ∧ r = (l.drop o).take n := by
  unfold sub at h
  cases hb : Nat.ble (o + n) l.length with
  | false => simp [hb] at h
  | true => simp only [hb, cond_true, Option.some.injEq] at h; exact ⟨of_nble hb, h.symm⟩

theorem sub_length {l : List AV} {o n : Nat} {r : List AV} (h : sub l o n = some r) : r.length = n := by
  obtain ⟨h1, rfl⟩ := sub_eq h
  simp; omega

theorem spliceL_eq : ∀ (l : List AV) (o : Nat) (vs : List AV), o + vs.length ≤ l.length → spliceL l o vs = l.take o ++ vs ++ l.drop (o + vs.length)
  | l, o, [], _ => by cases l <;> cases o <;> simp [spliceL]
  | [], o, v :: vs, h => by simp at h
  | x :: l, 0, v :: vs, h => by
    simp only [spliceL, List.take_zero, List.nil_append, Nat.zero_add, List.length_cons, List.drop_succ_cons]
    rw [spliceL_eq l 0 vs (by simp at h; omega)]
    simp
  | x :: l, o + 1, v :: vs, h => by
    simp only [spliceL]
    rw [spliceL_eq l o (v :: vs) (by simp at h ⊢; omega), show o + 1 + (v :: vs).length = o + (v :: vs).length + 1 by omega, List.drop_succ_cons, List.take_succ_cons]
    simp

theorem splice_eq {l : List AV} {o : Nat} {vs r : List AV} (h : splice l o vs = some r) : o + vs.length ≤ l.length ∧ r = l.take o ++ vs ++ l.drop (o + vs.length) := by
  unfold splice at h
  cases hb : Nat.ble (o + vs.length) l.length with
  | false => simp [hb] at h
  | true =>
    simp only [hb, cond_true, Option.some.injEq] at h
    have := of_nble hb
    exact ⟨this, h.symm.trans (spliceL_eq _ _ _ this)⟩

theorem cut_cut {α : Type} (L : List α) (sh n o k : Nat) (h : o + k ≤ n) : ((((L.drop sh).take n).drop o).take k) = (L.drop (sh + o)).take k := by
  rw [List.drop_take, List.take_take, List.drop_drop]
  congr 1; omega

/-! ### Cells of the model -/

theorem cell?_cells {w : World} {b : Nat} {cs : Array Value} {e : TypeId} {fr : Nat × Nat} (h : w.heap[b]? = some (.cells cs e fr)) (o : Nat) : w.cell? ⟨b, o, none⟩ = cs[o]? := by
  simp [World.cell?, h]

theorem add_off (b o j : Nat) : (⟨b, o, none⟩ : Addr).add j = ⟨b, o + j, none⟩ := by unfold Addr.add; split <;> simp_all

theorem run_loadCells_heap {w : World} {b : Nat} {cs : Array Value} {e : TypeId} {fr : Nat × Nat} (h : w.heap[b]? = some (.cells cs e fr)) (o n : Nat) (hn : o + n ≤ cs.size) :
    (loadCells ⟨b, o, none⟩ n).run P w = .ok ((cs.toList.drop o).take n).toArray w := by
  have := run_loadCells_list (P := P) w ⟨b, o, none⟩ ((cs.toList.drop o).take n) (fun j v hv => by
    rw [add_off, cell?_cells h]
    have hj : j < n := by
      by_cases hj : j < n
      · exact hj
      · rw [List.getElem?_eq_none (by simp; omega)] at hv; cases hv
    rw [List.getElem?_take_of_lt hj, List.getElem?_drop] at hv
    simpa using hv)
  have hl : ((cs.toList.drop o).take n).length = n := by simp; omega
  rw [hl] at this
  exact this

theorem run_load_heap {w : World} {b : Nat} {cs : Array Value} {e : TypeId} {fr : Nat × Nat} (h : w.heap[b]? = some (.cells cs e fr)) {o : Nat} {v : Value} (hv : cs[o]? = some v) :
    (load ⟨b, o, none⟩).run P w = .ok v w := by
  rw [run_load, cell?_cells h, hv]

/-- the cells of an agreed block, from an offset on -/
theorem Look.cells {m : Map} {A : AH} {w : World} (h : Look P m A w) {B : Nat} {x : Img} {c : List AV} {e : TypeId} {fz : Bool} (hm : m B = some x) (hg : A.get B = some (.cells c e fz)) :
    ∃ (cs : Array Value) (e' : TypeId) (fr : Nat × Nat), w.heap[x.blk]? = some (.cells cs e' fr) ∧ (fz = false → e' = e ∧ x.sz ∣ x.sh ∧ x.sz ∣ x.tot) ∧ cs.size = x.tot ∧ x.sz = P.cellsOf e ∧ x.sh + c.length ≤ x.tot ∧
      LR m c ((cs.toList.drop x.sh).take c.length) ∧ (fz = false → fr.1 = fr.2 ∨ (x.tot ≤ fr.1 ∧ P.underlying e = some (.int .u8))) := by
  obtain ⟨o, ho, cs, e', fr, rfl, r⟩ := h.blk _ _ _ hm hg
  exact ⟨cs, e', fr, ho, r⟩

theorem cellsAt_eq {A : AH} {b : Nat} {c : List AV} {e : TypeId} {fz : Bool} (h : cellsAt A b = some (c, e, fz)) : A.get b = some (.cells c e fz) := by
  unfold cellsAt at h
  split at h
  · rename_i c' e' f' hg
    simp only [Option.some.injEq, Prod.mk.injEq] at h
    obtain ⟨rfl, rfl, rfl⟩ := h; exact hg
  · simp at h

theorem partA_rel {m : Map} {t : TypeId} {c : List AV} {off : Nat} {v : AV} (h : partA P t c off = some v) {cs : Array Value} (hr : LR m c cs.toList) (w : World) :
    ∃ u, (part t cs off).run P w = .ok u w ∧ VR m v u := by
  unfold partA at h
  split at h
  · rename_i hag
    split at h
    · rename_i i hi
      split at h
      · rename_i l hl
        simp only [Option.some.injEq] at h; subst h
        obtain ⟨h1, rfl⟩ := sub_eq hl
        refine ⟨.agg (cs.extract off (off + i.size)), ?_, ?_⟩
        · simp [part, run_isAgg hag, Result.andThen, sizeOf, run_typeInfo hi]
        · simp only [VR]
          refine ⟨_, rfl, ?_⟩
          have := LR.take i.size (LR.drop off hr)
          simpa [Array.toList_extract, List.extract_eq_take_drop] using this
      · simp at h
    · simp at h
  · rename_i hag
    obtain ⟨u, hu, hv⟩ := hr.get? _ _ h
    refine ⟨u, ?_, hv⟩
    have : cs[off]? = some u := by simpa using hu
    simp [part, run_isAgg hag, Result.andThen, this]
  · simp at h

theorem loadA_rel {m : Map} {A : AH} {w : World} (hA : Look P m A w) {ty : TypeId} {b o : Nat} {v : AV} (h : loadA P A ty b o = some v) {p : Addr} (hp : PR m (b, o) p) :
    ∃ u, (loadVar ty p).run P w = .ok u w ∧ VR m v u := by
  unfold loadA at h
  split at h
  · rename_i c p' hc
    obtain ⟨e, fz⟩ := p'
    obtain ⟨x, hx, rfl⟩ := hp
    obtain ⟨cs, _, fr, hh, _, htot, hsz, hle, hl, _⟩ := hA.cells hx (cellsAt_eq hc)
    unfold partA at h
    split at h
    · rename_i hag
      split at h
      · rename_i i hi
        split at h
        · rename_i l hl'
          simp only [Option.some.injEq] at h; subst h
          obtain ⟨h1, rfl⟩ := sub_eq hl'
          refine ⟨.agg ((cs.toList.drop (x.sh + o)).take i.size).toArray, ?_, ?_⟩
          · simp [loadVar, run_isAgg hag, Result.andThen, sizeOf, run_typeInfo hi, run_loadCells_heap hh (x.sh + o) i.size (by omega)]
          · simp only [VR]
            refine ⟨_, rfl, ?_⟩
            have := LR.take i.size (LR.drop o hl)
            rw [cut_cut _ _ _ _ _ h1] at this
            simpa using this
        · simp at h
      · simp at h
    · rename_i hag
      obtain ⟨u, hu, hv⟩ := hl.get? _ _ h
      have ho : o < c.length := by
        by_cases ho : o < c.length
        · exact ho
        · rw [List.getElem?_eq_none (by omega)] at h; cases h
      rw [List.getElem?_take_of_lt ho, List.getElem?_drop] at hu
      refine ⟨u, ?_, hv⟩
      simp [loadVar, run_isAgg hag, Result.andThen, cell?_cells hh, show cs[x.sh + o]? = some u by simpa using hu]
    · simp at h
  · simp at h

end Go.Fold

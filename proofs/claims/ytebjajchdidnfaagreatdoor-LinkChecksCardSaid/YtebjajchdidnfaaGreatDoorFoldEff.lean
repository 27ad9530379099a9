/-
  A part of the road: an evaluator over abstract memory with a proved simulation, and what is reckoned by it. Written by an AI agent; no person has read it.
-/
import Derived.Test.YtebjajchdidnfaaGreatDoorFoldMake2
set_option linter.all false
namespace Go.Fold
variable {P : Program} {m : Map} {A : AH} {w : World} {t : AT} {a : Act}

theorem set_self {α : Type} (a : Array α) (i : Nat) (x : α) (h : a[i]? = some x) : a.setIfInBounds i x = a := by
  apply Array.ext_getElem?
  intro j
  rw [Array.getElem?_setIfInBounds]
  by_cases hj : i = j
  · subst hj
    have hlt : i < a.size := by
      by_cases hlt : i < a.size
      · exact hlt
      · rw [Array.getElem?_eq_none (Nat.le_of_not_lt hlt)] at h; cases h
    have he : a[i] = x := by rw [Array.getElem?_eq_getElem hlt] at h; exact Option.some.inj h
    simp [hlt, he]
  · simp [hj]

theorem set_set {α : Type} (a : Array α) (i : Nat) (x y : α) : (a.setIfInBounds i x).setIfInBounds i y = a.setIfInBounds i y := by
  apply Array.ext_getElem?
  intro j
  rw [Array.getElem?_setIfInBounds, Array.getElem?_setIfInBounds, Array.getElem?_setIfInBounds]
  by_cases hj : i = j
  · subst hj; simp
  · simp [hj]

theorem setCell_eq {b : Nat} {cs : Array Value} {e : TypeId} {fr : Nat × Nat} (h : w.heap[b]? = some (.cells cs e fr)) (o : Nat) (v : Value) :
    w.setCell ⟨b, o, none⟩ v = { w with heap := w.heap.setIfInBounds b (.cells (cs.setIfInBounds o v) e fr) } := by
  unfold World.setCell
  rw [modify_eq_set _ _ _ _ h]
  rfl

theorem run_storeCells_set {b o : Nat} {e : TypeId} {fr : Nat × Nat} : ∀ (vs : List Value) (i : Nat) (w : World) (cs : Array Value), w.heap[b]? = some (.cells cs e fr) → o + i + vs.length ≤ cs.size →
    (∀ j, j < vs.length → ¬ (fr.1 ≤ o + i + j ∧ o + i + j < fr.2)) → (∀ v ∈ vs, v.oneCell' = true) →
    ∃ cs' : Array Value, (storeCells ⟨b, o, none⟩ vs i).run P w = .ok () { w with heap := w.heap.setIfInBounds b (.cells cs' e fr) } ∧ cs'.toList = cs.toList.take (o + i) ++ vs ++ cs.toList.drop (o + i + vs.length)
  | [], i, w, cs, h, _, _, _ => by
    refine ⟨cs, ?_, by simp⟩
    rw [set_self _ _ _ h]; rfl
  | v :: vs, i, w, cs, h, hle, hf, h1 => by
    simp only [List.length_cons] at hle hf
    have hlt : o + i < cs.size := by omega
    have hst : (store ((⟨b, o, none⟩ : Addr).add i) v).run P w = .ok () { w with heap := w.heap.setIfInBounds b (.cells (cs.setIfInBounds (o + i) v) e fr) } := by
      rw [add_off, run_store P w _ v _ (h1 v (by simp)), cell?_cells h, Array.getElem?_eq_getElem hlt]
      have hfz : w.frozen? ⟨b, o + i, none⟩ = false := by
        have := hf 0 (by omega)
        simp only [World.frozen?, h]
        simpa using this
      simp only [hfz, Bool.false_eq_true, if_false]
      rw [setCell_eq h]
    have hb : b < w.heap.size := by
      by_cases hb : b < w.heap.size
      · exact hb
      · rw [Array.getElem?_eq_none (Nat.le_of_not_lt hb)] at h; cases h
    obtain ⟨cs', h2, h3⟩ := run_storeCells_set (b := b) (o := o) (e := e) (fr := fr) vs (i + 1) { w with heap := w.heap.setIfInBounds b (.cells (cs.setIfInBounds (o + i) v) e fr) } (cs.setIfInBounds (o + i) v) (by simp [hb]) (by simp; omega)
      (fun j hj => by have := hf (j + 1) (by omega); rwa [show o + i + (j + 1) = o + (i + 1) + j by omega] at this) (fun u hu => h1 u (List.mem_cons_of_mem _ hu))
    refine ⟨cs', ?_, ?_⟩
    · simp only [storeCells, Sem.run_bind, hst, Result.andThen_ok, h2]
      simp only [set_set]
    · rw [h3]
      simp only [Array.toList_setIfInBounds, List.length_cons]
      have hlt' : o + i < cs.toList.length := by simpa using hlt
      rw [List.take_set, List.drop_set_of_lt (by omega), show o + (i + 1) = o + i + 1 by omega, List.take_succ_eq_append_getElem hlt', List.set_append]
      simp only [List.length_take, Nat.min_eq_left (Nat.le_of_lt hlt'), Nat.lt_irrefl, if_false, Nat.sub_self, List.set_cons_zero]
      simp [Nat.add_comm, Nat.add_left_comm, Nat.add_assoc]

theorem VR.oneCell {v : AV} {u : Value} (h : VR m v u) (ho : v.oneCell = true) : u.oneCell' = true := by
  cases v <;> simp only [AV.oneCell, reduceCtorEq] at ho
  case bool => cases h.bool_inv; rfl
  case int => cases h.int_inv; rfl
  case str => obtain ⟨b, rfl, _⟩ := h.str_inv; rfl
  case ptr => obtain ⟨b, rfl, _⟩ := h.ptr_inv; rfl
  case slice => obtain ⟨b, k, rfl, _⟩ := h.slice_inv; rfl
  case mapv => obtain ⟨b, rfl, _⟩ := h.map_inv; rfl
  case fn => simp only [VR] at h; obtain ⟨f, x, y, rfl, _⟩ := h; rfl
  case nilFn => simp only [VR] at h; subst h; rfl
  case nilIface => simp only [VR] at h; subst h; rfl

theorem allOne_rel : ∀ {vs : List AV} {us : List Value}, allOne vs = true → LR m vs us → ∀ u ∈ us, u.oneCell' = true
  | [], us, _, hl, u, hu => by simp only [LR] at hl; subst hl; simp at hu
  | v :: vs, us, h, hl, u, hu => by
    simp only [LR] at hl
    obtain ⟨u0, us', rfl, h1, h2⟩ := hl
    simp only [allOne, List.all_cons, Bool.and_eq_true] at h
    rcases List.mem_cons.1 hu with rfl | hu
    · exact h1.oneCell h.1
    · exact allOne_rel (vs := vs) (by simpa [allOne] using h.2) h2 u hu

theorem notFrozen {fr : Nat × Nat} {tot i : Nat} {q : Prop} (h : fr.1 = fr.2 ∨ (tot ≤ fr.1 ∧ q)) (hi : i < tot) : ¬ (fr.1 ≤ i ∧ i < fr.2) := by
  rcases h with h | ⟨h, _⟩ <;> omega

theorem window {α : Type} (L vs : List α) (sh n o : Nat) (h1 : sh + n ≤ L.length) (h2 : o + vs.length ≤ n) :
    (((L.take (sh + o) ++ vs ++ L.drop (sh + o + vs.length)).drop sh).take n) = ((L.drop sh).take n).take o ++ vs ++ ((L.drop sh).take n).drop (o + vs.length) := by
  have e1 : (L.take (sh + o) ++ vs ++ L.drop (sh + o + vs.length)).drop sh = (L.drop sh).take o ++ vs ++ (L.drop sh).drop (o + vs.length) := by
    rw [List.append_assoc, List.drop_append_of_le_length (by simp; omega), List.drop_take, ← List.append_assoc]
    congr 1
    · congr 2; omega
    · rw [List.drop_drop]; congr 1; omega
  rw [e1]
  generalize hM : L.drop sh = M
  have hMl : n ≤ M.length := by rw [← hM]; simp; omega
  rw [List.take_append, List.take_append]
  have l1 : ((M.take o).take n) = (M.take n).take o := by rw [List.take_take, List.take_take]; congr 1; omega
  have l2 : vs.take (n - (M.take o).length) = vs := List.take_of_length_le (by simp; omega)
  have l3 : (M.drop (o + vs.length)).take (n - (M.take o ++ vs).length) = (M.take n).drop (o + vs.length) := by
    rw [List.drop_take]
    congr 1
    simp
    omega
  rw [l1, l2, l3]

theorem storeCellsA_rel (hA : Agree P m A w) {b o : Nat} {vs : List AV} {A' : AH} (h : storeCellsA A b o vs = some A') {us : List Value} (hl : LR m vs us) {p : Addr} (hp : PR m (b, o) p) :
    ∃ w', (storeCells p us).run P w = .ok () w' ∧ Sim P m A w m A' w' := by
  unfold storeCellsA at h
  split at h
  · rename_i c e f hg
    cases f with
    | true => simp at h
    | false =>
      simp only [cond_false] at h
      cases ho : allOne vs with
      | false => simp [ho] at h
      | true =>
        simp only [ho, cond_true] at h
        split at h
        · rename_i c' hs
          simp only [Option.some.injEq] at h; subst h
          obtain ⟨x, hx, rfl⟩ := hp
          obtain ⟨cs, e2, fr, hh, hfe, htot, hsz, hle, hlr, hfr⟩ := hA.cells hx hg
          obtain ⟨he2, hal⟩ := hfe rfl
          rw [he2] at hh
          obtain ⟨h1, rfl⟩ := splice_eq hs
          have hlen := hl.length
          obtain ⟨cs', h2, h3⟩ := run_storeCells_set (P := P) (o := x.sh + o) us 0 w cs hh (by omega) (fun j hj => notFrozen (hfr rfl) (by omega)) (allOne_rel ho hl)
          refine ⟨_, h2, Sim.turn hA b x _ _ (.cells cs' e fr) hx hg rfl rfl ⟨rfl, rfl, rfl⟩ ⟨cs', _, fr, rfl, fun _ => ⟨rfl, hal⟩, ?_, hsz, ?_, ?_, hfr⟩⟩
          · have : cs'.toList.length = cs.toList.length := by rw [h3]; simp; omega
            simpa [htot] using this
          · simp; omega
          · rw [h3]
            have hcl : (List.take o c ++ vs ++ List.drop (o + vs.length) c).length = c.length := by simp; omega
            rw [hcl, Nat.add_zero, window cs.toList us x.sh c.length o (by simp [htot]; omega) (by omega), hlen]
            exact ((LR.take o hlr).append hl).append (LR.drop _ hlr)
        · simp at h
  · simp at h

theorem storeA_rel (hA : Agree P m A w) {ty : TypeId} {b o : Nat} {v : AV} {A' : AH} (h : storeA P A ty b o v = some A') {u : Value} (hv : VR m v u) {p : Addr} (hp : PR m (b, o) p) :
    ∃ w', (storeVar ty p u).run P w = .ok () w' ∧ Sim P m A w m A' w' := by
  unfold storeA at h
  split at h
  · rename_i i hi
    cases hb : Nat.beq v.cells.length i.size with
    | false => simp [hb] at h
    | true =>
      simp only [hb, cond_true] at h
      have hsz : v.cells.length = i.size := Nat.eq_of_beq_eq_true hb
      have hl := cells_rel hv
      have hus : u.cells.size = i.size := by rw [← hsz, ← hl.length]; simp
      obtain ⟨w', h1, h2⟩ := storeCellsA_rel hA h hl hp
      refine ⟨w', ?_, h2⟩
      simp [storeVar, sizeOf, run_typeInfo hi, Result.andThen, hus, h1]
  · simp at h

theorem storeOpA_rel (hA : Agree P m A w) (ht : TR m t a.tmps) {ty : TypeId} {x v : Operand} {A' : AH} (h : storeOpA P A t ty x v = some A') :
    ∃ w', (Instr.storeAt ty (a.eval x) (a.eval v)).run P w = .ok () w' ∧ Sim P m A w m A' w' := by
  unfold storeOpA at h
  split at h
  · rename_i b o u hx hv
    have hr := eo hA.toLook ht hx
    simp only [VR] at hr
    obtain ⟨p, hp, he⟩ := hr
    obtain ⟨w', h1, h2⟩ := storeA_rel hA h (eo hA.toLook ht hv) hp
    exact ⟨w', by simp [Instr.storeAt, he, Instr.sureAddr, Result.andThen, h1], h2⟩
  · simp at h

/-! ### append and copy -/

theorem lenOfA_rel {x : AV} {n : Nat} (h : lenOfA x = some n) {u : Value} (hv : VR m x u) (w : World) : (Builtin.lenOf u).run P w = .ok n w := by
  unfold lenOfA at h
  split at h
  · simp only [Option.some.injEq] at h; subst h
    obtain ⟨b, rfl, rfl⟩ := hv.str_inv
    simp [Builtin.lenOf, bytes_length]
  · simp only [Option.some.injEq] at h; subst h
    obtain ⟨p, k, rfl, _⟩ := hv.slice_inv
    simp [Builtin.lenOf]
  · simp at h

theorem take_bytes (b : ByteArray) (n : Nat) : cellsOfBytes ((bytes b).take n) = cellsOfBytes ((b.data.toList.take n).map (·.toNat)) := by simp [bytes, List.map_take]

theorem firstA_rel (hA : Look P m A w) {e : TypeId} {n sz : Nat} {x : AV} {l : List AV} (hsz : sizeA P e = some sz) (h : firstA P A e n x = some l) {k : Nat} (hk : lenOfA x = some k) (hn : n ≤ k) {u : Value} (hv : VR m x u) :
    ∃ us : Array Value, (Builtin.firstCells sz n u).run P w = .ok us w ∧ LR m l us.toList := by
  unfold firstA at h
  split at h
  · simp only [Option.some.injEq] at h; subst h
    obtain ⟨b, rfl, rfl⟩ := hv.str_inv
    refine ⟨(b.extract 0 n).data.map fun c => .int .u8 c.toNat, by simp [Builtin.firstCells], ?_⟩
    rw [take_bytes]
    have := cellsOfBytes_rel m (b.data.toList.take n)
    simpa [ByteArray.data_extract, Array.toList_extract, List.extract_eq_take_drop] using this
  · simp only [Option.some.injEq] at h; subst h
    obtain ⟨p, k', rfl, hp⟩ := hv.slice_inv
    cases p with
    | some p => simp at hp
    | none => exact ⟨#[], by simp [Builtin.firstCells], by simp [LR]⟩
  · rename_i b o len cap
    split at h
    · rename_i sz' c p' hsz' hc
      obtain ⟨e', fz⟩ := p'
      rw [hsz] at hsz'; cases hsz'
      obtain ⟨h1, rfl⟩ := sub_eq h
      simp only [lenOfA, Option.some.injEq] at hk; subst hk
      have main : ∀ (q : Addr) (k : Nat), PR m (b, o) q → u = .slice (some q) len k → ∃ us : Array Value, (Builtin.firstCells sz n u).run P w = .ok us w ∧ LR m ((c.drop o).take (n * sz)) us.toList := by
        rintro q k ⟨y, hy, rfl⟩ rfl
        obtain ⟨cs, _, fr, hh, _, htot, _, hle, hlr, _⟩ := hA.cells hy (cellsAt_eq hc)
        have h2 := LR.take (n * sz) (LR.drop o hlr)
        rw [cut_cut _ _ _ _ _ h1] at h2
        refine ⟨_, ?_, by simpa using h2⟩
        simp only [Builtin.firstCells]
        exact run_loadCells_heap hh _ _ (by omega)
      have empty : ∀ (q : Addr) (k : Nat), n = 0 → u = .slice (some q) len k → ∃ us : Array Value, (Builtin.firstCells sz n u).run P w = .ok us w ∧ LR m ((c.drop o).take (n * sz)) us.toList := by
        rintro q k rfl rfl
        exact ⟨#[], by simp [Builtin.firstCells, loadCells, loadCellsFrom], by simp [LR]⟩
      cases cap with
      | some cap =>
        simp only [VR] at hv
        obtain ⟨q, he, hnn, hp⟩ := hv
        rcases hp with hp | hp
        · exact empty q cap (by omega) he
        · exact main q cap hp he
      | none =>
        simp only [VR] at hv
        obtain ⟨y, k, q, hy, he, _, hnn, hp⟩ := hv
        rcases hp with hp | hp
        · exact empty q k (by omega) he
        · exact main q k ⟨y, hy, hp⟩ he
    · simp at h
  · simp at h

theorem growBy_le (need : Nat) : ∀ (r c : Nat), c < need → Builtin.growBy need r c ≤ need + need / 4 + 192 ∨ Builtin.growBy need r c < need
  | 0, c, h => .inr (by simpa [Builtin.growBy] using h)
  | r + 1, c, h => by
    unfold Builtin.growBy
    rw [if_neg (by omega)]
    by_cases h2 : c + (c + 768) / 4 < need
    · exact growBy_le need r _ h2
    · left
      have : Builtin.growBy need r (c + (c + 768) / 4) = c + (c + 768) / 4 := by
        cases r with
        | zero => rfl
        | succ r => unfold Builtin.growBy; rw [if_pos (by omega)]
      rw [this]
      omega

theorem nextslicecap_le (need old : Nat) (h : old < need) : Builtin.nextslicecap need old ≤ need * 2 + 1024 := by
  unfold Builtin.nextslicecap
  split
  · omega
  · split
    · omega
    · rcases growBy_le need 4 old h with h1 | h1 <;> omega

end Go.Fold

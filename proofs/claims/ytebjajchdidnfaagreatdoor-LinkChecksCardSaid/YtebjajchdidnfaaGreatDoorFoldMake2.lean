/-
  A part of the road: an evaluator over abstract memory with a proved simulation, and what is reckoned by it. Written by an AI agent; no person has read it.
-/
import Derived.Test.YtebjajchdidnfaaGreatDoorFoldStill3
import Derived.IntWalk
set_option linter.all false
namespace Go.Fold
variable {P : Program} {m : Map} {A : AH} {w : World} {t : AT} {a : Act}

/-- an operation that goes through and leaves the world in agreement -/
def Goes (P : Program) (m : Map) (A : AH) (w : World) (s : Sem Next) (A' : AH) (v : AV) : Prop :=
  ∃ u w' m', (s.run P w = .ok (.value u) w' ∨ (s.run P w = .ok .skip w' ∧ u = Go.undef)) ∧ VR m' v u ∧ Sim P m A w m' A' w'

theorem cells_rel {v : AV} {u : Value} (h : VR m v u) : LR m v.cells u.cells.toList := by
  cases v <;> simp only [AV.cells]
  case agg cs => simp only [VR] at h; obtain ⟨x, rfl, hl⟩ := h; exact hl
  case bool => cases h.bool_inv; exact .cons (by simp [VR]) .nil
  case int => cases h.int_inv; exact .cons (by simp [VR]) .nil
  case str => have h' := h; obtain ⟨b, rfl, _⟩ := h.str_inv; exact .cons h' .nil
  case ptr => have h' := h; obtain ⟨b, rfl, _⟩ := h.ptr_inv; exact .cons h' .nil
  case slice => have h' := h; obtain ⟨b, k, rfl, _⟩ := h.slice_inv; exact .cons h' .nil
  case mapv => have h' := h; obtain ⟨b, rfl, _⟩ := h.map_inv; exact .cons h' .nil
  case fn => have h' := h; simp only [VR] at h; obtain ⟨f, x, y, rfl, _⟩ := h; exact .cons h' .nil
  case nilFn => have h' := h; simp only [VR] at h; subst h; exact .cons h' .nil
  case nilIface => have h' := h; simp only [VR] at h; subst h; exact .cons h' .nil
  case tup => have h' := h; simp only [VR] at h; obtain ⟨x, rfl, _⟩ := h; exact .cons h' .nil

theorem zeroA_rel {e : TypeId} {z : List AV} (h : zeroA P e = some z) (w : World) : ∃ u, (zeroValue e).run P w = .ok u w ∧ LR m z u.cells.toList ∧ ∃ i, P.info? e = some i ∧ i.zero = some u := by
  unfold zeroA at h
  split at h
  · rename_i i hi
    split at h
    · rename_i u hu
      split at h
      · rename_i v hv
        simp only [Option.some.injEq] at h; subst h
        exact ⟨u, by simp [zeroValue, run_typeInfo hi, Result.andThen, hu], cells_rel (ofValue_rel hv), i, hi, hu⟩
      · simp at h
    · simp at h
  · simp at h

/-- an operation that makes a value, and perhaps one new block -/
def Made (P : Program) (m : Map) (A : AH) (w : World) (s : Sem Next) (A' : AH) (v : AV) : Prop :=
  ∃ u w', s.run P w = .ok (.value u) w' ∧ (w'.os = w.os ∧ w'.tape = w.tape ∧ w'.output = w.output) ∧
    ((A' = A ∧ w'.heap = w.heap ∧ VR m v u) ∨
     (∃ b o x, A' = A.new b ∧ b.wr = true ∧ x.blk = w.heap.size ∧ w'.heap = w.heap.push o ∧ ∀ m' : Map, m.le m' → m' A.next = some x → BR P m' x b o ∧ VR m' v u))

theorem Made.goes (hA : Agree P m A w) {s : Sem Next} {A' : AH} {v : AV} (h : Made P m A w s A' v) : Goes P m A w s A' v := by
  obtain ⟨u, w', h1, h2, h3⟩ := h
  rcases h3 with ⟨rfl, h4, h5⟩ | ⟨b, o, x, rfl, hb, hx, h4, h5⟩
  · exact ⟨u, w', m, .inl h1, h5, .of_heap hA h4 h2.1 h2.2.1 h2.2.2⟩
  · obtain ⟨h6, h7⟩ := h5 (m.plus A.next x) (Map.le_plus hA.none_next) (Map.plus_same _ _ _)
    exact ⟨u, w', m.plus A.next x, .inl h1, h7, Sim.alloc hA b o x hx h4 h2 h6⟩

theorem Made.cells {s : Sem Next} {v : AV} {u : Value} {w' : World} (c : List AV) (cs : Array Value) (e : TypeId) (fr : Nat × Nat) (hrun : s.run P w = .ok (.value u) w') (he : w'.os = w.os ∧ w'.tape = w.tape ∧ w'.output = w.output)
    (hw' : w'.heap = w.heap.push (.cells cs e fr)) (hfr : fr.1 = fr.2 ∨ (cs.size ≤ fr.1 ∧ P.underlying e = some (.int .u8))) (hl : LR m c (cs.toList.take c.length)) (hn : c.length ≤ cs.size) (hal : P.cellsOf e ∣ cs.size)
    (hv : ∀ m' : Map, m.le m' → m' A.next = some ⟨w.heap.size, 0, cs.size, P.cellsOf e⟩ → VR m' v u) : Made P m A w s (A.new (.cells c e false)) v :=
  ⟨u, w', hrun, he, .inr ⟨_, _, ⟨w.heap.size, 0, cs.size, P.cellsOf e⟩, rfl, rfl, rfl, hw', fun m' hle hm' => ⟨⟨cs, e, fr, rfl, fun _ => ⟨rfl, ⟨0, rfl⟩, hal⟩, rfl, rfl, by simpa using hn, by simpa using hl.mono hle, fun _ => hfr⟩, hv m' hle hm'⟩⟩⟩

theorem Made.exact {s : Sem Next} {v : AV} {u : Value} {w' : World} (c : List AV) (cs : Array Value) (e : TypeId) (hrun : s.run P w = .ok (.value u) w') (he : w'.os = w.os ∧ w'.tape = w.tape ∧ w'.output = w.output)
    (hw' : w'.heap = w.heap.push (.cells cs e)) (hl : LR m c cs.toList) (hal : P.cellsOf e ∣ cs.size)
    (hv : ∀ m' : Map, m.le m' → m' A.next = some ⟨w.heap.size, 0, cs.size, P.cellsOf e⟩ → VR m' v u) : Made P m A w s (A.new (.cells c e false)) v := by
  have hlen := hl.length
  refine .cells c cs e (0, 0) hrun he hw' (.inl rfl) ?_ (by simpa using Nat.le_of_eq hlen.symm) hal hv
  rw [← hlen, List.take_length]; exact hl

theorem sim_newCells (hA : Agree P m A w) (c : List AV) (cs : Array Value) (e : TypeId) (hl : LR m c (cs.toList.take c.length)) (hn : c.length ≤ cs.size) (hal : P.cellsOf e ∣ cs.size) :
    Sim P m A w (m.plus A.next ⟨w.heap.size, 0, cs.size, P.cellsOf e⟩) (A.new (.cells c e false)) { w with heap := w.heap.push (.cells cs e) } := by
  refine Sim.alloc hA _ _ _ rfl rfl ⟨rfl, rfl, rfl⟩ ?_
  exact ⟨cs, e, (0, 0), rfl, fun _ => ⟨rfl, ⟨0, rfl⟩, hal⟩, rfl, rfl, by simpa using hn, by simpa using LR.mono (Map.le_plus hA.none_next) hl, fun _ => .inl rfl⟩

theorem VR.at_ {m : Map} {b : Nat} {x : Img} (h : m b = some x) (hs : x.sh = 0) : VR m (.ptr (some (b, 0))) (.pointer (some ⟨x.blk, 0, none⟩)) := by
  simp only [VR]
  exact ⟨_, ⟨x, h, by simp [hs]⟩, rfl⟩

theorem run_newRow (e : TypeId) (cs : Array Value) : (newRow e cs).run P w = .ok ⟨w.heap.size, 0, none⟩ { w with heap := w.heap.push (.cells cs e) } := by
  simp [newRow, Result.andThen]

theorem allocA_go {e : TypeId} {v : AV} {A' : AH} (h : allocA P A e = some (v, A')) : Made P m A w (do pure (.value (← Instr.alloc e true (.tuple #[])))) A' v := by
  unfold allocA at h
  split at h
  · rename_i z hz
    cases hb : z.length.beq (P.cellsOf e) with
    | false => simp [hb] at h
    | true =>
    simp only [hb, cond_true, Option.some.injEq, Prod.mk.injEq] at h
    obtain ⟨rfl, rfl⟩ := h
    obtain ⟨u, hu, hl, _⟩ := zeroA_rel (m := m) hz w
    have hal : P.cellsOf e ∣ u.cells.size := by
      have h1 := hl.length
      have h2 := Nat.eq_of_beq_eq_true hb
      rw [Array.length_toList] at h1
      rw [h1, h2]; exact ⟨1, by omega⟩
    refine .exact (w' := { w with heap := w.heap.push (.cells u.cells e) }) (u := .pointer (some ⟨w.heap.size, 0, none⟩)) z u.cells e ?_ ⟨rfl, rfl, rfl⟩ rfl hl hal (fun m' _ hm' => VR.at_ hm' rfl)
    simp [Instr.alloc, hu, Result.andThen, newVar, run_newRow]
  · simp at h

theorem boxA_go (hg : Glob P m) (ht : TR m t a.tmps) {e : TypeId} {x : Operand} {v : AV} {A' : AH} (h : boxA P A t e x = some (v, A')) : Made P m A w (do pure (.value (← Instr.box e (a.eval x)))) A' v := by
  unfold boxA at h
  split at h
  · rename_i z hz
    cases hb : z.cells.length.beq (P.cellsOf e) with
    | false => simp [hb] at h
    | true =>
    simp only [hb, cond_true, Option.some.injEq, Prod.mk.injEq] at h
    obtain ⟨rfl, rfl⟩ := h
    have hal : P.cellsOf e ∣ (a.eval x).cells.size := by
      have h1 := (cells_rel (evalO_rel hg ht hz)).length
      have h2 := Nat.eq_of_beq_eq_true hb
      rw [Array.length_toList] at h1
      rw [h1, h2]; exact ⟨1, by omega⟩
    refine .exact (w' := { w with heap := w.heap.push (.cells (a.eval x).cells e) }) (u := .pointer (some ⟨w.heap.size, 0, none⟩)) _ (a.eval x).cells e ?_ ⟨rfl, rfl, rfl⟩ rfl (cells_rel (evalO_rel hg ht hz)) hal (fun m' _ hm' => VR.at_ hm' rfl)
    simp [Instr.box, Result.andThen, newVar, run_newRow]
  · simp at h

/-! ### Values of parts -/

theorem run_listMapM {α β : Type} (f : α → Sem β) (g : α → β) (w : World) : ∀ (l : List α), (∀ x ∈ l, (f x).run P w = .ok (g x) w) → (l.mapM f).run P w = .ok (l.map g) w
  | [], _ => by simp
  | x :: l, h => by
    simp only [List.mapM_cons, Sem.run_bind, h x (by simp), Result.andThen_ok, run_listMapM f g w l (fun y hy => h y (List.mem_cons_of_mem _ hy)), Sem.run_pure, List.map_cons]

theorem placesA_rel : ∀ {fs : List Field} {pl : List (Nat × Nat)}, placesA P fs = some pl → pl = fs.map (fun f => (f.offset, P.cellsOf f.type)) ∧ ∀ f ∈ fs, ∀ w : World, (sizeOf f.type).run P w = .ok (P.cellsOf f.type) w
  | [], pl, h => by simp only [placesA, Option.some.injEq] at h; subst h; simp
  | f :: fs, pl, h => by
    simp only [placesA] at h
    split at h
    · rename_i n ps hn hps
      simp only [Option.some.injEq] at h; subst h
      obtain ⟨h1, h2⟩ := placesA_rel hps
      refine ⟨by simp [h1, sizeA_cells hn], ?_⟩
      intro g hg w
      rcases List.mem_cons.1 hg with rfl | hg
      · rw [sizeA_cells hn]; exact run_sizeOf hn w
      · exact h2 g hg w
    · simp at h

theorem foldl_set (off : Nat) : ∀ (vs : List Value) (k : Nat) (cs : Array Value), off + k + vs.length ≤ cs.size →
    ((vs.zipIdx k).foldl (fun cs (x : Value × Nat) => cs.setIfInBounds (off + x.2) x.1) cs).toList = cs.toList.take (off + k) ++ vs ++ cs.toList.drop (off + k + vs.length)
  | [], k, cs, h => by simp
  | v :: vs, k, cs, h => by
    simp only [List.zipIdx_cons, List.foldl_cons]
    simp only [List.length_cons] at h
    rw [foldl_set off vs (k + 1) _ (by simp; omega)]
    simp only [Array.toList_setIfInBounds, List.length_cons]
    have hlt : off + k < cs.toList.length := by simp; omega
    rw [List.take_set, List.drop_set_of_lt (by omega), show off + (k + 1) = off + k + 1 by omega, List.take_succ_eq_append_getElem hlt]
    rw [List.set_append]
    simp only [List.length_take, Nat.min_eq_left (Nat.le_of_lt hlt), Nat.lt_irrefl, if_false, Nat.sub_self, List.set_cons_zero]
    simp [Nat.add_comm, Nat.add_left_comm, Nat.add_assoc]

theorem fillA_rel {place : Nat → Option (Nat × Nat)} : ∀ {ps : List (Nat × AV)} {z r : List AV} {qs : List (Nat × Value)} {cs : Array Value}, fillA place z ps = some r → LR m z cs.toList →
    qs.length = ps.length → (∀ (i : Nat) p q, ps[i]? = some p → qs[i]? = some q → p.1 = q.1 ∧ VR m p.2 q.2) → ∃ cs', Instr.fill place cs qs = some cs' ∧ LR m r cs'.toList
  | [], z, r, qs, cs, h, hl, hq, _ => by
    simp only [fillA, Option.some.injEq] at h; subst h
    have : qs = [] := List.length_eq_zero_iff.1 (by simpa using hq)
    subst this
    exact ⟨cs, rfl, hl⟩
  | (i, v) :: ps, z, r, [], cs, _, _, hq, _ => by simp at hq
  | (i, v) :: ps, z, r, (j, u) :: qs, cs, h, hl, hq, hpq => by
    simp only [fillA] at h
    obtain ⟨h1, h2⟩ := hpq 0 (i, v) (j, u) (by simp) (by simp)
    simp only at h1 h2
    subst h1
    split at h
    · simp at h
    · rename_i off size hp
      cases hb : Nat.beq v.cells.length size with
      | false => simp [hb] at h
      | true =>
        simp only [hb, cond_true] at h
        have hsz : v.cells.length = size := Nat.eq_of_beq_eq_true hb
        split at h
        · rename_i c' hs
          obtain ⟨h3, rfl⟩ := splice_eq hs
          have hcl := (cells_rel h2).length
          have hzl := hl.length
          have hcsz : u.cells.size = size := by rw [← hsz, ← hcl]; simp
          simp only [Array.length_toList] at hzl
          have hx : ((u.cells.zipIdx.foldl (fun cs (x : Value × Nat) => cs.setIfInBounds (off + x.2) x.1) cs)).toList = cs.toList.take off ++ u.cells.toList ++ cs.toList.drop (off + u.cells.toList.length) := by
            have := foldl_set off u.cells.toList 0 cs (by simp; omega)
            rw [← Array.foldl_toList, Array.toList_zipIdx]
            simpa using this
          have hl2 : LR m (z.take off ++ v.cells ++ z.drop (off + v.cells.length)) (u.cells.zipIdx.foldl (fun cs (x : Value × Nat) => cs.setIfInBounds (off + x.2) x.1) cs).toList := by
            rw [hx, hcl]
            exact ((LR.take off hl).append (cells_rel h2)).append (LR.drop _ hl)
          obtain ⟨cs', h4, h5⟩ := fillA_rel (qs := qs) h hl2 (by simpa using hq) (fun k p q hp' hq' => hpq (k + 1) p q (by simpa using hp') (by simpa using hq'))
          refine ⟨cs', ?_, h5⟩
          simp only [Instr.fill, hp]
          rw [if_neg (by simp [hcsz]; omega)]
          exact h4
        · simp at h
      
theorem evalParts_rel (hg : Glob P m) (ht : TR m t a.tmps) : ∀ {ps : List (Nat × Operand)} {vs : List (Nat × AV)}, evalParts P t ps = some vs →
    (ps.map fun p => (p.1, a.eval p.2)).length = vs.length ∧ ∀ (i : Nat) p q, vs[i]? = some p → (ps.map fun p => (p.1, a.eval p.2))[i]? = some q → p.1 = q.1 ∧ VR m p.2 q.2
  | [], vs, h => by simp only [evalParts, Option.some.injEq] at h; subst h; simp
  | (j, x) :: ps, vs, h => by
    simp only [evalParts] at h
    split at h
    · rename_i v hv
      split at h
      · rename_i us hus
        simp only [Option.some.injEq] at h; subst h
        obtain ⟨h1, h2⟩ := evalParts_rel hg ht hus
        refine ⟨by simpa using h1, ?_⟩
        intro i p q hp hq
        cases i with
        | zero => simp at hp hq; subst hp; subst hq; exact ⟨rfl, evalO_rel hg ht hv⟩
        | succ i => simp at hp hq; exact h2 i p q hp (by simpa using hq)
      · simp at h
    · simp at h

theorem buildA_rel (hg : Glob P m) (ht : TR m t a.tmps) {ty : TypeId} {ps : Array (Nat × Operand)} {v : AV} (h : buildA P t ty ps.toList = some v) :
    ∃ u, (Instr.build ty (ps.map fun (i, x) => (i, a.eval x))).run P w = .ok u w ∧ VR m v u := by
  unfold buildA at h
  split at h
  · rename_i z vs hz hvs
    obtain ⟨zu, hzu, hzl, _⟩ := zeroA_rel (m := m) hz w
    obtain ⟨h1, h2⟩ := evalParts_rel hg ht hvs
    have hpl : (ps.map fun (i, x) => (i, a.eval x)).toList = ps.toList.map fun p => (p.1, a.eval p.2) := by simp
    split at h
    · rename_i fs hu
      split at h
      · rename_i pl hpla
        split at h
        · rename_i cs hcs
          simp only [Option.some.injEq] at h; subst h
          obtain ⟨h3, h4⟩ := placesA_rel hpla
          obtain ⟨cs', h5, h6⟩ := fillA_rel (m := m) hcs hzl h1 h2
          refine ⟨.agg cs', ?_, by simp only [VR]; exact ⟨cs', rfl, h6⟩⟩
          have hmap : (fs.mapM fun f => (do pure (f.offset, ← sizeOf f.type) : Sem (Nat × Nat))).run P w = .ok pl.toArray w := by
            rw [Array.mapM_eq_mapM_toList]
            simp only [Sem.run_map]
            rw [run_listMapM _ (fun f => (f.offset, P.cellsOf f.type)) w fs.toList (fun f hf => by simp [h4 f hf w, Result.andThen])]
            simp [h3]
          simp only [Instr.build, Sem.run_bind, hzu, Result.andThen_ok, run_underlying hu, hmap, hpl]
          have : (fun (x : Nat) => pl.toArray[x]?) = (fun (x : Nat) => pl[x]?) := by funext x; simp
          rw [this, h5]
          rfl
        · simp at h
      · simp at h
    · rename_i n e hu
      split at h
      · rename_i sz hsz
        split at h
        · rename_i cs hcs
          simp only [Option.some.injEq] at h; subst h
          obtain ⟨cs', h5, h6⟩ := fillA_rel (m := m) hcs hzl h1 h2
          refine ⟨.agg cs', ?_, by simp only [VR]; exact ⟨cs', rfl, h6⟩⟩
          simp only [Instr.build, Sem.run_bind, hzu, Result.andThen_ok, run_underlying hu, run_sizeOf hsz, hpl]
          have : (fun i => some (i * sz, sz)) = elemPlace sz := rfl
          rw [this, h5]
          rfl
        · simp at h
      · simp at h
    · simp at h
  · simp at h

theorem repl_length (z : List AV) : ∀ n, (repl z n).length = n * z.length
  | 0 => by simp [repl]
  | n + 1 => by simp [repl, repl_length z n, Nat.add_mul, Nat.add_comm]

theorem repl_get (z : List AV) : ∀ (n i : Nat), i < n * z.length → (repl z n)[i]? = z[i % z.length]?
  | 0, i, h => by simp at h
  | n + 1, i, h => by
    simp only [repl]
    by_cases hi : i < z.length
    · rw [List.getElem?_append_left hi, Nat.mod_eq_of_lt hi]
    · rw [List.getElem?_append_right (Nat.le_of_not_lt hi), repl_get z n (i - z.length) (by rw [Nat.add_mul] at h; omega)]
      congr 1
      exact (Nat.mod_eq_sub_mod (Nat.le_of_not_lt hi)).symm

theorem repl_rel {z : List AV} {zs : Array Value} (h : LR m z zs.toList) (n : Nat) : LR m (repl z n) ((Array.range (n * zs.size)).map (zs[· % zs.size]!)).toList := by
  have hzl := h.length
  simp only [Array.length_toList] at hzl
  refine LR.of_get (by simp [repl_length, hzl]) ?_
  intro i x y hx hy
  have hi : i < n * z.length := by
    by_cases hi : i < n * z.length
    · exact hi
    · rw [List.getElem?_eq_none (by rw [repl_length]; omega)] at hx; cases hx
  rw [repl_get _ _ _ hi] at hx
  obtain ⟨u, hu, hv⟩ := h.get? _ _ hx
  have hpos : 0 < zs.size := by
    rw [hzl]
    rcases Nat.eq_zero_or_pos z.length with h0 | h0
    · rw [h0] at hi; simp at hi
    · exact h0
  have hmod : i % zs.size < zs.size := Nat.mod_lt _ hpos
  have : y = zs[i % zs.size]! := by
    simp only [Array.toList_map, List.getElem?_map] at hy
    rw [show (Array.range (n * zs.size)).toList = List.range (n * zs.size) by simp] at hy
    rw [List.getElem?_range (by rw [hzl]; exact hi)] at hy
    simpa using hy.symm
  rw [this]
  have hu' : zs[i % zs.size]? = some u := by rw [hzl]; simpa using hu
  rw [Array.getElem!_eq_getD, Array.getD_eq_getD_getElem?, hu']
  exact hv

theorem fillA_length {place : Nat → Option (Nat × Nat)} : ∀ {ps : List (Nat × AV)} {cells r : List AV}, fillA place cells ps = some r → r.length = cells.length
  | [], cells, r, h => by simp only [fillA, Option.some.injEq] at h; rw [h]
  | (i, v) :: ps, cells, r, h => by
    simp only [fillA] at h
    split at h
    · cases h
    · rename_i off size _
      cases hb : v.cells.length.beq size with
      | false => simp [hb] at h
      | true =>
        simp only [hb, cond_true] at h
        split at h
        · rename_i c2 h2
          obtain ⟨h3, rfl⟩ := splice_eq h2
          rw [fillA_length h]
          simp; omega
        · cases h

theorem buildSliceA_go (hg : Glob P m) (ht : TR m t a.tmps) {ty : TypeId} {len : Nat} {ps : Array (Nat × Operand)} {v : AV} {A' : AH} (h : buildSliceA P A t ty len ps.toList = some (v, A')) :
    Made P m A w (do pure (.value (← Instr.buildSlice ty len (ps.map fun (i, x) => (i, a.eval x))))) A' v := by
  unfold buildSliceA at h
  split at h
  · rename_i e hu
    split at h
    · rename_i sz z vs hsz hz hvs
      obtain ⟨zu, hzu, hzl, _⟩ := zeroA_rel (m := m) hz w
      obtain ⟨h1, h2⟩ := evalParts_rel hg ht hvs
      have hpl : (ps.map fun (i, x) => (i, a.eval x)).toList = ps.toList.map fun p => (p.1, a.eval p.2) := by simp
      cases hcond : (Nat.ble (len * sz) 16777216 && z.length.beq sz) with
      | false => simp [hcond] at h
      | true =>
        simp only [hcond, cond_true] at h
        simp only [Bool.and_eq_true] at hcond
        have hle := of_nble hcond.1
        have hzs : z.length = sz := Nat.eq_of_beq_eq_true hcond.2
        have hzsz : zu.cells.size = sz := by rw [← hzs, ← hzl.length]; simp
        split at h
        · rename_i cs hcs
          simp only [Option.some.injEq, Prod.mk.injEq] at h
          obtain ⟨rfl, rfl⟩ := h
          have hne : ¬ len * sz > 2 ^ 24 := by omega
          have hpe : (fun i => some (i * sz, sz)) = elemPlace sz := rfl
          have hfin : ∃ cs' : Array Value, (Instr.buildSlice ty len (ps.map fun (i, x) => (i, a.eval x))).run P w = .ok (.slice (some ⟨w.heap.size, 0, none⟩) len len) { w with heap := w.heap.push (.cells cs' e) } ∧ LR m cs cs'.toList := by
            by_cases h0 : len * sz = 0
            · have hzr : LR m (repl z len) ((Array.range (len * sz)).map ((#[] : Array Value)[· % (#[] : Array Value).size]!)).toList := by
                rw [h0]
                have : repl z len = [] := List.length_eq_zero_iff.1 (by rw [repl_length, hzs]; exact h0)
                rw [this]; simp [LR]
              obtain ⟨cs', h5, h6⟩ := fillA_rel (m := m) hcs hzr h1 h2
              refine ⟨cs', ?_, h6⟩
              simp only [Instr.buildSlice, Sem.run_bind, run_underlying hu, Result.andThen_ok, run_sizeOf hsz, if_neg hne, if_pos h0, Sem.run_pure, hpl, hpe]
              rw [h5]
              simp [run_newRow, Result.andThen]
            · have hzr : LR m (repl z len) ((Array.range (len * sz)).map (zu.cells[· % zu.cells.size]!)).toList := by
                have := repl_rel hzl len
                rw [show len * zu.cells.size = len * sz by rw [hzsz]] at this
                exact this
              obtain ⟨cs', h5, h6⟩ := fillA_rel (m := m) hcs hzr h1 h2
              refine ⟨cs', ?_, h6⟩
              simp only [Instr.buildSlice, Sem.run_bind, run_underlying hu, Result.andThen_ok, run_sizeOf hsz, if_neg hne, if_neg h0, hzu, Sem.run_pure, hpl, hpe]
              rw [h5]
              simp [run_newRow, Result.andThen]
          obtain ⟨cs', h5, h6⟩ := hfin
          have hal : P.cellsOf e ∣ cs'.size := by
            have h7 := fillA_length hcs
            have h8 := h6.length
            obtain ⟨i, hi, rfl⟩ := sizeA_info hsz
            have hcz : P.cellsOf e = i.size := by simp [Program.cellsOf, hi]
            rw [Array.length_toList] at h8
            rw [h8, h7, repl_length, hzs, hcz]
            exact ⟨len, Nat.mul_comm _ _⟩
          refine .exact (w' := { w with heap := w.heap.push (.cells cs' e) }) (u := .slice (some ⟨w.heap.size, 0, none⟩) len len) cs cs' e ?_ ⟨rfl, rfl, rfl⟩ rfl h6 hal (fun m' _ hm' => ?_)
          · rw [Sem.run_bind, h5]; rfl
          · simp only [VR]
            exact ⟨_, rfl, Nat.le_refl _, .inr ⟨_, hm', rfl⟩⟩
        · simp at h
    · simp at h
  · simp at h

end Go.Fold

namespace Go.Fold
variable {P : Program} {m : Map} {A : AH} {w : World} {t : AT} {a : Act}

theorem wrap_small {n : Nat} (h : n ≤ 140737488355328) : IntKind.i64.wrap (n : Int) = n :=
  IntWalk.i64_in _ (by omega)

theorem makeSliceA_go (hg : Glob P m) (ht : TR m t a.tmps) {ty : TypeId} {l c : Operand} {v : AV} {A' : AH} (h : makeSliceA P A t ty l c = some (v, A')) :
    Made P m A w (do pure (.value (← Instr.makeSlice ty (a.eval l) (a.eval c)))) A' v := by
  unfold makeSliceA at h
  split at h
  · rename_i e k1 nl k2 nc hu hl hc
    split at h
    · rename_i inf z hi hz
      obtain ⟨zu, hzu, hzl, _⟩ := zeroA_rel (m := m) hz w
      cases hcond : (Nat.ble nl nc && Nat.ble (nc * inf.bytes) 140737488355328 && Nat.ble nc 140737488355328 && z.length.beq inf.size) with
      | false => simp [hcond] at h
      | true =>
        simp only [hcond, cond_true, Option.some.injEq, Prod.mk.injEq] at h
        obtain ⟨rfl, rfl⟩ := h
        simp only [Bool.and_eq_true] at hcond
        have h1 := of_nble hcond.1.1.1
        have h2 := of_nble hcond.1.1.2
        have h3 := of_nble hcond.1.2
        have hzs : z.length = inf.size := Nat.eq_of_beq_eq_true hcond.2
        have hzsz : zu.cells.size = inf.size := by rw [← hzs, ← hzl.length]; simp
        have hl' := (evalO_rel hg ht hl).int_inv
        have hc' := (evalO_rel hg ht hc).int_inv
        have hwl : IntKind.i64.wrap (nl : Int) = nl := wrap_small (by omega)
        have hwc : IntKind.i64.wrap (nc : Int) = nc := wrap_small h3
        have hb : ¬ ((nc : Int) < 0) := by omega
        have hb2 : ¬ ((inf.bytes : Int) * (nc : Int) > 2 ^ 48) := by
          have : (inf.bytes : Int) * (nc : Int) ≤ 140737488355328 := by
            rw [← Int.natCast_mul, Nat.mul_comm]; omega
          omega
        have hfin : ∃ cs' : Array Value, (Instr.makeSlice ty (a.eval l) (a.eval c)).run P w = .ok (.slice (some ⟨w.heap.size, 0, none⟩) nl nc) { w with heap := w.heap.push (.cells cs' e) } ∧ LR m (repl z nc) cs'.toList := by
          by_cases h0 : nc * inf.size = 0
          · refine ⟨(Array.range (nc * inf.size)).map ((#[] : Array Value)[· % (#[] : Array Value).size]!), ?_, ?_⟩
            · simp only [Instr.makeSlice, Sem.run_bind, run_underlying hu, Result.andThen_ok, hl', hc', asInt, asIntOf, Sem.run_pure, run_typeInfo hi, Int.ofNat_eq_natCast, hwl, hwc]
              rw [if_neg (by simp [hb, hb2]; omega)]
              simp [run_askRoom, sizeOf, run_typeInfo hi, Result.andThen, h0, run_newRow]
            · rw [h0]
              have : repl z nc = [] := List.length_eq_zero_iff.1 (by rw [repl_length, hzs]; exact h0)
              rw [this]; simp [LR]
          · refine ⟨(Array.range (nc * inf.size)).map (zu.cells[· % zu.cells.size]!), ?_, ?_⟩
            · simp only [Instr.makeSlice, Sem.run_bind, run_underlying hu, Result.andThen_ok, hl', hc', asInt, asIntOf, Sem.run_pure, run_typeInfo hi, Int.ofNat_eq_natCast, hwl, hwc]
              rw [if_neg (by simp [hb, hb2]; omega)]
              have h0' : ¬ (nc = 0 ∨ inf.size = 0) := fun e => h0 (by rcases e with e | e <;> simp [e])
              simp [run_askRoom, sizeOf, run_typeInfo hi, Result.andThen, h0', hzu, run_newRow]
              exact fun h => absurd h h0
            · have := repl_rel hzl nc
              rw [show nc * zu.cells.size = nc * inf.size by rw [hzsz]] at this
              exact this
        obtain ⟨cs', h5, h6⟩ := hfin
        have hal : P.cellsOf e ∣ cs'.size := by
          have h8 := h6.length
          have hcz : P.cellsOf e = inf.size := by simp [Program.cellsOf, hi]
          rw [Array.length_toList] at h8
          rw [h8, repl_length, hzs, hcz]
          exact ⟨nc, Nat.mul_comm _ _⟩
        refine .exact (w' := { w with heap := w.heap.push (.cells cs' e) }) (u := .slice (some ⟨w.heap.size, 0, none⟩) nl nc) _ cs' e ?_ ⟨rfl, rfl, rfl⟩ rfl h6 hal (fun m' _ hm' => ?_)
        · rw [Sem.run_bind, h5]; rfl
        · simp only [VR]
          exact ⟨_, rfl, h1, .inr ⟨_, hm', rfl⟩⟩
    · simp at h
  · simp at h

theorem cellsOfBytes_rel (m : Map) : ∀ (s : List UInt8), LR m (cellsOfBytes (s.map (·.toNat))) (s.map fun b => Value.int .u8 b.toNat)
  | [] => by simp [cellsOfBytes, LR]
  | b :: s => by simp only [List.map_cons, cellsOfBytes]; exact .cons (by simp [VR]) (cellsOfBytes_rel m s)

theorem cellsOfBytes_length : ∀ (s : List Nat), (cellsOfBytes s).length = s.length
  | [] => rfl
  | _ :: s => by simp [cellsOfBytes, cellsOfBytes_length s]

theorem modify_eq_set {α : Type} (a : Array α) (i : Nat) (x : α) (f : α → α) (h : a[i]? = some x) : a.modify i f = a.setIfInBounds i (f x) := by
  apply Array.ext_getElem?
  intro j
  rw [Array.getElem?_modify, Array.getElem?_setIfInBounds]
  by_cases hj : i = j
  · subst hj
    have hlt : i < a.size := by
      by_cases hlt : i < a.size
      · exact hlt
      · rw [Array.getElem?_eq_none (Nat.le_of_not_lt hlt)] at h; cases h
    have he : a[i] = x := by rw [Array.getElem?_eq_getElem hlt] at h; exact Option.some.inj h
    simp [hlt, he]
  · simp [hj]

theorem freeze_eq {b : Nat} {cs : Array Value} {e : TypeId} {lo hi : Nat} (h : w.heap[b]? = some (.cells cs e (lo, hi))) (n : Nat) :
    w.freeze ⟨b, n, none⟩ 1 = { w with heap := w.heap.setIfInBounds b (.cells cs e (if lo == hi then (n, n + 1) else (min lo n, max hi (n + 1)))) } := by
  unfold World.freeze
  rw [if_neg (by omega), modify_eq_set _ _ _ _ h]

theorem convMakeA_go (hg : Glob P m) (ht : TR m t a.tmps) {src dst : TypeId} {x : Operand} {v : AV} {A' : AH} (h : convMakeA P A t src dst x = some (v, A')) :
    Made P m A w (do pure (.value (← Go.convert src dst (a.eval x)))) A' v := by
  unfold convMakeA at h
  split at h
  · rename_i e s hs hd hx
    obtain ⟨s', he, rfl⟩ := (evalO_rel hg ht hx).str_inv
    split at h
    · rename_i hu8 hsz
      simp only [Option.some.injEq, Prod.mk.injEq] at h
      obtain ⟨rfl, rfl⟩ := h
      -- the capacity that is drawn
      let cap := (Question.appendCap s'.size 0 e).cut (w.tape w.drawn (.appendCap s'.size 0 e))
      have hcap : s'.size ≤ cap := by simp only [cap, Question.cut]; omega
      let cs : Array Value := (s'.data.map fun b => Value.int .u8 b.toNat) ++ Array.replicate (cap - s'.size) (.int .u8 0)
      have hcs : cs.size = cap := by simp [cs]; omega
      have hlr : LR m (cellsOfBytes (bytes s')) (cs.toList.take (cellsOfBytes (bytes s')).length) := by
        rw [cellsOfBytes_length, bytes_length]
        have : cs.toList.take s'.size = s'.data.toList.map fun b => Value.int .u8 b.toNat := by
          simp only [cs, Array.toList_append, Array.toList_map]
          rw [List.take_append_of_le_length (by simp)]
          rw [List.take_of_length_le (by simp)]
        rw [this]
        exact cellsOfBytes_rel m s'.data.toList
      -- the mark behind its end
      let w2 : World := { w with drawn := w.drawn + 1, heap := w.heap.push (.cells cs e) }
      have hh : w2.heap[w.heap.size]? = some (.cells cs e (0, 0)) := by simp [w2]
      have hfz := freeze_eq (w := w2) hh cap
      refine .cells (w' := w2.freeze ⟨w.heap.size, cap, none⟩ 1) (u := .slice (some ⟨w.heap.size, 0, none⟩) s'.size cap) _ cs e (cap, cap + 1) ?_ (by rw [hfz]; exact ⟨rfl, rfl, rfl⟩) ?_ (.inr ⟨by simp [hcs], hu8⟩) hlr (by rw [cellsOfBytes_length, bytes_length, hcs]; exact hcap) (by obtain ⟨i, hi, h1⟩ := sizeA_info hsz; simp [Program.cellsOf, hi, h1]) (fun m' _ hm' => ?_)
      · have hforced : (Question.appendCap s'.size 0 e).forced = false := rfl
        have hsh : w2.shape? w.heap.size = some (e, cs.size) := by simp [World.shape?, hh]
        have hrow : (newRow e ((s'.data.map fun b => Value.int .u8 b.toNat) ++ Array.replicate (cap - s'.size) (.int .u8 0))).run P { w with drawn := w.drawn + 1 } = .ok ⟨w.heap.size, 0, none⟩ w2 := run_newRow e cs
        simp only [Go.convert, Sem.run_bind, run_underlying hs, run_underlying hd, Result.andThen_ok, he, run_underlying hu8, Conv.stringToBytes, run_choose, hforced, Bool.false_eq_true, if_false]
        change (((newRow e ((s'.data.map fun b => Value.int .u8 b.toNat) ++ Array.replicate (cap - s'.size) (.int .u8 0))).run P { w with drawn := w.drawn + 1 }).andThen _).andThen _ = _
        rw [hrow]
        simp only [Result.andThen_ok, markStringish, Sem.run_bind, run_shape, hsh, run_freeze, Sem.run_pure, hcs]
        rfl
      · rw [hfz]
        apply Array.ext_getElem?
        intro j
        simp only [w2, Array.getElem?_setIfInBounds, Array.getElem?_push, Array.size_push]
        by_cases hj : w.heap.size = j
        · subst hj; simp
        · rw [if_neg hj]
          by_cases hj2 : j = w.heap.size
          · exact (hj hj2.symm).elim
          · rw [if_neg hj2, if_neg hj2]
      · simp only [VR]
        refine ⟨_, cap, _, hm', by rw [bytes_length], ?_, by rw [bytes_length]; exact hcap, .inr rfl⟩
        simp [hcs, sizeA_cells hsz]
    · simp at h
  · simp at h

theorem convSameA_go (hA : Agree P m A w) (ht : TR m t a.tmps) {src dst : TypeId} {x : Operand} {v : AV} {A' : AH} (h : convSameA P A t src dst x = some (v, A')) :
    Goes P m A w (do pure (.value (← Go.convert src dst (a.eval x)))) A' v := by
  unfold convSameA at h
  split at h
  · rename_i e0 e b o len k hs hd hx
    have hr := eo hA.toLook ht hx
    split at h
    · rename_i c e' hu8 hsd hg
      have hsd' : src = dst := Nat.eq_of_beq_eq_true hsd
      subst hsd'
      cases hee : e'.beq e with
      | false => simp [hee] at h
      | true =>
      have hee' : e' = e := Nat.eq_of_beq_eq_true hee
      subst hee'
      simp only [hee, Bool.not_true, cond_false, Option.some.injEq, Prod.mk.injEq] at h
      obtain ⟨rfl, rfl⟩ := h
      rw [hs] at hd; cases hd
      have hr' := hr
      simp only [VR] at hr'
      obtain ⟨q, he, _, hq⟩ := hr'
      rcases hq with hq | ⟨y, hy, rfl⟩
      · omega
      obtain ⟨cs, _, fr, hh, hfe, htot, hsz, hle, hlr, hfr⟩ := hA.cells hy hg
      obtain ⟨rfl, hal⟩ := hfe rfl
      obtain ⟨lo, hi⟩ := fr
      have hfz := freeze_eq (w := w) hh cs.size
      refine ⟨a.eval x, w.freeze ⟨y.blk, cs.size, none⟩ 1, m, .inl ?_, hr, ?_⟩
      · simp only [Go.convert, Sem.run_bind, run_underlying hs, Result.andThen_ok, he]
        simp only [run_underlying hu8, Result.andThen_ok, BEq.rfl]
        simp [markStringish, World.shape?, hh, Result.andThen]
      · refine Sim.touch hA b y _ _ hy hg rfl (by rw [hfz]) (by rw [hfz]; exact ⟨rfl, rfl, rfl⟩) ⟨cs, _, _, rfl, fun _ => ⟨rfl, hal⟩, htot, hsz, hle, hlr, fun _ => .inr ⟨?_, hu8⟩⟩
        have := hfr rfl
        simp only at this
        by_cases hlh : lo = hi
        · subst hlh; simp [htot]
        · rcases this with h1 | h1
          · exact absurd h1 hlh
          · have : (lo == hi) = false := by simpa using hlh
            simp only [this]
            simp; omega
    · simp at h
  · simp at h

theorem rangeA_go (hg : Glob P m) (ht : TR m t a.tmps) {ty : TypeId} {x : Operand} {v : AV} {A' : AH} (h : rangeA P A t ty x = some (v, A')) :
    Made P m A w (do pure (.value (← Instr.range ty (a.eval x)))) A' v := by
  unfold rangeA at h
  split at h
  · rename_i s hu hx
    obtain ⟨s', he, rfl⟩ := (evalO_rel hg ht hx).str_inv
    simp only [Option.some.injEq, Prod.mk.injEq] at h
    obtain ⟨rfl, rfl⟩ := h
    refine ⟨.pointer (some ⟨w.heap.size, 0, none⟩), { w with heap := w.heap.push (.stringIter s' 0) }, ?_, ⟨rfl, rfl, rfl⟩, .inr ⟨_, .stringIter s' 0, ⟨w.heap.size, 0, 0, 0⟩, rfl, rfl, rfl, rfl, fun m' _ hm' => ⟨⟨rfl, s', rfl, rfl⟩, VR.at_ hm' rfl⟩⟩⟩
    simp [Instr.range, run_underlying hu, Result.andThen, he]
  · simp at h

theorem makeA_sim (hg : Glob P m) (ht : TR m t a.tmps) {o : Oper} {v : AV} {A' : AH} (h : makeA P A o.op t = some (v, A')) : Made P m A w (execOp a.eval o) A' v := by
  obtain ⟨dst, op, ty, pos, after, guard⟩ := o
  simp only at h
  cases op <;> simp only [makeA, reduceCtorEq] at h
  case alloc e => exact allocA_go h
  case box e x => exact boxA_go hg ht h
  case build tx ps =>
    split at h
    · rename_i v' hv
      simp only [Option.some.injEq, Prod.mk.injEq] at h
      obtain ⟨rfl, rfl⟩ := h
      obtain ⟨u, h1, h2⟩ := buildA_rel hg ht hv
      refine ⟨u, w, ?_, ⟨rfl, rfl, rfl⟩, .inl ⟨rfl, rfl, h2⟩⟩
      simp only [execOp]
      rw [Sem.run_bind, h1]; rfl
    · simp at h
  case buildSlice tx n ps => exact buildSliceA_go hg ht h
  case makeSlice tx l c => exact makeSliceA_go hg ht h
  case convert src dst' x => exact convMakeA_go hg ht h
  case range tx x => exact rangeA_go hg ht h

end Go.Fold

/-
  A part of the road: an evaluator over abstract memory with a proved simulation, and what is reckoned by it. Written by an AI agent; no person has read it.
-/
import Derived.Test.YtebjajchdidnfaaGreatDoorFoldEff
set_option linter.all false
namespace Go.Fold
variable {P : Program} {m : Map} {A : AH} {w : World} {t : AT} {a : Act}

def NotInt (P : Program) (tx : TypeId) : Prop := ∃ d, P.underlying tx = some d ∧ ∀ k, d ≠ .int k

theorem notIntTy_rel {tx : TypeId} (h : notIntTy P tx = true) : NotInt P tx := by
  unfold notIntTy at h
  split at h
  · simp at h
  · rename_i d hn hu
    exact ⟨d, hu, fun k hk => by subst hk; exact (hn k rfl).elim⟩
  · simp at h

theorem run_append_in {ty tx tr e : TypeId} {sz sLen sCap n : Nat} {base : Option Addr} {x : Value} {us : Array Value} {w' : World} (hty : P.underlying ty = some (.slice e)) (hnt : NotInt P tx) (hsz : sizeA P e = some sz)
    (hlen : (Builtin.lenOf x).run P w = .ok n w) (hle : sLen + n ≤ sCap) (hf : (Builtin.firstCells sz n x).run P w = .ok us w)
    (hst : match base with
      | some p => (storeCells (p.add (sLen * sz)) us.toList).run P w = .ok () w'
      | none => w' = w) :
    (Builtin.append_ #[ty, tx] tr #[.slice base sLen sCap, x]).run P w = .ok (.slice base (sLen + n) sCap) w' := by
  obtain ⟨d, hd, hdi⟩ := hnt
  unfold Builtin.append_
  simp only [List.getElem?_toArray, List.getElem?_cons_succ, List.getElem?_cons_zero]
  cases d with
  | int k => exact (hdi k rfl).elim
  | _ =>
    simp only [Sem.run_bind, run_underlying hty, run_underlying hd, Sem.run_pure, Result.andThen_ok, run_sizeOf hsz, Bool.false_eq_true, if_false, hlen, Bool.not_false, if_true, if_pos hle, hf]
    cases base with
    | none => subst hst; simp [Result.andThen]
    | some p => simp only at hst; simp [hst, Result.andThen]

def newCap (w : World) (need old : Nat) (e : TypeId) : Nat := (Question.appendCap need old e).cut (w.tape w.drawn (.appendCap need old e))

theorem newCap_ge (w : World) (need old : Nat) (e : TypeId) : need ≤ newCap w need old e := by simp only [newCap, Question.cut]; omega

theorem run_append_new {ty tx tr e : TypeId} {inf : TypeInfo} {z : Value} {sLen sCap n : Nat} {base : Option Addr} {x : Value} {old us : Array Value} (hty : P.underlying ty = some (.slice e)) (hnt : NotInt P tx)
    (hi : P.info? e = some inf) (hz0 : inf.zero = some z) (hlen : (Builtin.lenOf x).run P w = .ok n w) (hle : ¬ sLen + n ≤ sCap) (hg : growOk inf (sLen + n) = true)
    (ho : (Builtin.firstCells inf.size sLen (.slice base sLen sCap)).run P { w with drawn := w.drawn + 1 } = .ok old { w with drawn := w.drawn + 1 })
    (hf : (Builtin.firstCells inf.size n x).run P { w with drawn := w.drawn + 1 } = .ok us { w with drawn := w.drawn + 1 }) :
    (Builtin.append_ #[ty, tx] tr #[.slice base sLen sCap, x]).run P w =
      .ok (.slice (some ⟨w.heap.size, 0, none⟩) (sLen + n) (newCap w (sLen + n) sCap e))
        { w with drawn := w.drawn + 1, heap := w.heap.push (.cells (old ++ us ++ Builtin.zeroCells z.cells (newCap w (sLen + n) sCap e - (sLen + n))) e) } := by
  obtain ⟨d, hd, hdi⟩ := hnt
  unfold growOk at hg
  simp only [Bool.and_eq_true] at hg
  have g1 := of_nble hg.1
  have g2 := of_nble hg.2
  have hcap := nextslicecap_le (sLen + n) sCap (by omega)
  have hc1 : ¬ ((sLen + n : Nat) : Int) > IntKind.i64.max := by
    have : IntKind.i64.max = 9223372036854775807 := by decide
    rw [this]; omega
  have hc2 : ¬ Builtin.nextslicecap (sLen + n) sCap * inf.bytes > 2 ^ 48 := by
    have : Builtin.nextslicecap (sLen + n) sCap * inf.bytes ≤ ((sLen + n) * 2 + 1024) * inf.bytes := Nat.mul_le_mul_right _ hcap
    omega
  have hforced : (Question.appendCap (sLen + n) sCap e).forced = false := rfl
  have hcut : (Question.appendCap (sLen + n) sCap e).cut (w.tape w.drawn (.appendCap (sLen + n) sCap e)) = newCap w (sLen + n) sCap e := rfl
  unfold Builtin.append_
  simp only [List.getElem?_toArray, List.getElem?_cons_succ, List.getElem?_cons_zero]
  cases d with
  | int k => exact (hdi k rfl).elim
  | _ =>
    simp only [Sem.run_bind, run_underlying hty, run_underlying hd, Result.andThen_ok, run_sizeOf (show sizeA P e = some inf.size by simp [sizeA, hi]), Bool.false_eq_true, if_false, hlen, Bool.not_false, if_true, if_neg hle, run_typeInfo hi, Sem.run_pure, hc1, false_and, if_neg hc2,
      run_choose, hforced, run_askRoom, hcut, ho, hf, zeroValue, hz0, run_newRow]

theorem size_zeroCells (z : Array Value) (n : Nat) : (Builtin.zeroCells z n).size = n * z.size := by simp [Builtin.zeroCells]

theorem sizeA_of_info {e : TypeId} {inf : TypeInfo} (h : P.info? e = some inf) : sizeA P e = some inf.size := by simp [sizeA, h]

theorem slice_none_inv {n k : Nat} {v : Value} (h : VR m (.slice none n (some k)) v) : v = .slice none n k ∧ n ≤ k := by
  simp only [VR] at h
  obtain ⟨k', hk, he, hn⟩ := h
  cases hk
  exact ⟨he, hn⟩

theorem appendA_rel (hA : Agree P m A w) {e : TypeId} {base : Option (Nat × Nat)} {len : Nat} {cap : Option Nat} {new : List AV} {n : Nat} {v : AV} {A' : AH} (h : appendA P A e base len cap new n = some (v, A'))
    {ty tx tr : TypeId} (hty : P.underlying ty = some (.slice e)) (hnt : NotInt P tx) {s x : Value} (hs : VR m (.slice base len cap) s) (hlen : ∀ w, (Builtin.lenOf x).run P w = .ok n w)
    (hfirst : ∀ sz, sizeA P e = some sz → ∀ w', Agree P m A w' → ∃ us : Array Value, (Builtin.firstCells sz n x).run P w' = .ok us w' ∧ LR m new us.toList) (hsome : ∃ sz, sizeA P e = some sz) :
    ∃ u w' m', (Builtin.append_ #[ty, tx] tr #[s, x]).run P w = .ok u w' ∧ VR m' v u ∧ Sim P m A w m' A' w' := by
  obtain ⟨sz0, hsz0⟩ := hsome
  unfold appendA at h
  cases hn : n.beq 0 with
  | true =>
    simp only [hn, cond_true, Option.some.injEq, Prod.mk.injEq] at h
    obtain ⟨rfl, rfl⟩ := h
    have hn0 : n = 0 := Nat.eq_of_beq_eq_true hn
    subst hn0
    obtain ⟨us, h1, h2⟩ := hfirst sz0 hsz0 w hA
    obtain ⟨q, k, rfl, hqn⟩ := hs.slice_inv
    have hlk : len ≤ k := by
      cases base with
      | none =>
        cases cap with
        | none => simp [VR] at hs
        | some c => obtain ⟨he, hle⟩ := slice_none_inv hs; cases he; exact hle
      | some b =>
        cases cap with
        | none => simp only [VR] at hs; obtain ⟨_, k', _, _, he, _, hle, _⟩ := hs; cases he; exact hle
        | some c => simp only [VR] at hs; obtain ⟨_, he, hle, _⟩ := hs; cases he; exact hle
    have hus : us.toList = [] := by
      -- nothing is taken
      have : (Builtin.firstCells sz0 0 x).run P w = .ok #[] w := by
        have hx := hlen w
        cases x <;> simp [Builtin.lenOf] at hx
        case string b => simp [Builtin.firstCells, ByteArray.data_extract]
        case slice p q r => cases p <;> simp [Builtin.firstCells, loadCells, loadCellsFrom]
      rw [this] at h1; cases h1; rfl
    refine ⟨.slice q len k, w, m, ?_, hs, Sim.refl hA⟩
    have := run_append_in (tr := tr) (base := q) (w' := w) hty hnt hsz0 (hlen w) (by omega : len + 0 ≤ k) h1 (by cases q <;> simp [hus, storeCells])
    simpa using this
  | false =>
    have hn0 : n ≠ 0 := fun e => by subst e; simp at hn
    simp only [hn, cond_false] at h
    split at h
    · rename_i inf z hi hz
      cases hcond : (inf.size.beq 0 || !(z.length.beq inf.size) || !(allOne new) || !(new.length.beq (n * inf.size))) with
      | true => simp [hcond] at h
      | false =>
        simp only [hcond, cond_false] at h
        simp only [Bool.or_eq_false_iff, Bool.not_eq_false'] at hcond
        have hsz := sizeA_of_info hi
        have hpos : 0 < inf.size := Nat.pos_of_ne_zero fun e => by rw [e] at hcond; simp at hcond
        have hzl : z.length = inf.size := Nat.eq_of_beq_eq_true hcond.1.1.2
        have hnl : new.length = n * inf.size := Nat.eq_of_beq_eq_true hcond.2
        have hc : P.cellsOf e = inf.size := sizeA_cells hsz
        obtain ⟨zu, hzu, hzr, i', hi', hz0⟩ := zeroA_rel (m := m) hz w
        rw [hi] at hi'; cases hi'
        have hzs : zu.cells.size = inf.size := by rw [← hzl, ← hzr.length]; simp
        have hd := Sim.drew hA (w.drawn + 1)
        split at h
        · -- nil
          rename_i k
          cases hcc : (len.beq 0 && k.beq 0 && growOk inf n) with
          | false => simp [hcc] at h
          | true =>
            simp only [hcc, cond_true, Option.some.injEq, Prod.mk.injEq] at h
            obtain ⟨rfl, rfl⟩ := h
            simp only [Bool.and_eq_true] at hcc
            have hl0 : len = 0 := Nat.eq_of_beq_eq_true hcc.1.1
            have hk0 : k = 0 := Nat.eq_of_beq_eq_true hcc.1.2
            subst hl0; subst hk0
            obtain ⟨rfl, _⟩ := slice_none_inv hs
            obtain ⟨us, h1, h2⟩ := hfirst _ hsz _ hd.agree
            have hul : us.size = n * inf.size := by rw [← hnl, ← h2.length]; simp
            have hrun := run_append_new (w := w) (tr := tr) (base := none) (sLen := 0) (sCap := 0) (old := #[]) hty hnt hi hz0 (hlen w) (by omega) (by simpa using hcc.2) (by simp [Builtin.firstCells]) h1
            rw [Nat.zero_add] at hrun
            have hge := newCap_ge w n 0 e
            have h3 := sim_newCells hd.agree new (#[] ++ us ++ Builtin.zeroCells zu.cells (newCap w n 0 e - n)) e (by
              have : (#[] ++ us ++ Builtin.zeroCells zu.cells (newCap w n 0 e - n)).toList.take new.length = us.toList := by
                rw [hnl, ← hul]; simp
              rw [this]; exact h2) (by simp [hnl, hul]) (by simp only [size_zeroCells, hzs, hul, hc, Array.size_append, Array.size_empty, Nat.zero_add]; rw [← Nat.add_mul]; exact ⟨_, Nat.mul_comm _ _⟩)
            refine ⟨_, _, _, hrun, ?_, Sim.trans hA hd h3⟩
            simp only [VR]
            refine ⟨_, _, _, Map.plus_same _ _ _, rfl, ?_, hge, .inr rfl⟩
            simp only [size_zeroCells, hzs, hul, hc, Array.size_append, Array.size_empty, Nat.zero_add]
            rw [← Nat.add_mul]; congr 1; omega
        · simp at h
        · -- a slice whose capacity is known
          rename_i b o k
          simp only [VR] at hs
          obtain ⟨q, rfl, hlk, hq⟩ := hs
          cases hin : Nat.ble (len + n) k with
          | true =>
            simp only [hin, cond_true] at h
            have hle := of_nble hin
            split at h
            · rename_i A'' hst
              simp only [Option.some.injEq, Prod.mk.injEq] at h
              obtain ⟨rfl, rfl⟩ := h
              rcases hq with hq | hq
              · omega
              obtain ⟨us, h1, h2⟩ := hfirst _ hsz _ hA
              have hq2 : PR m (b, o + len * inf.size) (q.add (len * inf.size)) := by
                obtain ⟨y, hy, rfl⟩ := hq
                exact ⟨y, hy, by simp [add_off, Nat.add_assoc]⟩
              obtain ⟨w', h3, h4⟩ := storeCellsA_rel hA hst h2 hq2
              refine ⟨_, w', m, run_append_in (tr := tr) (base := some q) hty hnt hsz (hlen w) hle h1 h3, ?_, h4⟩
              simp only [VR]
              exact ⟨q, rfl, hle, .inr hq⟩
            · simp at h
          | false =>
            simp only [hin, cond_false] at h
            have hnle : ¬ len + n ≤ k := fun e => by rw [Nat.ble_eq_true_of_le e] at hin; cases hin
            split at h
            · rename_i c p' hcell
              obtain ⟨e', fz⟩ := p'
              split at h
              · rename_i old hold
                cases hg : growOk inf (len + n) with
                | false => simp [hg] at h
                | true =>
                  simp only [hg, cond_true, Option.some.injEq, Prod.mk.injEq] at h
                  obtain ⟨rfl, rfl⟩ := h
                  obtain ⟨us, h1, h2⟩ := hfirst _ hsz _ hd.agree
                  obtain ⟨ho1, rfl⟩ := sub_eq hold
                  have holdrun : ∃ olds : Array Value, (Builtin.firstCells inf.size len (.slice (some q) len k)).run P { w with drawn := w.drawn + 1 } = .ok olds { w with drawn := w.drawn + 1 } ∧ LR m ((c.drop o).take (len * inf.size)) olds.toList := by
                    refine firstA_rel (x := .slice (some (b, o)) len (some k)) hd.agree.toLook hsz (by simp [firstA, hsz, hcell, hold]) (k := len) rfl (Nat.le_refl _) ?_
                    simp only [VR]; exact ⟨q, rfl, hlk, hq⟩
                  obtain ⟨olds, h3, h4⟩ := holdrun
                  have hol : olds.size = len * inf.size := by have := h4.length; simp at this; omega
                  have hul : us.size = n * inf.size := by rw [← hnl, ← h2.length]; simp
                  have hrun := run_append_new (w := w) (tr := tr) (base := some q) (sLen := len) (sCap := k) hty hnt hi hz0 (hlen w) hnle hg h3 h1
                  have hge := newCap_ge w (len + n) k e
                  have hnewl : ((c.drop o).take (len * inf.size) ++ new).length = (len + n) * inf.size := by rw [List.length_append, hnl, Nat.add_mul]; simp; omega
                  have h5 := sim_newCells hd.agree ((c.drop o).take (len * inf.size) ++ new) (olds ++ us ++ Builtin.zeroCells zu.cells (newCap w (len + n) k e - (len + n))) e (by
                    have : (olds ++ us ++ Builtin.zeroCells zu.cells (newCap w (len + n) k e - (len + n))).toList.take ((c.drop o).take (len * inf.size) ++ new).length = olds.toList ++ us.toList := by
                      rw [hnewl, Nat.add_mul, ← hol, ← hul, Array.toList_append, List.take_append_of_le_length (by simp), List.take_of_length_le (by simp), Array.toList_append]
                    rw [this]; exact h4.append h2) (by rw [hnewl]; simp [hol, hul, Nat.add_mul]) (by simp only [size_zeroCells, hzs, hul, hol, hc, Array.size_append]; rw [← Nat.add_mul, ← Nat.add_mul]; exact ⟨_, Nat.mul_comm _ _⟩)
                  refine ⟨_, _, _, hrun, ?_, Sim.trans hA hd h5⟩
                  simp only [VR]
                  refine ⟨_, _, _, Map.plus_same _ _ _, rfl, ?_, hge, .inr rfl⟩
                  simp only [size_zeroCells, hzs, hul, hol, hc, Array.size_append, Nat.zero_add]
                  rw [← Nat.add_mul, ← Nat.add_mul]; congr 1; omega
              · simp at h
            · simp at h
        · -- a slice that goes to the end of its memory
          rename_i b o
          split at h
          · rename_i c e' hcell
            cases hee : e'.beq e with
            | false => simp [hee] at h
            | true =>
              simp only [hee, cond_true] at h
              have he' : e' = e := Nat.eq_of_beq_eq_true hee
              subst he'
              simp only [VR] at hs
              obtain ⟨y, k, q, hy, rfl, htot, hlk, hq⟩ := hs
              obtain ⟨cs, e2, fr, hh, hfe, hcs, hysz, hle, hlr, hfr⟩ := hA.cells hy hcell
              obtain ⟨he2, hal1, hal2⟩ := hfe rfl
              rw [he2] at hh
              rw [hc] at hysz
              rw [hysz] at htot
              cases hin : Nat.ble (o + (len + n) * inf.size) c.length with
              | true =>
                simp only [hin, cond_true] at h
                have hin' := of_nble hin
                have hk : len + n ≤ k := by
                  have : (len + n) * inf.size ≤ k * inf.size := by omega
                  exact Nat.le_of_mul_le_mul_right this hpos
                split at h
                · rename_i A'' hst
                  simp only [Option.some.injEq, Prod.mk.injEq] at h
                  obtain ⟨rfl, rfl⟩ := h
                  rcases hq with hq | hq
                  · omega
                  obtain ⟨us, h1, h2⟩ := hfirst _ hsz _ hA
                  have hq2 : PR m (b, o + len * inf.size) (q.add (len * inf.size)) := ⟨y, hy, by rw [hq]; simp [add_off, Nat.add_assoc]⟩
                  obtain ⟨w', h3, h4⟩ := storeCellsA_rel hA hst h2 hq2
                  refine ⟨_, w', m, run_append_in (tr := tr) (base := some q) hty hnt hsz (hlen w) hk h1 h3, ?_, h4⟩
                  simp only [VR]
                  exact ⟨y, k, q, hy, rfl, by rw [hysz]; exact htot, hk, .inr hq⟩
                · simp at h
              | false =>
                simp only [hin, cond_false] at h
                split at h
                · rename_i old hold
                  cases hg2 : (growOk inf (len + n) && (o % inf.size).beq 0) with
                  | false => simp [hg2] at h
                  | true =>
                    simp only [hg2, cond_true, Option.some.injEq, Prod.mk.injEq] at h
                    obtain ⟨rfl, rfl⟩ := h
                    simp only [Bool.and_eq_true] at hg2
                    have hg := hg2.1
                    have hom : inf.size ∣ o := Nat.dvd_of_mod_eq_zero (Nat.eq_of_beq_eq_true hg2.2)
                    obtain ⟨ho1, rfl⟩ := sub_eq hold
                    have hnewl : ((c.drop o).take (len * inf.size) ++ new).length = (len + n) * inf.size := by rw [List.length_append, hnl, Nat.add_mul]; simp; omega
                    by_cases hk : len + n ≤ k
                    · -- there is room: in place
                      rcases hq with hq | hq
                      · omega
                      obtain ⟨us, h1, h2⟩ := hfirst _ hsz _ hA
                      have hul : us.toList.length = n * inf.size := by rw [h2.length, hnl]
                      have hroom : y.sh + o + (len + n) * inf.size ≤ cs.size := by
                        rw [hcs, ← htot]; exact Nat.add_le_add_left (Nat.mul_le_mul_right _ hk) _
                      rw [Nat.add_mul] at hroom
                      obtain ⟨cs', h3, h4⟩ := run_storeCells_set (P := P) (b := y.blk) (o := y.sh + o + len * inf.size) us.toList 0 w cs hh (by omega) (fun j hj => notFrozen (hfr rfl) (by omega)) (allOne_rel (by simpa using hcond.1.2) h2)
                      have hst : (storeCells (q.add (len * inf.size)) us.toList).run P w = .ok () { w with heap := w.heap.setIfInBounds y.blk (.cells cs' e' fr) } := by
                        rw [hq, add_off]; exact h3
                      have hcs' : cs'.size = y.tot := by
                        have hul' := hul
                        simp only [Array.length_toList] at hul'
                        have : cs'.toList.length = cs.toList.length := by rw [h4]; simp only [List.length_append, List.length_take, List.length_drop, Array.length_toList]; omega
                        rw [← hcs]; simpa using this
                      let x' : Img := ⟨y.blk, y.sh + o, y.tot, y.sz⟩
                      have hle' := Map.le_plus (x := x') hA.none_next
                      refine ⟨_, _, _, run_append_in (tr := tr) (base := some q) hty hnt hsz (hlen w) hk h1 hst, ?_,
                        Sim.hand hA b y x' _ (.cells ((c.drop o).take (len * inf.size) ++ new) e' false) (.cells cs' e' fr) hy hcell rfl rfl rfl ⟨rfl, rfl, rfl⟩ ⟨cs', e', fr, rfl, fun _ => ⟨rfl, ?_, hal2⟩, hcs', by simp only [x']; rw [hysz, hc], ?_, ?_, hfr⟩⟩
                      · simp only [VR]
                        refine ⟨x', k, q, Map.plus_same _ _ _, rfl, by simp only [x']; rw [hysz]; exact htot, hk, .inr (by simp only [x']; rw [hq]; simp)⟩
                      · simp only [x']
                        exact Nat.dvd_add hal1 (by rw [hysz]; exact hom)
                      · rw [hnewl, Nat.add_mul]; simp only [x']; omega
                      · refine LR.mono hle' ?_
                        have e1 : (cs'.toList.drop x'.sh).take ((c.drop o).take (len * inf.size) ++ new).length = ((cs.toList.drop (y.sh + o)).take (len * inf.size)) ++ us.toList := by
                          simp only [x']
                          rw [hnewl, h4, Nat.add_zero]
                          have l1 : (cs.toList.take (y.sh + o + len * inf.size) ++ us.toList ++ cs.toList.drop (y.sh + o + len * inf.size + us.toList.length)).drop (y.sh + o) = (cs.toList.drop (y.sh + o)).take (len * inf.size) ++ us.toList ++ cs.toList.drop (y.sh + o + len * inf.size + us.toList.length) := by
                            rw [List.append_assoc, List.drop_append_of_le_length (by simp; omega), List.drop_take, ← List.append_assoc]
                            congr 3; omega
                          rw [l1, Nat.add_mul]
                          have l2 : ((cs.toList.drop (y.sh + o)).take (len * inf.size) ++ us.toList).length = len * inf.size + n * inf.size := by rw [List.length_append, hul]; simp; omega
                          rw [← l2, List.take_left]
                        rw [e1]
                        refine LR.append ?_ h2
                        have := LR.take (len * inf.size) (LR.drop o hlr)
                        rwa [cut_cut _ _ _ _ _ ho1] at this
                    · -- there is none: new memory
                      have hlose := Sim.lose hA b y _ hy hcell rfl
                      have hd2 := Sim.drew hlose.agree (w.drawn + 1)
                      obtain ⟨us, h1, h2⟩ := hfirst _ hsz _ hd.agree
                      have hul : us.size = n * inf.size := by rw [← hnl, ← h2.length]; simp
                      have holdrun : ∃ olds : Array Value, (Builtin.firstCells inf.size len (.slice (some q) len k)).run P { w with drawn := w.drawn + 1 } = .ok olds { w with drawn := w.drawn + 1 } ∧ LR m ((c.drop o).take (len * inf.size)) olds.toList := by
                        refine firstA_rel (x := .slice (some (b, o)) len none) hd.agree.toLook hsz (by simp [firstA, hsz, cellsAt, hcell, hold]) (k := len) rfl (Nat.le_refl _) ?_
                        simp only [VR]; exact ⟨y, k, q, hy, rfl, by rw [hysz]; exact htot, hlk, hq⟩
                      obtain ⟨olds, h3, h4⟩ := holdrun
                      have hol : olds.size = len * inf.size := by have := h4.length; simp at this; omega
                      have hrun := run_append_new (w := w) (tr := tr) (base := some q) (sLen := len) (sCap := k) hty hnt hi hz0 (hlen w) hk hg h3 h1
                      have hge := newCap_ge w (len + n) k e'
                      have h5 := sim_newCells hd2.agree ((c.drop o).take (len * inf.size) ++ new) (olds ++ us ++ Builtin.zeroCells zu.cells (newCap w (len + n) k e' - (len + n))) e' (by
                        have : (olds ++ us ++ Builtin.zeroCells zu.cells (newCap w (len + n) k e' - (len + n))).toList.take ((c.drop o).take (len * inf.size) ++ new).length = olds.toList ++ us.toList := by
                          rw [hnewl, Nat.add_mul, ← hol, ← hul, Array.toList_append, List.take_append_of_le_length (by simp), List.take_of_length_le (by simp), Array.toList_append]
                        rw [this]; exact h4.append h2) (by rw [hnewl]; simp [hol, hul, Nat.add_mul]) (by simp only [size_zeroCells, hzs, hul, hol, hc, Array.size_append]; rw [← Nat.add_mul, ← Nat.add_mul]; exact ⟨_, Nat.mul_comm _ _⟩)
                      refine ⟨_, _, _, hrun, ?_, Sim.trans hA (Sim.trans hA hlose hd2) h5⟩
                      simp only [VR]
                      refine ⟨_, _, _, Map.plus_same _ _ _, rfl, ?_, hge, .inr rfl⟩
                      simp only [size_zeroCells, hzs, hul, hol, hc, Array.size_append, Nat.zero_add]
                      rw [← Nat.add_mul, ← Nat.add_mul]; congr 1; omega
                · simp at h
          · simp at h
    · simp at h

end Go.Fold

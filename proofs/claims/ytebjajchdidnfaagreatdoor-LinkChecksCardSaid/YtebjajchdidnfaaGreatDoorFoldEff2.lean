/-
  A part of the road: an evaluator over abstract memory with a proved simulation, and what is reckoned by it. Written by an AI agent; no person has read it.
-/
import Derived.Test.YtebjajchdidnfaaGreatDoorFoldApp
set_option linter.all false
namespace Go.Fold
variable {P : Program} {m : Map} {A : AH} {w : World} {t : AT} {a : Act}

theorem firstA_size {e : TypeId} {n : Nat} {x : AV} {l : List AV} (h : firstA P A e n x = some l) : (∃ sz, sizeA P e = some sz) ∨ (∃ s, x = .str s) ∨ (∃ k c, x = .slice none k c) := by
  unfold firstA at h
  split at h
  · exact .inr (.inl ⟨_, rfl⟩)
  · exact .inr (.inr ⟨_, _, rfl⟩)
  · split at h
    · rename_i hs _; exact .inl ⟨_, hs⟩
    · simp at h
  · simp at h

theorem appendOpA_go (hA : Agree P m A w) (ht : TR m t a.tmps) {args : List Operand} {tys : List TypeId} {v : AV} {A' : AH} (h : appendOpA P A t args tys = some (v, A')) (tr : TypeId) :
    Goes P m A w (do pure (.value (← Builtin.append_ tys.toArray tr (args.map a.eval).toArray))) A' v := by
  unfold appendOpA at h
  split at h
  · rename_i s x ty tx
    split at h
    · rename_i e base len cap vx hty hnt hs hx
      split at h
      · rename_i n sz hn hsz
        split at h
        · rename_i new hnew
          have hsr := eo hA.toLook ht hs
          have hxr := eo hA.toLook ht hx
          obtain ⟨u, w', m', h1, h2, h3⟩ := appendA_rel (tr := tr) hA h hty (notIntTy_rel hnt) hsr (fun w => lenOfA_rel hn hxr w)
            (fun sz' hsz' w' hw' => firstA_rel hw'.toLook hsz' hnew hn (Nat.le_refl _) hxr) ⟨sz, hsz⟩
          refine ⟨u, w', m', .inl ?_, h2, h3⟩
          have : (List.map a.eval [s, x]).toArray = #[a.eval s, a.eval x] := rfl
          rw [Sem.run_bind, this, show ([ty, tx] : List TypeId).toArray = #[ty, tx] from rfl, h1]
          rfl
        · simp at h
      · simp at h
    · simp at h
  · simp at h

theorem clearOpA_go (hA : Agree P m A w) (ht : TR m t a.tmps) {args : List Operand} {tys : List TypeId} {v : AV} {A' : AH} (h : clearOpA P A t args tys = some (v, A')) (tr : TypeId) :
    Goes P m A w (do pure (.value (← Builtin.clear_ tys.toArray tr (args.map a.eval).toArray))) A' v := by
  unfold clearOpA at h
  split at h
  · rename_i x ty tys
    have e1 : (ty :: tys).toArray[0]? = some ty := by simp
    have e2 : (List.map a.eval [x]).toArray[0]? = some (a.eval x) := by simp
    split at h
    · rename_i e n c hu hx
      simp only [Option.some.injEq, Prod.mk.injEq] at h
      obtain ⟨rfl, rfl⟩ := h
      obtain ⟨q, k, hq, hqn⟩ := (eo hA.toLook ht hx).slice_inv
      cases q with
      | some q => simp at hqn
      | none =>
        refine ⟨_, w, m, .inl ?_, VR.undef, Sim.refl hA⟩
        simp [Builtin.clear_, e1, e2, run_underlying hu, hq, Result.andThen]
        rfl
    · rename_i e p c _ hu hx
      simp only [Option.some.injEq, Prod.mk.injEq] at h
      obtain ⟨rfl, rfl⟩ := h
      obtain ⟨q, k, hq, hqn⟩ := (eo hA.toLook ht hx).slice_inv
      refine ⟨_, w, m, .inl ?_, VR.undef, Sim.refl hA⟩
      cases q <;> (simp [Builtin.clear_, e1, e2, run_underlying hu, hq, Result.andThen]; rfl)
    · rename_i e b o n c hu hx
      split at h
      · rename_i inf z hi hz
        cases hzb : z.length.beq inf.size with
        | false => simp [hzb] at h
        | true =>
          simp only [hzb, cond_true] at h
          split at h
          · rename_i A'' hst
            simp only [Option.some.injEq, Prod.mk.injEq] at h
            obtain ⟨rfl, rfl⟩ := h
            have hr := eo hA.toLook ht hx
            obtain ⟨zu, hzu, hzl, _⟩ := zeroA_rel (m := m) hz w
            have hp : ∃ q k, a.eval x = .slice (some q) (n + 1) k ∧ PR m (b, o) q := by
              cases c with
              | some c =>
                simp only [VR] at hr
                obtain ⟨q, hq, hn, hp⟩ := hr
                exact ⟨q, c, hq, hp.resolve_left (by omega)⟩
              | none =>
                simp only [VR] at hr
                obtain ⟨y, c, q, hy, hq, _, hn, hp⟩ := hr
                exact ⟨q, c, hq, y, hy, hp.resolve_left (by omega)⟩
            obtain ⟨q, k, hq, hp⟩ := hp
            obtain ⟨w', h1, h2⟩ := storeCellsA_rel hA hst (us := (Builtin.zeroCells zu.cells (n + 1)).toList) (repl_rel hzl (n + 1)) hp
            refine ⟨_, w', m, .inl ?_, VR.undef, h2⟩
            simp [Builtin.clear_, e1, e2, run_underlying hu, hq, Result.andThen, hzu, h1]
            rfl
          · cases h
      · cases h
    · cases h
  · cases h

theorem freeze_cells {b o n : Nat} {cs : Array Value} {e : TypeId} {fr : Nat × Nat} (h : w.heap[b]? = some (.cells cs e fr)) : ∃ fr', w.freeze ⟨b, o, none⟩ n = { w with heap := w.heap.setIfInBounds b (.cells cs e fr') } := by
  obtain ⟨lo, hi⟩ := fr
  unfold World.freeze
  by_cases hn : n = 0
  · rw [if_pos hn]
    refine ⟨(lo, hi), ?_⟩
    have : w.heap.setIfInBounds b (.cells cs e (lo, hi)) = w.heap := by
      apply Array.ext_getElem?
      intro j
      rw [Array.getElem?_setIfInBounds]
      split
      · rename_i hj
        subst hj
        split
        · rw [h]
        · rename_i hlt; rw [Array.getElem?_eq_none (by omega)]
      · rfl
    rw [this]
  · rw [if_neg hn, modify_eq_set _ _ _ _ h]
    exact ⟨_, rfl⟩

theorem run_unsafeString_at (pt it ty e : TypeId) (hp : P.underlying pt = some (.pointer e)) (hc : P.cellsOf e = 1) (a : Addr) (cells : Nat) (hsh : w.shape? a.block = some (e, cells)) (l : List UInt8) (h0 : l.length ≠ 0) (hn : a.off + l.length ≤ cells) (h63 : l.length ≤ 9223372036854775807)
    (hcell : ∀ j x, l[j]? = some x → w.cell? (a.add j) = some (.int .u8 x.toNat)) :
    (Builtin.unsafeString_ #[pt, it] ty #[.pointer (some a), .int .i64 l.length]).run P w = .ok (.string ⟨l.toArray⟩) (w.freeze a l.length) := by
  have hlb := Lib.run_loadBytes (P := P) w l a .empty hcell
  have hlies : liesAt P P.depth e (cells / P.cellsOf e) a.off e l.length = true := liesAt_self (by rw [hc]; exact Nat.one_ne_zero) (by rw [hc]; exact Nat.mod_one _) (by rw [hc]; simp; omega)
  have h63' : ¬ (9223372036854775807 : Int) < (l.length : Int) := by omega
  have hdef : Builtin.unsafeString_ #[pt, it] ty #[.pointer (some a), .int .i64 l.length] =
      (do
        let n ← asInt (.int .i64 l.length)
        if n < 0 then runtimePanic (.error "unsafe.String: len out of range")
        if n > IntKind.i64.max then unsupported (.unsafePointer "String: a length above the largest int")
        if n = 0 then pure (.string .empty)
        else if ← variablesAt a (← elemOf pt) n.toNat then do
          let s ← loadBytes a .empty n.toNat
          freeze a n.toNat
          pure (.string s)
        else unsupported (.unsafePointer "String: not so many bytes at ptr")) := rfl
  rw [hdef]
  have hmax : IntKind.i64.max = 9223372036854775807 := rfl
  have hneg : ¬ (l.length : Int) < 0 := by omega
  have hl : l ≠ [] := fun e => h0 (by rw [e]; rfl)
  simp [asInt, asIntOf, hmax, h63', hneg, hl, variablesAt, hsh, elemOf, run_underlying hp, hlies, hlb]

theorem stringA_go (hA : Agree P m A w) (ht : TR m t a.tmps) {args : List Operand} {tys : List TypeId} {v : AV} {A' : AH} (h : stringA P A t args tys = some (v, A')) (tr : TypeId) :
    Goes P m A w (do pure (.value (← Builtin.unsafeString_ tys.toArray tr (args.map a.eval).toArray))) A' v := by
  unfold stringA at h
  split at h
  · rename_i x y ty ty2
    have e1 : ([ty, ty2] : List TypeId).toArray[0]? = some ty := by simp
    have e2 : (List.map a.eval [x, y]).toArray = #[a.eval x, a.eval y] := by simp
    split at h
    · rename_i p k hx hy
      simp only [Option.some.injEq, Prod.mk.injEq] at h
      obtain ⟨rfl, rfl⟩ := h
      obtain ⟨q, hq, _⟩ := (eo hA.toLook ht hx).ptr_inv
      have hn := (eo hA.toLook ht hy).int_inv
      refine ⟨.string .empty, w, m, .inl ?_, by simp only [VR]; exact ⟨_, rfl, by simp [bytes]⟩, Sim.refl hA⟩
      rw [e2, hq, hn]
      have := Lib.run_unsafeString_none (P := P) w ty ty2 tr q
      rw [Sem.run_bind]
      erw [this]
      rfl
    · rename_i b o n hn0 hx hy
      split at h
      · rename_i e c e' hu hg
        split at h
        · rename_i l hsz hl
          split at h
          · rename_i s hs
            cases hb : (e'.beq e && Nat.ble n 9223372036854775807) with
            | false => simp [hb] at h
            | true =>
              simp only [hb, cond_true, Option.some.injEq, Prod.mk.injEq] at h
              obtain ⟨rfl, rfl⟩ := h
              simp only [Bool.and_eq_true] at hb
              have hee := Nat.eq_of_beq_eq_true hb.1
              subst hee
              have hmx := of_nble hb.2
              have hpr := eo hA.toLook ht hx
              simp only [VR] at hpr
              obtain ⟨p, ⟨z, hz, rfl⟩, hq⟩ := hpr
              have hn := (eo hA.toLook ht hy).int_inv
              obtain ⟨cs, e2', fr, hh, hfe, htot, hzz, hle, hlr, hfr⟩ := hA.cells hz hg
              obtain ⟨he2, _⟩ := hfe rfl
              rw [he2] at hh
              obtain ⟨hol, rfl⟩ := sub_eq hl
              have h1 := LR.take n (LR.drop o hlr)
              rw [cut_cut _ _ _ _ _ hol] at h1
              obtain ⟨h2, h3⟩ := bytesOfCells_rel hs h1
              obtain ⟨i, hi, hi1⟩ := sizeA_info hsz
              have hc1 : P.cellsOf e' = 1 := by simp [Program.cellsOf, hi, hi1]
              have hlen : s.length = n := by
                have := congrArg List.length h2
                simp at this; omega
              have hn1 : n ≠ 0 := fun e0 => by subst e0; exact hn0 rfl
              have hcell : ∀ j x, (s.map UInt8.ofNat)[j]? = some x → w.cell? ((⟨z.blk, z.sh + o, none⟩ : Addr).add j) = some (.int .u8 x.toNat) := fun j x hx => by
                rw [add_off, cell?_cells hh]
                rw [List.getElem?_map] at hx
                cases hsj : s[j]? with
                | none => rw [hsj] at hx; cases hx
                | some k =>
                  rw [hsj] at hx
                  simp only [Option.map_some, Option.some.injEq] at hx
                  subst hx
                  have h4 := congrArg (fun l => l[j]?) h2
                  have hj : j < n := by rw [← hlen]; exact (List.getElem?_eq_some_iff.1 hsj).1
                  rw [List.getElem?_take_of_lt hj, List.getElem?_drop, List.getElem?_map, hsj] at h4
                  rw [Array.getElem?_toList] at h4
                  rw [h4]
                  have := h3 k (List.mem_of_getElem? hsj)
                  simp
                  omega
              have hrun := run_unsafeString_at (P := P) (w := w) ty ty2 tr e' hu hc1 ⟨z.blk, z.sh + o, none⟩ cs.size (by simp [World.shape?, hh]) (s.map UInt8.ofNat) (by rw [List.length_map, hlen]; exact hn1) (by rw [List.length_map, hlen, htot]; show z.sh + o + n ≤ z.tot; omega) (by rw [List.length_map, hlen]; exact hmx) hcell
              rw [List.length_map, hlen] at hrun
              obtain ⟨fr', hfz⟩ := freeze_cells (o := z.sh + o) (n := n) hh
              refine ⟨.string ⟨(s.map UInt8.ofNat).toArray⟩, w.freeze ⟨z.blk, z.sh + o, none⟩ n, m, .inl ?_, ?_, ?_⟩
              · rw [e2, hq, hn]
                rw [Sem.run_bind]
                erw [hrun]
                rfl
              · simp only [VR]
                refine ⟨_, rfl, ?_⟩
                simp only [bytes]
                simp
                apply List.ext_getElem?
                intro j
                rw [List.getElem?_map]
                cases hsj : s[j]? with
                | none => rfl
                | some k =>
                  have := h3 k (List.mem_of_getElem? hsj)
                  simp; omega
              · refine Sim.turn hA b z _ _ (.cells cs e' fr') hz hg rfl (by rw [hfz]) (by rw [hfz]; exact ⟨rfl, rfl, rfl⟩) ⟨cs, e', fr', rfl, (fun hf => by cases hf), htot, hzz, hle, hlr, (fun hf => by cases hf)⟩
          · cases h
        · cases h
      · cases h
    · cases h
  · cases h

theorem copyOpA_go (hA : Agree P m A w) (ht : TR m t a.tmps) {args : List Operand} {tys : List TypeId} {v : AV} {A' : AH} (h : copyOpA P A t args tys = some (v, A')) (tr : TypeId) :
    Goes P m A w (do pure (.value (← Builtin.copy_ tys.toArray tr (args.map a.eval).toArray))) A' v := by
  unfold copyOpA at h
  split at h
  · rename_i s x ty tys
    split at h
    · rename_i e base len cap vx hty hs hx
      split at h
      · rename_i n sz hn hsz
        split at h
        · rename_i new hnew
          have hsr := eo hA.toLook ht hs
          have hxr := eo hA.toLook ht hx
          obtain ⟨us, h1, h2⟩ := firstA_rel hA.toLook hsz hnew hn (Nat.min_le_left n len) hxr
          obtain ⟨q, k, hq, hqn⟩ := hsr.slice_inv
          have hl := lenOfA_rel (P := P) hn hxr w
          have run : ∀ w', (match q with | some p => (storeCells p us.toList).run P w | none => .ok () w) = .ok () w' →
              (do pure (.value (← Builtin.copy_ (ty :: tys).toArray tr ([s, x].map a.eval).toArray)) : Sem Next).run P w = .ok (.value (goInt ((min n len : Nat) : Int))) w' := by
            intro w' hst
            have e1 : (ty :: tys).toArray[0]? = some ty := by simp
            have e2 : (List.map a.eval [s, x]).toArray[0]? = some (a.eval s) := by simp
            have e3 : (List.map a.eval [s, x]).toArray[1]? = some (a.eval x) := by simp
            simp only [Builtin.copy_, e1, e2, e3, hq, Sem.run_bind, run_underlying hty, Result.andThen_ok, hl, run_sizeOf hsz]
            rw [show Nat.min n len = min n len from rfl, h1]
            simp only [Result.andThen_ok]
            cases q with
            | none => simp only at hst; cases hst; rfl
            | some p => simp only at hst; simp [hst, Result.andThen]
          have hv : VR m (.int .i64 (.ofNat (min n len))) (goInt ((min n len : Nat) : Int)) := by simp [VR, goInt]
          split at h
          · rename_i b o
            cases h0 : (min n len).beq 0 with
            | true =>
              simp only [h0, cond_true, Option.some.injEq, Prod.mk.injEq] at h
              obtain ⟨rfl, rfl⟩ := h
              have hz : min n len = 0 := Nat.eq_of_beq_eq_true h0
              refine ⟨_, w, m, .inl (run w ?_), hv, Sim.refl hA⟩
              have hus : us.toList = [] := by
                have : new = [] := by
                  rw [hz] at hnew
                  unfold firstA at hnew
                  split at hnew
                  · simp [cellsOfBytes] at hnew; exact hnew
                  · simpa using hnew.symm
                  · split at hnew
                    · obtain ⟨_, rfl⟩ := sub_eq hnew; simp
                    · simp at hnew
                  · simp at hnew
                rw [this] at h2; simpa [LR] using h2
              rw [hus]
              cases q <;> rfl
            | false =>
              simp only [h0, cond_false] at h
              split at h
              · rename_i A'' hst
                simp only [Option.some.injEq, Prod.mk.injEq] at h
                obtain ⟨rfl, rfl⟩ := h
                have hne : min n len ≠ 0 := fun e => by rw [e] at h0; simp at h0
                cases q with
                | none => simp at hqn
                | some p =>
                  have hp : PR m (b, o) p := by
                    rw [hq] at hsr
                    cases cap with
                    | some c => simp only [VR] at hsr; obtain ⟨p', he, hn', hp⟩ := hsr; cases he; rcases hp with hp | hp; (· omega); exact hp
                    | none => simp only [VR] at hsr; obtain ⟨y, c, p', hy, he, _, hn', hp⟩ := hsr; cases he; rcases hp with hp | hp; (· omega); exact ⟨y, hy, hp⟩
                  obtain ⟨w', h3, h4⟩ := storeCellsA_rel hA hst h2 hp
                  exact ⟨_, w', m, .inl (run w' h3), hv, h4⟩
              · simp at h
          · simp only [Option.some.injEq, Prod.mk.injEq] at h
            obtain ⟨rfl, rfl⟩ := h
            refine ⟨_, w, m, .inl (run w ?_), hv, Sim.refl hA⟩
            cases q with
            | none => rfl
            | some p => simp at hqn
        · simp at h
      · simp at h
    · simp at h
  · simp at h

theorem decode_ascii {s : ByteArray} {pos : Nat} {c : Nat} (h : (bytes s)[pos]? = some c) (hc : c < 128) : pos < s.size ∧ Utf8.decode s pos = (c, 1) := by
  have hlt : pos < s.size := by
    by_cases hlt : pos < s.size
    · exact hlt
    · rw [List.getElem?_eq_none (by rw [bytes_length]; omega)] at h; cases h
  refine ⟨hlt, ?_⟩
  have hg : (s.get! pos).toNat = c := by
    have h' : ∃ b, s.data.toList[pos]? = some b ∧ b.toNat = c := by simpa [bytes] using h
    obtain ⟨b, hb, rfl⟩ := h'
    have : s.get! pos = b := by
      have hb' : s.data[pos]? = some b := by simpa using hb
      have e1 : s.get! pos = s.data[pos]! := rfl
      rw [e1, Array.getElem!_eq_getD, Array.getD_eq_getD_getElem?, hb']
      rfl
    rw [this]
  simp only [Utf8.decode, Nat.add_zero, hg]
  rw [if_pos (by omega)]

theorem nextA_go (hA : Agree P m A w) (ht : TR m t a.tmps) {it : Operand} {b : Bool} {v : AV} {A' : AH} (h : nextA P A t it b = some (v, A')) (ty : TypeId) :
    Goes P m A w (do pure (.value (← Instr.next (a.eval it) b ty))) A' v := by
  unfold nextA at h
  split at h
  · rename_i r hit
    have hr := eo hA.toLook ht hit
    simp only [VR] at hr
    obtain ⟨p, ⟨y, hy, rfl⟩, he⟩ := hr
    split at h
    · rename_i s pos hg
      obtain ⟨o, ho, hsh, sb, rfl, rfl⟩ := hA.blk _ _ _ hy hg
      have hget : (getObj y.blk).run P w = .ok (.stringIter sb pos) w := by simp [getObj, Sem.run, ho]
      have hp0 : (⟨y.blk, y.sh + 0, none⟩ : Addr) = ⟨y.blk, 0, none⟩ := by rw [hsh]
      rw [hp0] at he
      split at h
      · rename_i hnone
        simp only [Option.some.injEq, Prod.mk.injEq] at h
        obtain ⟨rfl, rfl⟩ := h
        have hge : ¬ pos < sb.size := by
          rw [← bytes_length]
          intro hlt
          rw [List.getElem?_eq_getElem hlt] at hnone; cases hnone
        refine ⟨.tuple #[.bool false], w, m, .inl ?_, ?_, Sim.refl hA⟩
        · simp only [Instr.next, he, Sem.run_bind, hget, Result.andThen_ok, if_neg hge]
          rfl
        · simp only [VR]; exact ⟨_, rfl, .cons (by simp [VR]) .nil⟩
      · rename_i c hc
        cases hlt : Nat.blt c 128 with
        | false =>
          simp only [hlt, cond_false, Option.some.injEq, Prod.mk.injEq] at h
          obtain ⟨rfl, rfl⟩ := h
          have h1 : pos < sb.size := by
            rw [← bytes_length]
            exact (List.getElem?_eq_some_iff.1 hc).1
          have hob : ofBytes (bytes sb) = sb := by
            obtain ⟨⟨l⟩⟩ := sb
            simp [ofBytes, bytes, Function.comp_def]
          rw [hob]
          refine ⟨.tuple #[.bool true, goInt pos, .int .i32 (Utf8.decode sb pos).1], _, m, .inl ?_, ?_, Sim.turn hA r y _ (.siter (bytes sb) (pos + (Utf8.decode sb pos).2)) (.stringIter sb (pos + (Utf8.decode sb pos).2)) hy hg rfl (w' := { w with heap := w.heap.setIfInBounds y.blk (.stringIter sb (pos + (Utf8.decode sb pos).2)) }) rfl ⟨rfl, rfl, rfl⟩ ⟨hsh, sb, rfl, rfl⟩⟩
          · simp only [Instr.next, he, Sem.run_bind, hget, Result.andThen_ok, if_pos h1]
            simp [setObj, Sem.run, ho, Result.andThen]
          · simp only [VR]
            exact ⟨_, rfl, .cons (by simp [VR]) (.cons (by simp [VR, goInt]) (.cons (by simp [VR]) .nil))⟩
        | true =>
          simp only [hlt, cond_true, Option.some.injEq, Prod.mk.injEq] at h
          obtain ⟨rfl, rfl⟩ := h
          obtain ⟨h1, h2⟩ := decode_ascii hc (of_nblt hlt)
          refine ⟨.tuple #[.bool true, goInt pos, .int .i32 c], _, m, .inl ?_, ?_, Sim.turn hA r y _ (.siter (bytes sb) (pos + 1)) (.stringIter sb (pos + 1)) hy hg rfl (w' := { w with heap := w.heap.setIfInBounds y.blk (.stringIter sb (pos + 1)) }) rfl ⟨rfl, rfl, rfl⟩ ⟨hsh, sb, rfl, rfl⟩⟩
          · simp only [Instr.next, he, Sem.run_bind, hget, Result.andThen_ok, if_pos h1, h2]
            simp [setObj, Sem.run, ho, Result.andThen]
          · simp only [VR]
            exact ⟨_, rfl, .cons (by simp [VR]) (.cons (by simp [VR, goInt]) (.cons (by simp [VR]) .nil))⟩
    · simp at h
  · simp at h

theorem effA_sim (hA : Agree P m A w) (ht : TR m t a.tmps) {o : Oper} {v : AV} {A' : AH} (h : effA P A o.op t = some (v, A')) : Goes P m A w (execOp a.eval o) A' v := by
  obtain ⟨dst, op, ty, pos, after, guard⟩ := o
  simp only at h
  cases op <;> simp only [effA, reduceCtorEq] at h
  case store tx x v' =>
    split at h
    · rename_i A'' hst
      simp only [Option.some.injEq, Prod.mk.injEq] at h
      obtain ⟨rfl, rfl⟩ := h
      obtain ⟨w', h1, h2⟩ := storeOpA_rel hA ht hst
      refine ⟨Go.undef, w', m, .inr ⟨?_, rfl⟩, VR.undef, h2⟩
      simp only [execOp]
      rw [Sem.run_bind, h1]; rfl
    · simp at h
  case next it b => exact nextA_go hA ht h ty
  case convert src dst' x => exact convSameA_go hA ht h
  case call c =>
    obtain ⟨callee, args, tys⟩ := c
    simp only at h
    split at h
    · have := appendOpA_go hA ht h ty
      have e1 : (args.toList.map a.eval).toArray = args.map a.eval := by simp [← Array.toList_map]
      rw [e1] at this
      simpa [execOp, resolve, invoke, builtin, Goes, Result.andThen] using this
    · have := copyOpA_go hA ht h ty
      have e1 : (args.toList.map a.eval).toArray = args.map a.eval := by simp [← Array.toList_map]
      rw [e1] at this
      simpa [execOp, resolve, invoke, builtin, Goes, Result.andThen] using this
    · have := clearOpA_go hA ht h ty
      have e1 : (args.toList.map a.eval).toArray = args.map a.eval := by simp [← Array.toList_map]
      rw [e1] at this
      simpa [execOp, resolve, invoke, builtin, Goes, Result.andThen] using this
    · have := stringA_go hA ht h ty
      have e1 : (args.toList.map a.eval).toArray = args.map a.eval := by simp [← Array.toList_map]
      rw [e1] at this
      simpa [execOp, resolve, invoke, builtin, Goes, Result.andThen] using this
    · simp at h

end Go.Fold

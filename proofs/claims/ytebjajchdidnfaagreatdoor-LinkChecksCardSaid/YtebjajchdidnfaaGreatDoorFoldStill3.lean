/-
  A part of the road: an evaluator over abstract memory with a proved simulation, and what is reckoned by it. Written by an AI agent; no person has read it.
-/
import Derived.Test.YtebjajchdidnfaaGreatDoorFoldRead
import Derived.Laws.StructEq
import Derived.Laws.BytesString
import Derived.Lib.UnsafeStr
set_option linter.all false
namespace Go.Fold
variable {P : Program}

theorem VR.map_inv {m : Map} {a : Option Nat} {v : Value} (h : VR m (.mapv a) v) : ∃ p : Option Nat, v = .map p ∧ p.isNone = a.isNone := by
  cases a with
  | none => simp only [VR] at h; exact ⟨none, h, rfl⟩
  | some a => simp only [VR] at h; obtain ⟨x, _, he⟩ := h; exact ⟨some x.blk, he, rfl⟩

theorem eqFs_rel {m : Map} {f : TypeId → AV → AV → Option Bool} {d : Nat} {w : World} (hf : ∀ t x y b, f t x y = some b → ∀ x' y', VR m x x' → VR m y y' → (Op.equalIn d t x' y').run P w = .ok b w) {xs ys : List AV} {xs' ys' : Array Value} (hx : LR m xs xs'.toList) (hy : LR m ys ys'.toList) :
    ∀ (fs : List Field) (b : Bool), eqFs P f xs ys fs = some b → (Op.eqFields d xs' ys' fs).run P w = .ok b w
  | [], b, h => by
    simp only [eqFs, Option.some.injEq] at h
    subst h; rfl
  | fd :: fs, b, h => by
    simp only [eqFs] at h
    simp only [Op.eqFields]
    by_cases hn : fd.name = "_"
    · rw [hn] at h
      simp only [beq_self_eq_true, cond_true] at h
      rw [if_neg (by simp [hn])]
      exact eqFs_rel hf hx hy fs b h
    · have hb : (fd.name == "_") = false := by simpa using hn
      rw [hb, cond_false] at h
      rw [if_pos hn]
      split at h
      · rename_i x y h1 h2
        obtain ⟨u, hu, hvu⟩ := partA_rel h1 hx w
        obtain ⟨v, hv, hvv⟩ := partA_rel h2 hy w
        simp only [Sem.run_bind, hu, hv, Result.andThen_ok]
        split at h
        · rename_i h3
          rw [hf _ _ _ _ h3 _ _ hvu hvv]
          simp only [Result.andThen_ok, Bool.not_true, Bool.false_eq_true, if_false]
          exact eqFs_rel hf hx hy fs b h
        · rename_i r hr
          cases b with
          | true => exact (hr h).elim
          | false =>
            rw [hf _ _ _ _ h _ _ hvu hvv]
            simp
      · cases h

theorem eqT_rel {m : Map} {w : World} : ∀ (d : Nat) (t : TypeId) (x y : AV) (b : Bool), eqT P d t x y = some b → ∀ x' y', VR m x x' → VR m y y' → ∀ e, (Op.equalIn (e + d) t x' y').run P w = .ok b w
  | 0, t, x, y, b, h, _, _, _, _, _ => by simp [eqT] at h
  | d + 1, t, x, y, b, h, x', y', hx, hy, e => by
    simp only [eqT] at h
    split at h
    · rename_i k0 k a k' b' hu
      split at h
      · rename_i hk
        subst hk
        simp only [Option.some.injEq] at h; subst h
        cases hx.int_inv; cases hy.int_inv
        rw [← Nat.add_assoc]
        simp [Op.equalIn, run_underlying hu, Result.andThen]
      · cases h
    · rename_i a b' hu
      obtain ⟨a', rfl, rfl⟩ := hx.str_inv
      obtain ⟨b'', rfl, rfl⟩ := hy.str_inv
      simp only [Option.some.injEq] at h; subst h
      rw [← Nat.add_assoc]
      simp only [Op.equalIn, Sem.run_bind, run_underlying hu, Result.andThen_ok, Sem.run_pure]
      rw [beq_toListBytes, beq_bytes]
    · rename_i e' a b' hu
      split at h
      · rename_i i hi
        cases hz : i.size.beq 0 with
        | true => simp [hz] at h
        | false =>
          cases h1 : a.1.beq b'.1 with
          | false => simp [hz, h1] at h
          | true =>
            cases h2 : a.2.beq b'.2 with
            | false => simp [hz, h1, h2] at h
            | true =>
              simp only [hz, h1, h2, Bool.not_false, Bool.and_true, cond_true, Option.some.injEq] at h
              subst h
              have hab : a = b' := Prod.ext (Nat.eq_of_beq_eq_true h1) (Nat.eq_of_beq_eq_true h2)
              subst hab
              simp only [VR] at hx hy
              obtain ⟨p, ⟨z, hz1, rfl⟩, rfl⟩ := hx
              obtain ⟨q, ⟨z', hz2, rfl⟩, rfl⟩ := hy
              rw [hz1] at hz2; cases hz2
              rw [← Nat.add_assoc]
              simp [Op.equalIn, run_underlying hu, sizeOf, typeInfo, hi, sameAddr, Result.andThen]
      · cases h
    · rename_i fs xs ys hu
      cases hs : P.stoodInHeld t with
      | true => simp [hs] at h
      | false =>
        simp only [hs, cond_false] at h
        simp only [VR] at hx hy
        obtain ⟨xs', rfl, hx⟩ := hx
        obtain ⟨ys', rfl, hy⟩ := hy
        have hfs : P.fieldsOf t = fs := by simp [Program.fieldsOf, hu]
        rw [← Nat.add_assoc, run_equalIn_struct w _ t xs' ys' (by rw [hfs]; exact hu) hs, hfs]
        exact eqFs_rel (fun t x y b h x' y' hx hy => eqT_rel d t x y b h x' y' hx hy e) hx hy fs.toList b h
    · rw [← Nat.add_assoc]
      exact eqA_rel h hx hy w _

theorem binA_rel {m : Map} {op : BinOp} {t : TypeId} {x y : AV} {v : AV} (h : binA P op t x y = some v) {x' y' : Value} (hx : VR m x x') (hy : VR m y y') (ox oy : Operand) (w : World) :
    ∃ u, (do eqGuard op t ox oy x' y'; Go.binOp op t x' y' : Sem Value).run P w = .ok u w ∧ VR m v u := by
  have guard0 : ∀ x' y' : Value, (∀ a, x' ≠ .agg a) → x' ≠ .nilIface → (eqGuard op t ox oy x' y').run P w = .ok () w := by
    intro x' y' h1 h2
    unfold eqGuard
    cases op <;> (first | (simp; done) | (cases x' <;> (first | exact (h1 _ rfl).elim | exact (h2 rfl).elim | (simp; done))))
  unfold binA at h
  split at h
  · rename_i k a k' b
    cases hx.int_inv; cases hy.int_inv
    rw [Sem.run_bind, guard0 _ _ (by simp) (by simp), Result.andThen_ok]
    split at h
    · obtain ⟨u, hu, hv⟩ := shiftA_rel (P := P) (m := m) (j := k') h w
      exact ⟨u, by simpa [Go.binOp] using hu, hv⟩
    · obtain ⟨u, hu, hv⟩ := shiftA_rel (P := P) (m := m) (j := k') h w
      exact ⟨u, by simpa [Go.binOp] using hu, hv⟩
    · rename_i h1 h2
      split at h
      · rename_i hk; subst hk
        exact intOp_rel h ⟨h1, h2⟩ w
      · simp at h
  · rename_i a b
    obtain ⟨a', rfl, rfl⟩ := hx.str_inv
    obtain ⟨b', rfl, rfl⟩ := hy.str_inv
    rw [Sem.run_bind, guard0 _ _ (by simp) (by simp), Result.andThen_ok]
    have : (Go.binOp op t (.string a') (.string b')) = Op.stringOp op a' b' := by cases op <;> rfl
    rw [this]
    exact strOp_rel h w
  · rename_i h1 h2
    have key : ∀ b, eqB P t x y = some b → (eqGuard op t ox oy x' y').run P w = .ok () w ∧ (∀ k n, x' ≠ .int k n) ∧ (∀ s, x' ≠ .string s) ∧ (∀ k n, x' ≠ .float k n) ∧ (∀ k n l, x' ≠ .complex k n l) ∧ (Op.equal t x' y').run P w = .ok b w := by
      intro b hb
      have heq : ∀ b, eqT P 100 t x y = some b → (Op.equal t x' y').run P w = .ok b w := fun b hb => eqT_rel 100 t x y b hb x' y' hx hy 9900
      unfold eqB at hb
      split at hb
      · rename_i a
        cases hg : P.eqGuardType P.depth t with
        | true => simp [hg] at hb
        | false =>
          simp only [hg, cond_false] at hb
          simp only [VR] at hx
          obtain ⟨a', rfl, _⟩ := hx
          refine ⟨?_, by simp, by simp, by simp, by simp, heq b hb⟩
          unfold eqGuard
          cases op <;> (first | (simp; done) | (cases y' <;> simp [hg]))
      · rename_i hnagg
        have hsh : ((∀ a, x' ≠ .agg a) ∧ x' ≠ .nilIface ∧ (∀ k n, x' ≠ .int k n) ∧ (∀ s, x' ≠ .string s) ∧ (∀ k n, x' ≠ .float k n) ∧ (∀ k n l, x' ≠ .complex k n l)) := by
          have hb' : eqT P (99 + 1) t x y = some b := hb
          generalize 99 = n99 at hb'
          simp only [eqT] at hb'
          split at hb'
          · exact (h1 _ _ _ _ rfl rfl).elim
          · exact (h2 _ _ rfl rfl).elim
          · obtain ⟨p, rfl, _⟩ := hx.ptr_inv; simp
          · exact (hnagg _ rfl).elim
          · unfold eqA at hb'
            split at hb'
            · cases hx.bool_inv; simp
            · obtain ⟨p, rfl, _⟩ := hx.ptr_inv; simp
            · obtain ⟨p, rfl, _⟩ := hx.ptr_inv; simp
            · obtain ⟨p, k, rfl, _⟩ := hx.slice_inv; simp
            · obtain ⟨p, k, rfl, _⟩ := hx.slice_inv; simp
            · obtain ⟨p, rfl, _⟩ := hx.map_inv; simp
            · obtain ⟨p, rfl, _⟩ := hx.map_inv; simp
            · simp only [VR] at hx; subst hx; simp
            · simp only [VR] at hx; subst hx; simp
            · simp only [VR] at hx; obtain ⟨f', a2, b2, rfl, _⟩ := hx; simp
            · simp at hb'
        exact ⟨guard0 _ _ hsh.1 hsh.2.1, hsh.2.2.1, hsh.2.2.2.1, hsh.2.2.2.2.1, hsh.2.2.2.2.2, heq b hb⟩
    split at h
    · split at h
      · rename_i b hb
        simp only [Option.some.injEq] at h; subst h
        obtain ⟨k1, k3, k4, k5, k6, he⟩ := key b hb
        refine ⟨.bool b, ?_, by simp [VR]⟩
        rw [Sem.run_bind, k1, Result.andThen_ok]
        have : Go.binOp .eql t x' y' = (do pure (.bool (← Op.equal t x' y')) : Sem Value) := by
          cases x' <;> first | rfl | exact (k3 _ _ rfl).elim | exact (k4 _ rfl).elim | exact (k5 _ _ rfl).elim | exact (k6 _ _ _ rfl).elim
        rw [this]
        simp [he, Result.andThen]
      · simp at h
    · split at h
      · rename_i b hb
        simp only [Option.some.injEq] at h; subst h
        obtain ⟨k1, k3, k4, k5, k6, he⟩ := key b hb
        refine ⟨.bool (!b), ?_, by simp [VR]⟩
        rw [Sem.run_bind, k1, Result.andThen_ok]
        have : Go.binOp .neq t x' y' = (do pure (.bool (!(← Op.equal t x' y'))) : Sem Value) := by
          cases x' <;> first | rfl | exact (k3 _ _ rfl).elim | exact (k4 _ rfl).elim | exact (k5 _ _ rfl).elim | exact (k6 _ _ _ rfl).elim
        rw [this]
        simp [he, Result.andThen]
      · simp at h
    · simp at h

theorem unA_rel {m : Map} {op : UnOp} {x v : AV} (h : unA op x = some v) {x' : Value} (hx : VR m x x') (w : World) : ∃ u, (Op.unary op x').run P w = .ok u w ∧ VR m v u := by
  unfold unA at h
  split at h
  · cases hx.int_inv
    simp only [Option.some.injEq] at h; subst h
    exact ⟨_, rfl, by simp [VR]⟩
  · cases hx.bool_inv
    simp only [Option.some.injEq] at h; subst h
    exact ⟨_, rfl, by simp [VR]⟩
  · cases hx.int_inv
    exact intBitsA_rel h w
  · simp at h

theorem natOf_rel {m : Map} {x : AV} {n : Nat} (h : natOf x = some n) {x' : Value} (hx : VR m x x') : ∃ k, x' = .int k (.ofNat n) := by
  unfold natOf at h
  split at h
  · rename_i k j
    simp only [Option.some.injEq] at h; subst h
    exact ⟨k, hx.int_inv⟩
  · simp at h

theorem fieldOf_eq {s : TypeId} {f off size : Nat} {ty : TypeId} (h : fieldOf P s f = some (off, ty, size)) : ∃ fs fd i, P.underlying s = some (.struct fs) ∧ fs[f]? = some fd ∧ P.info? fd.type = some i ∧ fd.offset = off ∧ fd.type = ty ∧ i.size = size := by
  unfold fieldOf at h
  split at h
  · rename_i fs hu
    split at h
    · rename_i fd hf
      split at h
      · rename_i i hi
        simp only [Option.some.injEq, Prod.mk.injEq] at h
        exact ⟨fs, fd, i, hu, hf, hi, h⟩
      · simp at h
    · simp at h
  · simp at h

variable {m : Map} {A : AH} {w : World} {t : AT} {a : Act}

theorem slice_addr {m : Map} {b o len : Nat} {c : Option Nat} {v : Value} (h : VR m (.slice (some (b, o)) len c) v) (i : Nat) (hi : i < len) :
    ∃ y k, m b = some y ∧ v = .slice (some ⟨y.blk, y.sh + o, none⟩) len k := by
  cases c with
  | none =>
    simp only [VR] at h
    obtain ⟨y, k, p, hy, rfl, _, hn, hp⟩ := h
    rcases hp with hp | rfl
    · omega
    · exact ⟨y, k, hy, rfl⟩
  | some c =>
    simp only [VR] at h
    obtain ⟨p, rfl, hn, hp⟩ := h
    rcases hp with hp | ⟨y, hy, rfl⟩
    · omega
    · exact ⟨y, c, hy, rfl⟩

section
variable (hA : Look P m A w) (ht : TR m t a.tmps)
include hA ht

theorem eo {x : Operand} {v : AV} (h : evalO P t x = some v) : VR m v (a.eval x) := evalO_rel hA.glob ht h

theorem fieldAddrA_rel {s : TypeId} {x : Operand} {f : Nat} {v : AV} (h : fieldAddrA P t s x f = some v) : ∃ u, (Instr.fieldAt s (a.eval x) f).run P w = .ok u w ∧ VR m v u := by
  unfold fieldAddrA at h
  split at h
  · rename_i off ty size b o hf hx
    obtain ⟨fs, fd, i, hu, hfd, hi, rfl, rfl, rfl⟩ := fieldOf_eq hf
    cases hz : i.size.beq 0 with
    | true => simp [hz] at h
    | false =>
      simp only [hz, cond_false, Option.some.injEq] at h; subst h
      have hz' : i.size ≠ 0 := fun e => by rw [e] at hz; simp at hz
      have hr := eo hA ht hx
      simp only [VR] at hr
      obtain ⟨p, ⟨y, hy, rfl⟩, he⟩ := hr
      refine ⟨.pointer (some ⟨y.blk, y.sh + o + fd.offset, none⟩), ?_, ?_⟩
      · simp [Instr.fieldAt, run_underlying hu, Result.andThen, hfd, he, Instr.sureAddr, fieldPlace, sizeOf, run_typeInfo hi, hz', add_off]
      · simp only [VR]; exact ⟨_, ⟨y, hy, rfl⟩, by simp [Nat.add_assoc]⟩
  · simp at h

theorem fieldA_rel {s : TypeId} {x : Operand} {f : Nat} {v : AV} (h : fieldA P t s x f = some v) : ∃ u, (Instr.field s (a.eval x) f).run P w = .ok u w ∧ VR m v u := by
  unfold fieldA at h
  split at h
  · rename_i off ty size cs hf hx
    obtain ⟨fs, fd, i, hu, hfd, hi, rfl, rfl, rfl⟩ := fieldOf_eq hf
    have hr := eo hA ht hx
    simp only [VR] at hr
    obtain ⟨cs', he, hl⟩ := hr
    obtain ⟨u, h1, h2⟩ := partA_rel h hl w
    refine ⟨u, ?_, h2⟩
    simp [Instr.field, run_underlying hu, Result.andThen, hfd, he, asAgg, h1]
  · simp at h

theorem indexAddrA_rel {ty : TypeId} {x i : Operand} {v : AV} (h : indexAddrA P t ty x i = some v) : ∃ u, (Instr.indexAt ty (a.eval x) (a.eval i)).run P w = .ok u w ∧ VR m v u := by
  unfold indexAddrA at h
  split at h
  · rename_i k n hi
    have hir := (eo hA ht hi).int_inv
    split at h
    · rename_i e b o len c hu hx
      split at h
      · rename_i sz hsz
        cases hlt : Nat.blt n len with
        | false => simp [hlt] at h
        | true =>
          simp only [hlt, cond_true, Option.some.injEq] at h; subst h
          have hlt' := of_nblt hlt
          obtain ⟨y, cap, hy, he⟩ := slice_addr (eo hA ht hx) n hlt'
          refine ⟨.pointer (some ⟨y.blk, y.sh + o + n * sz, none⟩), ?_, ?_⟩
          · simp [Instr.indexAt, hir, asIntOf, Result.andThen, run_underlying hu, he, run_sizeOf hsz, hlt', add_off]
          · simp only [VR]; exact ⟨_, ⟨y, hy, rfl⟩, by simp [Nat.add_assoc]⟩
      · simp at h
    · rename_i len e b o hu hx
      split at h
      · rename_i sz hsz
        cases hlt : Nat.blt n len with
        | false => simp [hlt] at h
        | true =>
          simp only [hlt, cond_true, Option.some.injEq] at h; subst h
          have hlt' := of_nblt hlt
          have hr := eo hA ht hx
          simp only [VR] at hr
          obtain ⟨p, ⟨y, hy, rfl⟩, he⟩ := hr
          refine ⟨.pointer (some ⟨y.blk, y.sh + o + n * sz, none⟩), ?_, ?_⟩
          · simp [Instr.indexAt, hir, asIntOf, Result.andThen, run_underlying hu, he, run_sizeOf hsz, hlt', add_off, Instr.sureAddr]
          · simp only [VR]; exact ⟨_, ⟨y, hy, rfl⟩, by simp [Nat.add_assoc]⟩
      · simp at h
    · simp at h
  · simp at h

theorem indexA_rel {ty : TypeId} {x i : Operand} {v : AV} (h : indexA P t ty x i = some v) : ∃ u, (Instr.index ty (a.eval x) (a.eval i)).run P w = .ok u w ∧ VR m v u := by
  unfold indexA at h
  split at h
  · rename_i k n hi
    have hir := (eo hA ht hi).int_inv
    split at h
    · rename_i s hu hx
      split at h
      · rename_i b hb
        simp only [Option.some.injEq] at h; subst h
        obtain ⟨s', he, rfl⟩ := (eo hA ht hx).str_inv
        refine ⟨.int .u8 (.ofNat b), ?_, by simp [VR]⟩
        have hn : ∃ c, s'.data.toList[n]? = some c ∧ c.toNat = b := by simpa [bytes] using hb
        obtain ⟨c, hc, rfl⟩ := hn
        have hsz : n < s'.size := by
          have := List.getElem?_eq_some_iff.1 hc
          obtain ⟨hlt, _⟩ := this
          simpa using hlt
        have hget : s'[n]? = some c := by
          have : s'[n]? = s'.data[n]? := by
            simp [hsz, ByteArray.getElem_eq_getElem_data]
          rw [this]; simpa using hc
        simp [Instr.index, hir, asIntOf, Result.andThen, run_underlying hu, he, hget]
      · simp at h
    · rename_i len e cs hu hx
      split at h
      · rename_i sz hsz
        cases hlt : Nat.blt n len with
        | false => simp [hlt] at h
        | true =>
          simp only [hlt, cond_true] at h
          have hlt' := of_nblt hlt
          have hr := eo hA ht hx
          simp only [VR] at hr
          obtain ⟨cs', he, hl⟩ := hr
          obtain ⟨u, h1, h2⟩ := partA_rel h hl w
          refine ⟨u, ?_, h2⟩
          simp [Instr.index, hir, asIntOf, Result.andThen, run_underlying hu, he, run_sizeOf hsz, hlt', h1]
      · simp at h
    · simp at h
  · simp at h

end
end Go.Fold

namespace Go.Fold
variable {P : Program}

theorem bytesOfCells_rel {m : Map} : ∀ {l : List AV} {s : List Nat}, bytesOfCells l = some s → ∀ {vs : List Value}, LR m l vs → vs = (s.map fun b => Value.int .u8 (.ofNat b)) ∧ ∀ b ∈ s, b < 256
  | [], s, h, vs, hr => by
    simp only [bytesOfCells, Option.some.injEq] at h; subst h
    simp only [LR] at hr; subst hr; simp
  | .int .u8 (.ofNat k) :: l, s, h, vs, hr => by
    simp only [bytesOfCells] at h
    cases hb : Nat.ble 256 k with
    | true => simp [hb] at h
    | false =>
      simp only [hb, cond_false] at h
      have hk : k < 256 := by
        by_cases hk : k < 256
        · exact hk
        · exact absurd (Nat.ble_eq_true_of_le (Nat.le_of_not_lt hk)) (by simp [hb])
      split at h
      · rename_i bs hbs
        simp only [Option.some.injEq] at h; subst h
        simp only [LR] at hr
        obtain ⟨v, vs', rfl, h1, h2⟩ := hr
        have := h1.int_inv
        subst this
        obtain ⟨h3, h4⟩ := bytesOfCells_rel hbs h2
        subst h3
        refine ⟨rfl, ?_⟩
        intro b hb'
        rcases List.mem_cons.1 hb' with rfl | hb'
        · exact hk
        · exact h4 b hb'
      · simp at h
  | .int .u8 (.negSucc k) :: l, s, h, _, _ => by simp [bytesOfCells] at h
  | .int .i8 _ :: _, _, h, _, _ => by simp [bytesOfCells] at h
  | .int .i16 _ :: _, _, h, _, _ => by simp [bytesOfCells] at h
  | .int .i32 _ :: _, _, h, _, _ => by simp [bytesOfCells] at h
  | .int .i64 _ :: _, _, h, _, _ => by simp [bytesOfCells] at h
  | .int .u16 _ :: _, _, h, _, _ => by simp [bytesOfCells] at h
  | .int .u32 _ :: _, _, h, _, _ => by simp [bytesOfCells] at h
  | .int .u64 _ :: _, _, h, _, _ => by simp [bytesOfCells] at h
  | .bool _ :: _, _, h, _, _ => by simp [bytesOfCells] at h
  | .str _ :: _, _, h, _, _ => by simp [bytesOfCells] at h
  | .ptr _ :: _, _, h, _, _ => by simp [bytesOfCells] at h
  | .slice .. :: _, _, h, _, _ => by simp [bytesOfCells] at h
  | .mapv _ :: _, _, h, _, _ => by simp [bytesOfCells] at h
  | .fn .. :: _, _, h, _, _ => by simp [bytesOfCells] at h
  | .nilFn :: _, _, h, _, _ => by simp [bytesOfCells] at h
  | .nilIface :: _, _, h, _, _ => by simp [bytesOfCells] at h
  | .agg _ :: _, _, h, _, _ => by simp [bytesOfCells] at h
  | .tup _ :: _, _, h, _, _ => by simp [bytesOfCells] at h

theorem bytes_fold : ∀ (s : List Nat) (r : ByteArray), (∀ b ∈ s, b < 256) → bytes ((s.map Int.ofNat).foldl (fun r n => r.push (UInt8.ofNat n.toNat)) r) = bytes r ++ s
  | [], r, _ => by simp
  | b :: s, r, h => by
    simp only [List.map_cons, List.foldl_cons]
    rw [bytes_fold s _ (fun x hx => h x (List.mem_cons_of_mem _ hx))]
    have hb := h b (by simp)
    simp [bytes, ByteArray.push, Nat.mod_eq_of_lt hb]

theorem boundA_rel {t : AT} {m : Map} {a : Act} (hg : Glob P m) (ht : TR m t a.tmps) {d : Nat} {x : Operand} {n : Nat} (h : boundA P t d (some x) = some n) : ∃ k, a.eval x = .int k (.ofNat n) := by
  unfold boundA at h
  simp only at h
  split at h
  · rename_i v hv
    exact natOf_rel h (evalO_rel hg ht hv)
  · simp at h

theorem run_sliceBound {k : IntKind} {n y : Nat} (h : n ≤ y) (code : BoundsCode) (w : World) : (Instr.sliceBound (.int k (.ofNat n)) y code).run P w = .ok n w := by
  simp [Instr.sliceBound, asIntOf, h]

theorem run_sliceBound' {k : IntKind} {n y : Nat} (h : n ≤ y) (code : BoundsCode) (w : World) : (Instr.sliceBound (.int k (n : Int)) y code).run P w = .ok n w :=
  run_sliceBound h code w

theorem boundsA_rel {t : AT} {m : Map} {a : Act} (hg : Glob P m) (ht : TR m t a.tmps) {len top : Nat} {lo hi : Option Operand} {l h : Nat} (hb : boundsA P t len top lo hi = some (l, h)) (cap : Nat) (hc : top ≤ cap) (b : Bool) (w : World) :
    l ≤ h ∧ h ≤ top ∧ (Instr.sliceBounds b len cap (lo.map a.eval) (hi.map a.eval) none).run P w = .ok (l, h, cap) w := by
  unfold boundsA at hb
  split at hb
  · rename_i h' l' hh hl
    cases hcond : (Nat.ble h' top && Nat.ble l' h') with
    | false => simp [hcond] at hb
    | true =>
      simp only [hcond, cond_true, Option.some.injEq, Prod.mk.injEq] at hb
      obtain ⟨rfl, rfl⟩ := hb
      simp only [Bool.and_eq_true] at hcond
      have h1 := of_nble hcond.1
      have h2 := of_nble hcond.2
      refine ⟨h2, h1, ?_⟩
      unfold Instr.sliceBounds
      have hH : (match hi.map a.eval, (none : Option Value) with
          | some v, some _ => Instr.sliceBound v cap .slice3B
          | some v, none => Instr.sliceBound v cap (if b then .sliceAcap else .sliceAlen)
          | none, none => pure len
          | none, some _ => stuck "Slice: max without high" : Sem Nat).run P w = .ok h' w := by
        cases hi with
        | none => simp only [boundA, Option.some.injEq] at hh; subst hh; rfl
        | some x =>
          obtain ⟨k, hk⟩ := boundA_rel hg ht hh
          simp only [Option.map_some, hk]
          exact run_sliceBound (by omega) _ w
      have hL : (match lo.map a.eval with
          | some v => Instr.sliceBound v h' (if (none : Option Value).isSome then .slice3C else .sliceB)
          | none => pure 0 : Sem Nat).run P w = .ok l' w := by
        cases lo with
        | none => simp only [boundA, Option.some.injEq] at hl; subst hl; rfl
        | some x =>
          obtain ⟨k, hk⟩ := boundA_rel hg ht hl
          simp only [Option.map_some, hk]
          exact run_sliceBound (by omega) _ w
      cases hi <;> cases lo <;> simp_all [Result.andThen]
  · simp at hb

theorem boundsA_rel3 {t : AT} {m : Map} {a : Act} (hg : Glob P m) (ht : TR m t a.tmps) {len mx : Nat} {lo : Option Operand} {hi mo : Operand} {l h : Nat} (hm : boundA P t 0 (some mo) = some mx) (hb : boundsA P t len mx lo (some hi) = some (l, h)) (cap : Nat) (hc : mx ≤ cap) (w : World) :
    l ≤ h ∧ h ≤ mx ∧ (Instr.sliceBounds true len cap (lo.map a.eval) (some (a.eval hi)) (some (a.eval mo))).run P w = .ok (l, h, mx) w := by
  unfold boundsA at hb
  split at hb
  · rename_i h' l' hh hl
    cases hcond : (Nat.ble h' mx && Nat.ble l' h') with
    | false => simp [hcond] at hb
    | true =>
      simp only [hcond, cond_true, Option.some.injEq, Prod.mk.injEq] at hb
      obtain ⟨rfl, rfl⟩ := hb
      simp only [Bool.and_eq_true] at hcond
      have h1 := of_nble hcond.1
      have h2 := of_nble hcond.2
      refine ⟨h2, h1, ?_⟩
      obtain ⟨km, hkm⟩ := boundA_rel hg ht hm
      obtain ⟨kh, hkh⟩ := boundA_rel hg ht hh
      unfold Instr.sliceBounds
      cases lo with
      | none =>
        simp only [boundA, Option.some.injEq] at hl; subst hl
        simp [hkm, hkh, run_sliceBound' hc, run_sliceBound' h1, Result.andThen]
      | some x =>
        obtain ⟨kl, hkl⟩ := boundA_rel hg ht hl
        simp [hkm, hkh, hkl, run_sliceBound' hc, run_sliceBound' h1, run_sliceBound' h2, Result.andThen]
  · simp at hb

theorem bytes_extract (s : ByteArray) (l h : Nat) : bytes (s.extract l h) = ((bytes s).drop l).take (h - l) := by
  simp [bytes, ByteArray.data_extract, Array.toList_extract, List.extract_eq_take_drop, List.map_drop, List.map_take]

variable {m : Map} {A : AH} {w : World} {t : AT} {a : Act}

theorem topOf_le (hA : Look P m A w) {p : Option (Nat × Nat)} {len : Nat} {e : TypeId} {sz : Nat} {cap : Option Nat} {top : Nat} (hsz : sizeA P e = some sz) (h : topOf A p len e sz cap = some top) {v : Value} (hv : VR m (.slice p len cap) v) :
    ∃ (q : Option Addr) (k : Nat), v = .slice q len k ∧ top ≤ k := by
  unfold topOf at h
  rcases cap with _ | c
  · rcases p with _ | ⟨b, o⟩
    · simp at h
    · simp only at h
      split at h
      · rename_i c e' fz hc
        cases hcond : (e'.beq e && !(sz.beq 0)) with
        | false => simp [hcond] at h
        | true =>
          simp only [hcond, cond_true, Option.some.injEq] at h; subst h
          simp only [Bool.and_eq_true, Bool.not_eq_true'] at hcond
          have he : e' = e := Nat.eq_of_beq_eq_true hcond.1
          subst he
          have hz : sz ≠ 0 := fun h0 => by rw [h0] at hcond; simp at hcond
          simp only [VR] at hv
          obtain ⟨x, k, q, hx, he, htot, hn, _⟩ := hv
          refine ⟨some q, k, he, ?_⟩
          obtain ⟨cs, _, fr, hh, _, ht, hs, hle, _⟩ := hA.cells hx (cellsAt_eq hc)
          rw [sizeA_cells hsz] at hs
          rw [hs] at htot
          apply Nat.max_le.2 ⟨hn, ?_⟩
          apply Nat.div_le_of_le_mul
          rw [Nat.mul_comm]
          omega
      · simp at h
  · simp only [Option.some.injEq] at h; subst h
    cases p with
    | none => simp only [VR] at hv; obtain ⟨k, hk, he, _⟩ := hv; cases hk; exact ⟨none, c, he, Nat.le_refl _⟩
    | some p => simp only [VR] at hv; obtain ⟨q, he, _⟩ := hv; exact ⟨some q, c, he, Nat.le_refl _⟩

theorem cutA_rel (hA : Look P m A w) {p : Option (Nat × Nat)} {len : Nat} {e : TypeId} {sz : Nat} {cap : Option Nat} {top l h : Nat} {u : AV} (hsz : sizeA P e = some sz) (ht : topOf A p len e sz cap = some top) (hlh : l ≤ h) (hht : h ≤ top)
    (hu : cutA p cap sz l h = some u) {q : Option Addr} {k : Nat} (hv : VR m (.slice p len cap) (.slice q len k)) (hk : top ≤ k) :
    VR m u (.slice (if k = l then q else q.map (·.add (l * sz))) (h - l) (k - l)) := by
  unfold cutA at hu
  rcases p with _ | ⟨b, o⟩ <;> rcases cap with _ | c
  · simp at hu
  · simp only [Option.some.injEq] at hu; subst hu
    simp only [VR] at hv
    obtain ⟨k', hk', he, _⟩ := hv
    cases hk'; cases he
    simp only [VR]
    exact ⟨k - l, rfl, by simp, by simp only [topOf, Option.some.injEq] at ht; omega⟩
  · simp only [Option.some.injEq] at hu; subst hu
    simp only [VR] at hv
    obtain ⟨x, k', p', hx, he, htot, hn, hp⟩ := hv
    cases he
    simp only [VR]
    unfold topOf at ht
    simp only at ht
    split at ht
    · rename_i c e' fz hc
      cases hcond : (e'.beq e && !(sz.beq 0)) with
      | false => simp [hcond] at ht
      | true =>
        simp only [hcond, cond_true, Option.some.injEq] at ht
        simp only [Bool.and_eq_true, Bool.not_eq_true'] at hcond
        have he : e' = e := Nat.eq_of_beq_eq_true hcond.1
        subst he
        obtain ⟨cs, _, fr, hh, _, htt, hs, hle, _⟩ := hA.cells hx (cellsAt_eq hc)
        rw [sizeA_cells hsz] at hs
        have htot' : x.sh + (o + l * sz) + (k - l) * x.sz = x.tot := by
          rw [hs] at htot ⊢
          have : k * sz = l * sz + (k - l) * sz := by rw [← Nat.add_mul]; congr 1; omega
          omega
        by_cases hkl : k = l
        · refine ⟨x, k - l, p', hx, by simp [hkl], htot', by omega, .inl (by omega)⟩
        · refine ⟨x, k - l, p'.add (l * sz), hx, by simp [hkl], htot', by omega, .inr ?_⟩
          rcases hp with hp | rfl
          · omega
          · simp [add_off, Nat.add_assoc]
    · simp at ht
  · simp only [Option.some.injEq] at hu; subst hu
    simp only [VR] at hv
    obtain ⟨p', he, hn, hp⟩ := hv
    cases he
    simp only [VR]
    simp only [topOf, Option.some.injEq] at ht; subst ht
    by_cases hcl : k = l
    · subst hcl
      refine ⟨p', by simp, by omega, .inl (by omega)⟩
    · rw [if_neg hcl, nbeq_false hcl]
      refine ⟨p'.add (l * sz), by simp, by omega, .inr ?_⟩
      rcases hp with hp | ⟨x, hx, rfl⟩
      · omega
      · exact ⟨x, hx, by simp [add_off, Nat.add_assoc]⟩

theorem sliceA_rel (hA : Look P m A w) (ht : TR m t a.tmps) {ty : TypeId} {x : Operand} {lo hi mx : Option Operand} {v : AV} (h : sliceA P A t ty x lo hi mx = some v) :
    ∃ u, (Instr.sliceAt ty (a.eval x) (lo.map a.eval) (hi.map a.eval) (mx.map a.eval)).run P w = .ok u w ∧ VR m v u := by
  unfold sliceA at h
  split at h
  · rename_i s hu hx
    obtain ⟨s', he, rfl⟩ := (eo hA ht hx).str_inv
    split at h
    · rename_i l h' hb
      simp only [Option.some.injEq] at h; subst h
      rw [bytes_length] at hb
      obtain ⟨h1, h2, h3⟩ := boundsA_rel hA.glob ht hb s'.size (Nat.le_refl _) false w
      refine ⟨.string (s'.extract l h'), ?_, by simp only [VR]; exact ⟨_, rfl, bytes_extract s' l h'⟩⟩
      simp [Instr.sliceAt, run_underlying hu, Result.andThen, Instr.slice, he, h3]
    · simp at h
  · rename_i e p len cap hu hx
    have hr := eo hA ht hx
    split at h
    · rename_i sz hsz
      split at h
      · rename_i top htop
        obtain ⟨q, k, he, hk⟩ := topOf_le hA hsz htop hr
        split at h
        · split at h
          · rename_i l h' hb
            obtain ⟨h1, h2, h3⟩ := boundsA_rel hA.glob ht hb k hk true w
            rw [he] at hr
            refine ⟨_, ?_, cutA_rel hA hsz htop h1 h2 h hr hk⟩
            simp [Instr.sliceAt, run_underlying hu, Result.andThen, Instr.slice, he, h3, run_sizeOf hsz]
          · simp at h
        · rename_i mo
          split at h
          · rename_i mm hmm
            split at h
            · rename_i l h' hb
              cases hcond : (Nat.ble mm top && l.beq 0 && hi.isSome) with
              | false => simp [hcond] at h
              | true =>
                simp only [hcond, cond_true, Option.some.injEq] at h; subst h
                simp only [Bool.and_eq_true] at hcond
                have hmt := of_nble hcond.1.1
                have hl0 : l = 0 := Nat.eq_of_beq_eq_true hcond.1.2
                subst hl0
                obtain ⟨hio, rfl⟩ := Option.isSome_iff_exists.1 hcond.2
                obtain ⟨h1, h2, h3⟩ := boundsA_rel3 hA.glob ht hmm hb k (by omega) w
                rw [he] at hr
                refine ⟨.slice q h' mm, ?_, ?_⟩
                · have hadd : q.map (·.add 0) = q := by cases q <;> simp [Addr.add]
                  simp [Instr.sliceAt, run_underlying hu, Result.andThen, Instr.slice, he, h3, run_sizeOf hsz, hadd]
                · cases p with
                  | none =>
                    simp only [VR]
                    cases cap with
                    | none => simp [topOf] at htop
                    | some c =>
                      simp only [VR] at hr
                      obtain ⟨k', hk', hee, _⟩ := hr
                      cases hee
                      exact ⟨mm, rfl, rfl, h2⟩
                  | some p =>
                    obtain ⟨pb, po⟩ := p
                    simp only [VR]
                    cases cap with
                    | some c =>
                      simp only [VR] at hr
                      obtain ⟨p', hee, hn, hp⟩ := hr
                      cases hee
                      refine ⟨p', rfl, h2, ?_⟩
                      rcases hp with hp | hp
                      · left; omega
                      · exact .inr hp
                    | none =>
                      simp only [VR] at hr
                      obtain ⟨x', k', p', hx', hee, htot, hn, hp⟩ := hr
                      cases hee
                      refine ⟨p', rfl, h2, ?_⟩
                      rcases hp with hp | hp
                      · left; omega
                      · exact .inr ⟨x', hx', hp⟩
            · simp at h
          · simp at h
      · simp at h
    · simp at h
  · simp at h

end Go.Fold

namespace Go.Fold
variable {P : Program} {m : Map} {A : AH} {w : World} {t : AT} {a : Act}

theorem toList_loadCells {b : Nat} {cs : Array Value} {e : TypeId} {fr : Nat × Nat} (h : w.heap[b]? = some (.cells cs e fr)) {o n : Nat} (hn : o + n ≤ cs.size) {s : List Nat}
    (hs : (cs.toList.drop o).take n = s.map fun b => Value.int .u8 (.ofNat b)) : (loadCells ⟨b, o, none⟩ n).run P w = .ok ((s.map Int.ofNat).map (Value.int .u8)).toArray w := by
  rw [run_loadCells_heap h o n hn, hs]
  simp [List.map_map]

/-- a place that begins an element of the row -/
theorem liesAt_self {e : TypeId} {off count n : Nat} (hc : P.cellsOf e ≠ 0) (hr : off % P.cellsOf e = 0) (hn : off / P.cellsOf e + n ≤ count) : liesAt P P.depth e count off e n = true := by
  have hd : P.depth = (2 * (P.types.size + Made.depth) + 1) + 1 := rfl
  rw [hd]
  simp only [liesAt, Bool.or_eq_true]
  left
  rw [hd]
  simp [rowAt, hc, hr, hn, sameLayout]

theorem run_seenAt {b : Nat} {cs : Array Value} {e : TypeId} {fr : Nat × Nat} (h : w.heap[b]? = some (.cells cs e fr)) (o : Nat) : (Conv.seenAt ⟨b, o, none⟩).run P w = .ok ⟨b, o, none⟩ w := by
  simp [Conv.seenAt, viewAt, World.shape?, h, Result.andThen]

theorem convert_toUnsafe {src dst e : TypeId} {i : TypeInfo} (hs : P.underlying src = some (.pointer e)) (hd : P.underlying dst = some .unsafePointer) (hi : P.info? e = some i) (hz : i.size ≠ 0) {b : Nat} {cs : Array Value} {e' : TypeId} {fr : Nat × Nat} (h : w.heap[b]? = some (.cells cs e' fr)) {o : Nat} (ho : o < cs.size) :
    (Go.convert src dst (.pointer (some ⟨b, o, none⟩))).run P w = .ok (.pointer (some ⟨b, o, none⟩)) w := by
  simp [Go.convert, run_underlying hs, run_underlying hd, Result.andThen, Conv.unsafePointer, run_seenAt h, cellsIn, World.shape?, h, sizeOf, typeInfo, hi, hz]
  intro hc; omega

theorem convert_ofUnsafe {src dst e : TypeId} {i : TypeInfo} (hs : P.underlying src = some .unsafePointer) (hd : P.underlying dst = some (.pointer e)) (hi : P.info? e = some i) (hz : i.size ≠ 0) {b : Nat} {cs : Array Value} {fr : Nat × Nat} (h : w.heap[b]? = some (.cells cs e fr)) {o : Nat}
    (hm : o % i.size = 0) (ho : o / i.size + 1 ≤ cs.size / i.size) : (Go.convert src dst (.pointer (some ⟨b, o, none⟩))).run P w = .ok (.pointer (some ⟨b, o, none⟩)) w := by
  have hc : P.cellsOf e = i.size := by simp [Program.cellsOf, hi]
  have hl : liesAt P P.depth e (cs.size / P.cellsOf e) o e 1 = true := liesAt_self (by rw [hc]; exact hz) (by rw [hc]; exact hm) (by rw [hc]; exact ho)
  simp [Go.convert, run_underlying hs, run_underlying hd, Result.andThen, Conv.unsafePointer, run_seenAt h, World.shape?, h, sizeOf, typeInfo, hi, hz, variablesAt, hl]

section
variable (hA : Look P m A w) (ht : TR m t a.tmps)
include hA ht

theorem convStillA_rel {src dst : TypeId} {x : Operand} {v : AV} (h : convStillA P A t src dst x = some v) : ∃ u, (Go.convert src dst (a.eval x)).run P w = .ok u w ∧ VR m v u := by
  unfold convStillA at h
  split at h
  · rename_i k0 k k1 n hs hd hx
    simp only [Option.some.injEq] at h; subst h
    have hr := (eo hA ht hx).int_inv
    refine ⟨.int k (k.wrap n), ?_, by simp [VR]⟩
    simp [Go.convert, run_underlying hs, run_underlying hd, Result.andThen, hr, Conv.intToInt]
  · rename_i s hs hd hx
    simp only [Option.some.injEq] at h; subst h
    obtain ⟨s', he, rfl⟩ := (eo hA ht hx).str_inv
    refine ⟨.string s', ?_, by simp [VR]⟩
    simp [Go.convert, run_underlying hs, run_underlying hd, Result.andThen, he]
  · rename_i e p len cap hs hd hx
    have hr := eo hA ht hx
    split at h
    · rename_i hu8
      split at h
      · simp only [Option.some.injEq] at h; subst h
        simp only [VR] at hr
        obtain ⟨k, _, he, _⟩ := hr
        refine ⟨.string .empty, ?_, by simp only [VR]; exact ⟨_, rfl, by simp [bytes]⟩⟩
        simp [Go.convert, run_underlying hs, run_underlying hd, run_underlying hu8, Result.andThen, he, Conv.bytesToString]
      · rename_i b o
        split at h
        · rename_i c p' hc
          obtain ⟨e', fz⟩ := p'
          split at h
          · rename_i l hl
            split at h
            · rename_i s hbs
              simp only [Option.some.injEq] at h; subst h
              obtain ⟨hol, rfl⟩ := sub_eq hl
              -- the length is nothing, or the slice lies where it says
              have main : ∀ (q : Addr) (k : Nat) (y : Img), m b = some y → q = ⟨y.blk, y.sh + o, none⟩ → a.eval x = .slice (some q) len k → ∃ u, (Go.convert src dst (a.eval x)).run P w = .ok u w ∧ VR m (.str s) u := by
                intro q k y hy hq he
                obtain ⟨cs, _, fr, hh, _, htot, hsz, hle, hlr, _⟩ := hA.cells hy (cellsAt_eq hc)
                have h1 := LR.take len (LR.drop o hlr)
                rw [cut_cut _ _ _ _ _ hol] at h1
                obtain ⟨h2, h3⟩ := bytesOfCells_rel hbs h1
                have h4 := toList_loadCells (P := P) hh (by omega) h2
                have h5 := run_bytesToString w q len k (s.map Int.ofNat) (by rw [hq]; exact h4)
                refine ⟨.string ((s.map Int.ofNat).foldl (fun r n => r.push (UInt8.ofNat n.toNat)) .empty), ?_, ?_⟩
                · rw [he, run_convert_bytes_string w src dst e (some q) len k hs hu8 hd]; exact h5
                · simp only [VR]
                  exact ⟨_, rfl, by rw [bytes_fold s _ h3]; simp [bytes]⟩
              have empty : ∀ (q : Addr) (k : Nat), len = 0 → a.eval x = .slice (some q) len k → ∃ u, (Go.convert src dst (a.eval x)).run P w = .ok u w ∧ VR m (.str s) u := by
                intro q k h0 he
                subst h0
                have hs0 : s = [] := by
                  simp [bytesOfCells] at hbs; exact hbs
                subst hs0
                have h5 := run_bytesToString (P := P) w q 0 k [] (by simp [loadCells, loadCellsFrom])
                refine ⟨.string .empty, ?_, ?_⟩
                · rw [he, run_convert_bytes_string w src dst e (some q) 0 k hs hu8 hd]; exact h5
                · simp only [VR]
                  exact ⟨_, rfl, by simp [bytes]⟩
              cases cap with
              | some cap =>
                simp only [VR] at hr
                obtain ⟨q, he, hn, hp⟩ := hr
                rcases hp with hp | ⟨y, hy, hq⟩
                · exact empty q cap (by omega) he
                · exact main q cap y hy hq he
              | none =>
                simp only [VR] at hr
                obtain ⟨y, k, q, hy, he, _, hn, hp⟩ := hr
                rcases hp with hp | hq
                · exact empty q k (by omega) he
                · exact main q k y hy hq he
            · simp at h
          · simp at h
        · simp at h
    · simp at h
  · rename_i e hs hd hx
    simp only [Option.some.injEq] at h; subst h
    have he := eo hA ht hx
    simp only [VR] at he
    refine ⟨.pointer none, ?_, by simp [VR]⟩
    simp [Go.convert, run_underlying hs, run_underlying hd, Result.andThen, he, Conv.unsafePointer]
  · rename_i e hs hd hx
    simp only [Option.some.injEq] at h; subst h
    have he := eo hA ht hx
    simp only [VR] at he
    refine ⟨.pointer none, ?_, by simp [VR]⟩
    simp [Go.convert, run_underlying hs, run_underlying hd, Result.andThen, he, Conv.unsafePointer]
  · rename_i e b o hs hd hx
    split at h
    · rename_i sz c e' fz hsz hc
      cases hz : sz.beq 0 with
      | true => simp [hz] at h
      | false =>
        cases hlt : Nat.blt o c.length with
        | false => simp [hz, hlt] at h
        | true =>
          simp only [hz, hlt, Bool.not_false, Bool.and_true, cond_true, Option.some.injEq] at h
          subst h
          have hr := eo hA ht hx
          obtain ⟨i, hi, rfl⟩ := sizeA_info hsz
          have he := hr
          simp only [VR] at he
          obtain ⟨p, ⟨y, hy, rfl⟩, he⟩ := he
          obtain ⟨cs, _, fr, hh, _, htot, _, hle, _, _⟩ := hA.cells hy (cellsAt_eq hc)
          have := of_nblt hlt
          refine ⟨_, ?_, hr⟩
          rw [he]
          exact convert_toUnsafe hs hd hi (fun e0 => by rw [e0] at hz; cases hz) hh (by simp only at this ⊢; omega)
    · cases h
  · rename_i e b o hs hd hx
    split at h
    · rename_i sz c e' hsz hc
      cases hz : sz.beq 0 with
      | true => simp [hz] at h
      | false =>
        cases he' : e'.beq e with
        | false => simp [hz, he'] at h
        | true =>
          cases hm : (o % sz).beq 0 with
          | false => simp [hz, he', hm] at h
          | true =>
            cases hlt : Nat.ble (o + sz) c.length with
            | false => simp [hz, he', hm, hlt] at h
            | true =>
              simp only [hz, he', hm, hlt, Bool.not_false, Bool.and_true, cond_true, Option.some.injEq] at h
              subst h
              have hr := eo hA ht hx
              obtain ⟨i, hi, rfl⟩ := sizeA_info hsz
              have he := hr
              simp only [VR] at he
              obtain ⟨p, ⟨y, hy, rfl⟩, he⟩ := he
              obtain ⟨cs, e2, fr, hh, hfe, htot, hysz, hle, _, _⟩ := hA.cells hy (cellsAt_eq hc)
              obtain ⟨he2, hal1, hal2⟩ := hfe rfl
              rw [he2] at hh
              have := Nat.le_of_ble_eq_true hlt
              have hee := Nat.eq_of_beq_eq_true he'
              subst hee
              have hcz : P.cellsOf e' = i.size := by simp [Program.cellsOf, hi]
              rw [hysz, hcz] at hal1 hal2
              have hpos : 0 < i.size := Nat.pos_of_ne_zero fun e0 => by rw [e0] at hz; cases hz
              have hmo := Nat.eq_of_beq_eq_true hm
              refine ⟨_, ?_, hr⟩
              rw [he]
              refine convert_ofUnsafe hs hd hi (by omega) hh ?_ ?_
              · simp only
                rw [Nat.add_mod, hmo, Nat.mod_eq_zero_of_dvd hal1]; rfl
              · simp only at *
                rw [htot]
                obtain ⟨k, hk⟩ := hal2
                rw [hk, Nat.mul_div_cancel_left _ hpos]
                have h2 : (y.sh + o) < i.size * k := by omega
                have := (Nat.div_lt_iff_lt_mul hpos).2 (show y.sh + o < k * i.size by rw [Nat.mul_comm]; exact h2)
                omega
    · cases h
  · simp at h

theorem dataA_rel {args : List Operand} {v : AV} (h : dataA P t args = some v) (tys : Array TypeId) (ty : TypeId) : ∃ u, (Builtin.unsafeSliceData_ tys ty (args.map a.eval).toArray).run P w = .ok u w ∧ VR m v u := by
  unfold dataA at h
  split at h
  · rename_i x
    split at h
    · rename_i n c hx
      simp only [Option.some.injEq] at h; subst h
      have he := eo hA ht hx
      simp only [VR] at he
      obtain ⟨k, _, he, _⟩ := he
      refine ⟨.pointer none, ?_, by simp [VR]⟩
      simp only [List.map_cons, List.map_nil, he]
      rfl
    · rename_i p n c hx
      simp only [Option.some.injEq] at h; subst h
      have he := eo hA ht hx
      simp only [VR] at he
      obtain ⟨q, he, hn, hp⟩ := he
      rcases hp with hp | hp
      · omega
      · refine ⟨.pointer (some q), ?_, by simp only [VR]; exact ⟨q, hp, rfl⟩⟩
        simp only [List.map_cons, List.map_nil, he]
        exact Lib.run_unsafeSliceData_row w tys ty q n _ (by omega)
    · rename_i p n hx
      simp only [Option.some.injEq] at h; subst h
      have he := eo hA ht hx
      simp only [VR] at he
      obtain ⟨y, c, q, hy, he, _, hn, hp⟩ := he
      rcases hp with hp | hp
      · omega
      · refine ⟨.pointer (some q), ?_, by simp only [VR]; exact ⟨q, ⟨y, hy, hp⟩, rfl⟩⟩
        simp only [List.map_cons, List.map_nil, he]
        exact Lib.run_unsafeSliceData_row w tys ty q _ _ (by omega)
    · cases h
  · cases h

theorem lenA_rel {args : List Operand} {tys : List TypeId} {v : AV} (h : lenA P t args tys = some v) (ty : TypeId) : ∃ u, (Builtin.len_ tys.toArray ty (args.map a.eval).toArray).run P w = .ok u w ∧ VR m v u := by
  unfold lenA at h
  split at h
  · rename_i x tx
    split at h
    · rename_i s hu hx
      simp only [Option.some.injEq] at h; subst h
      obtain ⟨s', he, rfl⟩ := (eo hA ht hx).str_inv
      refine ⟨goInt s'.size, ?_, by simp [VR, goInt, bytes_length]⟩
      simp [Builtin.len_, run_underlying hu, Result.andThen, he]
    · rename_i e p n c hu hx
      simp only [Option.some.injEq] at h; subst h
      obtain ⟨q, k, he, _⟩ := (eo hA ht hx).slice_inv
      refine ⟨goInt n, ?_, by simp [VR, goInt]⟩
      simp [Builtin.len_, run_underlying hu, Result.andThen, he]
    · rename_i n e vx hu hx
      simp only [Option.some.injEq] at h; subst h
      refine ⟨goInt n, ?_, by simp [VR, goInt]⟩
      simp [Builtin.len_, run_underlying hu, Result.andThen]
    · simp at h
  · simp at h

theorem capA_rel {args : List Operand} {tys : List TypeId} {v : AV} (h : capA P t args tys = some v) (ty : TypeId) : ∃ u, (Builtin.cap_ tys.toArray ty (args.map a.eval).toArray).run P w = .ok u w ∧ VR m v u := by
  unfold capA at h
  split at h
  · rename_i x tx
    split at h
    · rename_i e p n c hu hx
      simp only [Option.some.injEq] at h; subst h
      have hr := eo hA ht hx
      have : ∃ q, a.eval x = .slice q n c := by
        cases p with
        | none => simp only [VR] at hr; obtain ⟨k, hk, he, _⟩ := hr; cases hk; exact ⟨none, he⟩
        | some p => simp only [VR] at hr; obtain ⟨q, he, _⟩ := hr; exact ⟨some q, he⟩
      obtain ⟨q, he⟩ := this
      refine ⟨goInt c, ?_, by simp [VR, goInt]⟩
      simp [Builtin.cap_, run_underlying hu, Result.andThen, he]
    · simp at h
  · simp at h

omit hA ht in
theorem foldl_min_none : ∀ (l : List AV), l.foldl min2A none = none
  | [] => rfl
  | _ :: l => by simp only [List.foldl_cons, min2A]; exact foldl_min_none l
omit hA ht in
theorem foldl_max_none : ∀ (l : List AV), l.foldl max2A none = none
  | [] => rfl
  | _ :: l => by simp only [List.foldl_cons, max2A]; exact foldl_max_none l

omit hA ht in
theorem fold_min : ∀ (l : List AV) (v u : AV) (v' : Value) (vs : List Value), l.foldl min2A (some v) = some u → VR m v v' → LR m l vs → ∃ u', (vs.foldlM Builtin.min2 v').run P w = .ok u' w ∧ VR m u u'
  | [], v, u, v', vs, h, hv, hl => by
    simp only [List.foldl_nil, Option.some.injEq] at h; subst h
    simp only [LR] at hl; subst hl
    exact ⟨v', rfl, hv⟩
  | y :: l, v, u, v', vs, h, hv, hl => by
    simp only [List.foldl_cons] at h
    simp only [LR] at hl
    obtain ⟨y', vs', rfl, h1, h2⟩ := hl
    cases v <;> (try (simp only [min2A, foldl_min_none, reduceCtorEq] at h))
    case int k n =>
      cases y <;> (try (simp only [min2A, foldl_min_none, reduceCtorEq] at h))
      case int k' n' =>
        cases hv.int_inv; cases h1.int_inv
        obtain ⟨u', h3, h4⟩ := fold_min l _ u (.int k (if n' < n then n' else n)) vs' h (by simp [VR]) h2
        refine ⟨u', ?_, h4⟩
        simpa [List.foldlM_cons, Builtin.min2, Result.andThen] using h3
omit hA ht in
theorem fold_max : ∀ (l : List AV) (v u : AV) (v' : Value) (vs : List Value), l.foldl max2A (some v) = some u → VR m v v' → LR m l vs → ∃ u', (vs.foldlM Builtin.max2 v').run P w = .ok u' w ∧ VR m u u'
  | [], v, u, v', vs, h, hv, hl => by
    simp only [List.foldl_nil, Option.some.injEq] at h; subst h
    simp only [LR] at hl; subst hl
    exact ⟨v', rfl, hv⟩
  | y :: l, v, u, v', vs, h, hv, hl => by
    simp only [List.foldl_cons] at h
    simp only [LR] at hl
    obtain ⟨y', vs', rfl, h1, h2⟩ := hl
    cases v <;> (try (simp only [max2A, foldl_max_none, reduceCtorEq] at h))
    case int k n =>
      cases y <;> (try (simp only [max2A, foldl_max_none, reduceCtorEq] at h))
      case int k' n' =>
        cases hv.int_inv; cases h1.int_inv
        obtain ⟨u', h3, h4⟩ := fold_max l _ u (.int k (if n' > n then n' else n)) vs' h (by simp [VR]) h2
        refine ⟨u', ?_, h4⟩
        simpa [List.foldlM_cons, Builtin.max2, Result.andThen] using h3

theorem minA_rel {args : List Operand} {v : AV} (h : minA P t args = some v) (tys : Array TypeId) (ty : TypeId) : ∃ u, (Builtin.min_ tys ty (args.map a.eval).toArray).run P w = .ok u w ∧ VR m v u := by
  unfold minA at h
  split at h
  · rename_i x rest hx
    have hl := evalOs_rel hA.glob ht hx
    simp only [LR] at hl
    obtain ⟨x', vs, he, h1, h2⟩ := hl
    obtain ⟨u, h3, h4⟩ := fold_min (P := P) (w := w) rest x v x' vs h h1 h2
    exact ⟨u, by simpa [Builtin.min_, he] using h3, h4⟩
  · simp at h

theorem maxA_rel {args : List Operand} {v : AV} (h : maxA P t args = some v) (tys : Array TypeId) (ty : TypeId) : ∃ u, (Builtin.max_ tys ty (args.map a.eval).toArray).run P w = .ok u w ∧ VR m v u := by
  unfold maxA at h
  split at h
  · rename_i x rest hx
    have hl := evalOs_rel hA.glob ht hx
    simp only [LR] at hl
    obtain ⟨x', vs, he, h1, h2⟩ := hl
    obtain ⟨u, h3, h4⟩ := fold_max (P := P) (w := w) rest x v x' vs h h1 h2
    exact ⟨u, by simpa [Builtin.max_, he] using h3, h4⟩
  · simp at h

theorem callStillA_rel {c : Call} {v : AV} (h : callStillA P t c = some v) (ty : TypeId) :
    ∃ u, (do let d ← resolve a.eval c ty; invoke d.target d.args : Sem Next).run P w = .ok (.value u) w ∧ VR m v u := by
  obtain ⟨callee, args, tys⟩ := c
  unfold callStillA at h
  simp only at h
  split at h
  · obtain ⟨u, h1, h2⟩ := lenA_rel hA ht h ty
    refine ⟨u, ?_, h2⟩
    have e1 : (args.toList.map a.eval).toArray = args.map a.eval := by simp [← Array.toList_map]
    rw [e1] at h1
    simp [resolve, Result.andThen, invoke, builtin, h1]
  · obtain ⟨u, h1, h2⟩ := capA_rel hA ht h ty
    refine ⟨u, ?_, h2⟩
    have e1 : (args.toList.map a.eval).toArray = args.map a.eval := by simp [← Array.toList_map]
    rw [e1] at h1
    simp [resolve, Result.andThen, invoke, builtin, h1]
  · obtain ⟨u, h1, h2⟩ := minA_rel hA ht h tys ty
    refine ⟨u, ?_, h2⟩
    have e1 : (args.toList.map a.eval).toArray = args.map a.eval := by simp [← Array.toList_map]
    rw [e1] at h1
    simp [resolve, Result.andThen, invoke, builtin, h1]
  · obtain ⟨u, h1, h2⟩ := maxA_rel hA ht h tys ty
    refine ⟨u, ?_, h2⟩
    have e1 : (args.toList.map a.eval).toArray = args.map a.eval := by simp [← Array.toList_map]
    rw [e1] at h1
    simp [resolve, Result.andThen, invoke, builtin, h1]
  · obtain ⟨u, h1, h2⟩ := dataA_rel hA ht h tys ty
    refine ⟨u, ?_, h2⟩
    have e1 : (args.toList.map a.eval).toArray = args.map a.eval := by simp [← Array.toList_map]
    rw [e1] at h1
    simp [resolve, Result.andThen, invoke, builtin, h1]
  · simp at h

theorem readA_sim {o : Oper} {v : AV} (h : readA P A o.op t = some v) : Yields P m a w o v := by
  obtain ⟨dst, op, ty, pos, after, guard⟩ := o
  unfold Yields
  simp only at h
  cases op <;> simp only [readA, reduceCtorEq] at h
  case move x => exact ⟨_, rfl, eo hA ht h⟩
  case assign x => exact ⟨_, rfl, eo hA ht h⟩
  case pick c x y =>
    unfold pickA at h
    split at h
    · rename_i b hb
      have hr := (eo hA ht hb).bool_inv
      cases b with
      | true => exact ⟨a.eval x, by simp [execOp, hr, asBool, Result.andThen], eo hA ht h⟩
      | false => exact ⟨a.eval y, by simp [execOp, hr, asBool, Result.andThen], eo hA ht h⟩
    · simp at h
  case nilCheck x =>
    unfold nilCheckA at h
    split at h
    · rename_i p hx
      simp only [Option.some.injEq] at h; subst h
      have hr := eo hA ht hx
      refine ⟨a.eval x, ?_, hr⟩
      simp only [VR] at hr
      obtain ⟨q, _, he⟩ := hr
      simp [execOp, he]
    · rename_i f p q hx
      simp only [Option.some.injEq] at h; subst h
      have hr := eo hA ht hx
      refine ⟨a.eval x, ?_, hr⟩
      simp only [VR] at hr
      obtain ⟨f', a', b', he, hf, _⟩ := hr
      simp only [FR] at hf; subst hf
      simp [execOp, he]
    · rename_i f p q hx
      simp only [Option.some.injEq] at h; subst h
      have hr := eo hA ht hx
      refine ⟨a.eval x, ?_, hr⟩
      simp only [VR] at hr
      obtain ⟨f', a', b', he, hf, _⟩ := hr
      simp only [FR] at hf
      obtain ⟨z, _, rfl⟩ := hf
      simp [execOp, he]
    · simp at h
  case binOp op tx x y ty' =>
    unfold binOpA at h
    split at h
    · rename_i u v' hx hy
      obtain ⟨r, h1, h2⟩ := binA_rel (P := P) h (eo hA ht hx) (eo hA ht hy) x y w
      refine ⟨r, ?_, h2⟩
      simp only [execOp]
      rw [Sem.run_bind, h1]
      rfl
    · simp at h
  case unOp op tx x =>
    unfold unOpA at h
    split at h
    · rename_i u hx
      obtain ⟨r, h1, h2⟩ := unA_rel (P := P) h (eo hA ht hx) w
      exact ⟨r, by simp [execOp, h1, Result.andThen], h2⟩
    · simp at h
  case convert src dst' x =>
    obtain ⟨r, h1, h2⟩ := convStillA_rel hA ht h
    exact ⟨r, by simp [execOp, h1, Result.andThen], h2⟩
  case makeFunc f first cap =>
    unfold makeFuncA at h
    split at h
    · rename_i f' x y hx hy
      simp only [Option.some.injEq] at h; subst h
      refine ⟨.func (.func f') (first.map a.eval) (cap.map a.eval), rfl, ?_⟩
      simp only [VR]
      refine ⟨_, _, _, rfl, rfl, ?_, ?_⟩
      · simpa using evalOs_rel hA.glob ht hx
      · simpa using evalOs_rel hA.glob ht hy
    · simp at h
  case fieldAddr s x f =>
    obtain ⟨r, h1, h2⟩ := fieldAddrA_rel hA ht h
    exact ⟨r, by simp [execOp, h1, Result.andThen], h2⟩
  case field s x f =>
    obtain ⟨r, h1, h2⟩ := fieldA_rel hA ht h
    exact ⟨r, by simp [execOp, h1, Result.andThen], h2⟩
  case indexAddr s x f =>
    obtain ⟨r, h1, h2⟩ := indexAddrA_rel hA ht h
    exact ⟨r, by simp [execOp, h1, Result.andThen], h2⟩
  case index s x f =>
    obtain ⟨r, h1, h2⟩ := indexA_rel hA ht h
    exact ⟨r, by simp [execOp, h1, Result.andThen], h2⟩
  case slice s x lo hi mx =>
    obtain ⟨r, h1, h2⟩ := sliceA_rel hA ht h
    exact ⟨r, by simp [execOp, h1, Result.andThen], h2⟩
  case extract x i =>
    unfold extractA at h
    split at h
    · rename_i vs hx
      have hr := eo hA ht hx
      simp only [VR] at hr
      obtain ⟨vs', he, hl⟩ := hr
      obtain ⟨u, h1, h2⟩ := hl.get? _ _ h
      refine ⟨u, ?_, h2⟩
      have : vs'[i]? = some u := by simpa using h1
      simp [execOp, he, Instr.extract, this, Result.andThen]
    · simp at h
  case load tx x =>
    unfold loadOpA at h
    split at h
    · rename_i b o hx
      have hr := eo hA ht hx
      simp only [VR] at hr
      obtain ⟨p, hp, he⟩ := hr
      obtain ⟨u, h1, h2⟩ := loadA_rel hA h hp
      exact ⟨u, by simp [execOp, he, Instr.loadAt, Instr.sureAddr, h1, Result.andThen], h2⟩
    · simp at h
  case call c =>
    obtain ⟨r, h1, h2⟩ := callStillA_rel hA ht h ty
    exact ⟨r, by simpa [execOp] using h1, h2⟩

end
end Go.Fold

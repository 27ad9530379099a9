/-
  A part of the road: an evaluator over abstract memory with a proved simulation, and what is reckoned by it. Written by an AI agent; no person has read it.
-/
import Derived.Test.YtebjajchdidnfaaGreatDoorFoldOps
import Derived.Laws.Strings
import Derived.Laws.Strings2
set_option linter.all false
namespace Go.Fold
variable {P : Program}

/-- an operation that yields a value in the world as it stands -/
def Yields (P : Program) (m : Map) (a : Act) (w : World) (o : Oper) (v : AV) : Prop := ∃ u, (execOp a.eval o).run P w = .ok (.value u) w ∧ VR m v u

/-! ### Strings -/

theorem bytes_length (b : ByteArray) : (bytes b).length = b.size := by simp [bytes]

theorem bytes_inj {a b : ByteArray} (h : bytes a = bytes b) : a = b := by
  have : a.data.toList = b.data.toList := by
    unfold bytes at h
    exact (List.map_inj_right (fun x y hxy => UInt8.toNat_inj.1 hxy)).1 h
  cases a; cases b
  simp at this
  simpa using this

theorem bytesEq_iff : ∀ (x y : List Nat), bytesEq x y = true ↔ x = y
  | [], [] => by simp [bytesEq]
  | [], _ :: _ => by simp [bytesEq]
  | _ :: _, [] => by simp [bytesEq]
  | a :: x, b :: y => by
    unfold bytesEq
    by_cases h : a = b
    · subst h; simp [nbeq_true, bytesEq_iff x y]
    · simp [nbeq_false h, h]

theorem beq_bytes (x y : ByteArray) : (x.toList == y.toList) = bytesEq (bytes x) (bytes y) := by
  rw [ByteArray.toList_eq, ByteArray.toList_eq]
  have h1 := bytesEq_iff (bytes x) (bytes y)
  by_cases h : x = y
  · subst h; simp [h1.2 rfl]
  · have h2 : bytes x ≠ bytes y := fun e => h (bytes_inj e)
    have h3 : bytesEq (bytes x) (bytes y) = false := by
      cases hb : bytesEq (bytes x) (bytes y) with
      | false => rfl
      | true => exact absurd (h1.1 hb) h2
    rw [h3]
    have : x.data.toList ≠ y.data.toList := fun e => h2 (by simp [bytes, e])
    simpa using this

theorem bytesLess_eq : ∀ (x y : List UInt8), Op.bytesLess x y = bytesLt (x.map (·.toNat)) (y.map (·.toNat))
  | _, [] => by simp [Op.bytesLess, bytesLt]
  | [], _ :: _ => by simp [Op.bytesLess, bytesLt]
  | a :: x, b :: y => by
    simp only [Op.bytesLess, List.map_cons, bytesLt]
    rw [bytesLess_eq x y]
    by_cases h : a.toNat < b.toNat
    · have : a < b := UInt8.lt_iff_toNat_lt.2 h
      simp [nblt_true h, this]
    · have hn : ¬ a < b := fun e => h (UInt8.lt_iff_toNat_lt.1 e)
      rw [nblt_false h]
      by_cases he : a = b
      · subst he; simp [nbeq_true]
      · have : a.toNat ≠ b.toNat := fun e => he (UInt8.toNat_inj.1 e)
        simp [nbeq_false this, hn, he]

theorem bytes_append (x y : ByteArray) : bytes (x ++ y) = bytes x ++ bytes y := by simp [bytes, ByteArray.data_append]

theorem strOp_rel {m : Map} {op : BinOp} {x y : ByteArray} {v : AV} (h : strOp op (bytes x) (bytes y) = some v) (w : World) :
    ∃ u, (Op.stringOp op x y).run P w = .ok u w ∧ VR m v u := by
  have hle : x.toList = x.data.toList := ByteArray.toList_eq x
  have hre : y.toList = y.data.toList := ByteArray.toList_eq y
  have hlt : Op.bytesLess x.toList y.toList = bytesLt (bytes x) (bytes y) := by rw [hle, hre]; exact bytesLess_eq _ _
  have heq := beq_bytes x y
  unfold strOp at h
  unfold Op.stringOp
  simp only [hlt, heq]
  cases op <;> simp only [Option.some.injEq, reduceCtorEq] at h
  case add =>
    cases hb : Nat.ble ((bytes x).length + (bytes y).length) 9223372036854775807 with
    | false => simp [hb] at h
    | true =>
      simp only [hb, cond_true, Option.some.injEq] at h; subst h
      have := of_nble hb
      rw [bytes_length, bytes_length] at this
      refine ⟨.string (x ++ y), ?_, by simp only [VR]; exact ⟨_, rfl, bytes_append x y⟩⟩
      have hmax : IntKind.i64.max = 9223372036854775807 := by decide
      rw [if_neg (by rw [hmax]; omega)]
      rfl
  all_goals
    subst h
    exact ⟨_, rfl, by simp [VR]⟩

/-! ### Numbers -/

theorem intBitsA_rel {m : Map} {op : BinOp} {k : IntKind} {x y : Int} {v : AV} (h : intBitsA op k x y = some v) (w : World) :
    ∃ u, (Op.intBits op k x y).run P w = .ok u w ∧ VR m v u := by
  unfold intBitsA at h
  unfold Op.intBits
  cases op <;> simp only [Option.some.injEq, reduceCtorEq] at h <;> subst h <;> exact ⟨_, rfl, by simp [VR]⟩

theorem intOp_rel {m : Map} {op : BinOp} {k : IntKind} {x y : Int} {v : AV} {t : TypeId} (h : intOp op k x y = some v) (hs : op ≠ .shl ∧ op ≠ .shr) (w : World) :
    ∃ u, (Go.binOp op t (.int k x) (.int k y)).run P w = .ok u w ∧ VR m v u := by
  unfold intOp at h
  cases op
  case shl => exact absurd rfl hs.1
  case shr => exact absurd rfl hs.2
  case quo =>
    simp only at h
    by_cases hy : y = 0
    · rw [if_pos hy] at h; cases h
    · rw [if_neg hy] at h; cases h
      refine ⟨.int k (k.wrap (x.tdiv y)), ?_, by simp [VR]⟩
      simp [Go.binOp, Op.intDiv, hy]
  case rem =>
    simp only at h
    by_cases hy : y = 0
    · rw [if_pos hy] at h; cases h
    · rw [if_neg hy] at h; cases h
      refine ⟨.int k (x.tmod y), ?_, by simp [VR]⟩
      simp [Go.binOp, Op.intDiv, hy]
  case and => obtain ⟨u, hu, hv⟩ := intBitsA_rel (P := P) (m := m) h w; exact ⟨u, by simpa [Go.binOp] using hu, hv⟩
  case or => obtain ⟨u, hu, hv⟩ := intBitsA_rel (P := P) (m := m) h w; exact ⟨u, by simpa [Go.binOp] using hu, hv⟩
  case xor => obtain ⟨u, hu, hv⟩ := intBitsA_rel (P := P) (m := m) h w; exact ⟨u, by simpa [Go.binOp] using hu, hv⟩
  case andNot => obtain ⟨u, hu, hv⟩ := intBitsA_rel (P := P) (m := m) h w; exact ⟨u, by simpa [Go.binOp] using hu, hv⟩
  all_goals
    simp only [Option.some.injEq, reduceCtorEq] at h
    subst h
    exact ⟨_, by simp [Go.binOp, Op.intArith, Op.intCmp]; rfl, by simp [VR]⟩

theorem shiftA_rel {m : Map} {op : BinOp} {k j : IntKind} {x y : Int} {v : AV} (h : shiftA op k x y = some v) (w : World) :
    ∃ u, (Op.shift op k x j y).run P w = .ok u w ∧ VR m v u := by
  unfold shiftA at h
  unfold Op.shift
  by_cases hy : y < 0
  · rw [if_pos hy] at h; cases h
  · rw [if_neg hy] at h
    rw [if_neg hy]
    cases op <;> simp only [Option.some.injEq, reduceCtorEq] at h <;> subst h <;> exact ⟨_, rfl, by simp [VR]⟩

/-! ### Equality -/

theorem VR.bool_inv {m : Map} {b : Bool} {v : Value} (h : VR m (.bool b) v) : v = .bool b := by simpa only [VR] using h
theorem VR.int_inv {m : Map} {k : IntKind} {n : Int} {v : Value} (h : VR m (.int k n) v) : v = .int k n := by simpa only [VR] using h
theorem VR.str_inv {m : Map} {s : List Nat} {v : Value} (h : VR m (.str s) v) : ∃ b, v = .string b ∧ bytes b = s := by simpa only [VR] using h
theorem VR.ptr_inv {m : Map} {a : Option (Nat × Nat)} {v : Value} (h : VR m (.ptr a) v) : ∃ p : Option Addr, v = .pointer p ∧ (match a with | none => p = none | some a => ∃ q, p = some q ∧ PR m a q) := by
  cases a with
  | none => simp only [VR] at h; exact ⟨none, h, rfl⟩
  | some a => simp only [VR] at h; obtain ⟨p, hp, he⟩ := h; exact ⟨some p, he, p, rfl, hp⟩
theorem VR.slice_inv {m : Map} {a : Option (Nat × Nat)} {n : Nat} {c : Option Nat} {v : Value} (h : VR m (.slice a n c) v) : ∃ (p : Option Addr) (k : Nat), v = .slice p n k ∧ p.isNone = a.isNone := by
  cases a with
  | none => simp only [VR] at h; obtain ⟨k, _, he, _⟩ := h; exact ⟨none, k, he, rfl⟩
  | some a =>
    cases c with
    | none => simp only [VR] at h; obtain ⟨x, k, p, _, he, _⟩ := h; exact ⟨some p, k, he, rfl⟩
    | some c => simp only [VR] at h; obtain ⟨p, he, _⟩ := h; exact ⟨some p, c, he, rfl⟩

theorem eqA_rel {m : Map} {t : TypeId} {x y : AV} {b : Bool} (h : eqA (P.underlying t) x y = some b) {x' y' : Value} (hx : VR m x x') (hy : VR m y y') (w : World) :
    ∀ d, (Op.equalIn (d + 1) t x' y').run P w = .ok b w := by
  intro d
  unfold eqA at h
  unfold Op.equalIn
  split at h
  · rename_i p q hu
    cases hx.bool_inv; cases hy.bool_inv
    simp only [Option.some.injEq] at h; subst h
    simp [run_underlying hu, Result.andThen]
  · rename_i e b' hu
    obtain ⟨p, rfl, hp⟩ := hx.ptr_inv
    obtain ⟨q, rfl, hq⟩ := hy.ptr_inv
    cases hp
    simp only [Option.some.injEq] at h; subst h
    cases b' with
    | none => cases hq; simp [run_underlying hu, Result.andThen]
    | some b' => obtain ⟨q', rfl, _⟩ := hq; simp [run_underlying hu, Result.andThen]
  · rename_i e a' hna hu
    obtain ⟨p, rfl, hp⟩ := hx.ptr_inv
    obtain ⟨q, rfl, hq⟩ := hy.ptr_inv
    cases hq
    simp only [Option.some.injEq] at h; subst h
    cases a' with
    | none => exact (hna rfl).elim
    | some a' => obtain ⟨p', rfl, _⟩ := hp; simp [run_underlying hu, Result.andThen]
  · rename_i e n c b' n' c' hu
    obtain ⟨p, k, rfl, hp⟩ := hx.slice_inv
    obtain ⟨q, k', rfl, hq⟩ := hy.slice_inv
    simp only [Option.some.injEq] at h; subst h
    cases p with
    | some p => simp at hp
    | none => simp [run_underlying hu, Result.andThen, hq]
  · rename_i e a' n c n' c' hna hu
    obtain ⟨p, k, rfl, hp⟩ := hx.slice_inv
    obtain ⟨q, k', rfl, hq⟩ := hy.slice_inv
    simp only [Option.some.injEq] at h; subst h
    cases a' with
    | none => exact (hna rfl).elim
    | some a' =>
      cases p with
      | none => simp at hp
      | some p =>
        cases q with
        | some q => simp at hq
        | none => simp [run_underlying hu, Result.andThen]
  · rename_i k e b' hu
    simp only [VR] at hx; subst hx
    simp only [Option.some.injEq] at h; subst h
    cases b' with
    | none => simp only [VR] at hy; subst hy; simp [run_underlying hu, Result.andThen]
    | some b' => simp only [VR] at hy; obtain ⟨z, _, rfl⟩ := hy; simp [run_underlying hu, Result.andThen]
  · rename_i k e a' hna hu
    simp only [VR] at hy; subst hy
    simp only [Option.some.injEq] at h; subst h
    cases a' with
    | none => exact (hna rfl).elim
    | some a' => simp only [VR] at hx; obtain ⟨z, _, rfl⟩ := hx; simp [run_underlying hu, Result.andThen]
  · rename_i ps rs vr hu
    simp only [VR] at hx hy; subst hx; subst hy
    simp only [Option.some.injEq] at h; subst h
    simp [run_underlying hu, Result.andThen]
  · rename_i ps rs vr f a' b' hu
    simp only [VR] at hx hy; subst hx; obtain ⟨f', a2, b2, rfl, _⟩ := hy
    simp only [Option.some.injEq] at h; subst h
    simp [run_underlying hu, Result.andThen]
  · rename_i ps rs vr f a' b' hu
    simp only [VR] at hx hy; subst hy; obtain ⟨f', a2, b2, rfl, _⟩ := hx
    simp only [Option.some.injEq] at h; subst h
    simp [run_underlying hu, Result.andThen]
  · simp at h

end Go.Fold

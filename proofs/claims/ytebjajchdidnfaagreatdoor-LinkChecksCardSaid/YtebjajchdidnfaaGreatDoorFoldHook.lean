/-
  A part of the road: an evaluator over abstract memory with a proved simulation, and what is reckoned by it. Written by an AI agent; no person has read it.
-/
import Derived.Test.YtebjajchdidnfaaGreatDoorFoldLaid
import Derived.Lib.Bytealg
import Derived.Laws.Externs
set_option linter.all false
namespace Go.Fold
variable {P : Program}

/-! ### Functions that the model answers itself -/

def cntB (c : Nat) : List Nat → Nat
  | [] => 0
  | b :: l => bif Nat.beq b c then cntB c l + 1 else cntB c l

def idxB (c : Nat) : List Nat → Nat → Option Nat
  | [], _ => none
  | b :: l, i => bif Nat.beq b c then some i else idxB c l (i + 1)

def countH (args : List AV) (A : AH) : Option (AV × AH) :=
  match args with
  | [.str s, .int .u8 (.ofNat c)] => bif Nat.blt c 256 then some (.int .i64 (.ofNat (cntB c s)), A) else none
  | _ => none

def indexH (args : List AV) (A : AH) : Option (AV × AH) :=
  match args with
  | [.str s, .int .u8 (.ofNat c)] => bif Nat.blt c 256 then some (.int .i64 (match idxB c s 0 with | some i => .ofNat i | none => -1), A) else none
  | _ => none

def sameH (args : List AV) (A : AH) : Option (AV × AH) :=
  match args with
  | [x] => some (x, A)
  | _ => none

theorem byte_eq (x : UInt8) (c : Nat) (hc : c < 256) : (x == c.toUInt8) = Nat.beq x.toNat c := by
  rw [Bool.eq_iff_iff, beq_iff_eq]
  have e : (c.toUInt8).toNat = c := by simp; omega
  constructor
  · intro h; rw [h, e]; exact Nat.beq_refl c
  · intro h
    apply UInt8.toNat_inj.1
    rw [Nat.eq_of_beq_eq_true h, e]

theorem cntB_eq (c : Nat) (hc : c < 256) : ∀ (l : List UInt8), Lib.countByte l c.toUInt8 = cntB c (l.map (·.toNat))
  | [] => rfl
  | x :: l => by
    have ih := cntB_eq c hc l
    simp only [Lib.countByte, List.count_cons, List.map_cons, cntB, byte_eq x c hc] at ih ⊢
    rw [ih]
    cases Nat.beq x.toNat c <;> simp

theorem idxB_shift (c : Nat) : ∀ (l : List Nat) (i : Nat), idxB c l i = (idxB c l 0).map (· + i)
  | [], i => rfl
  | b :: l, i => by
    simp only [idxB]
    cases Nat.beq b c with
    | true => simp
    | false =>
      simp only [cond_false]
      rw [idxB_shift c l (i + 1), idxB_shift c l 1, Option.map_map]
      congr 1
      funext x
      simp only [Function.comp]; omega

theorem idxB_eq (c : Nat) (hc : c < 256) : ∀ (l : List UInt8), Lib.indexByte l c.toUInt8 = (match idxB c (l.map (·.toNat)) 0 with | some i => .ofNat i | none => -1)
  | [] => rfl
  | x :: l => by
    have ih := idxB_eq c hc l
    simp only [Lib.indexByte, List.map_cons, idxB, byte_eq x c hc]
    cases Nat.beq x.toNat c with
    | true => simp
    | false =>
      simp only [cond_false, Bool.false_eq_true, if_false, ih]
      rw [idxB_shift c _ 1]
      cases idxB c (l.map (·.toNat)) 0 with
      | none => simp
      | some i => simp

theorem ext_spec {f : FuncId} {fn : Func} {e : Array Value → Sem Value} (hf : P.funcs[f]? = some fn) (hname : (fn.name == "runtime.NumGoroutine") = false) (hb : fn.body.isNone = true) (hn : Extern.findNext fn = none) (he : Extern.find fn = some e)
    {args : List AV} {A : AH} {v : AV} (h : ∀ (m : Map) (w : World) (args' : Array Value), Glob P m → LR m args args'.toList → ∃ u, (e args').run P w = .ok u w ∧ VR m v u) : CallSpec P f args A v A := by
  intro m w args' hA hl
  obtain ⟨u, h1, h2⟩ := h m w args' hA.glob hl
  refine ⟨u, w, m, .inl ?_, h2, Sim.refl hA⟩
  rw [run_callFunc_extern hf hname hb hn he, h1]
  rfl

theorem two_args {m : Map} {a b : AV} {args : Array Value} (h : LR m [a, b] args.toList) : ∃ x y, args = #[x, y] ∧ VR m a x ∧ VR m b y := by
  simp only [LR] at h
  obtain ⟨x, l, he, hx, y, l2, rfl, hy, rfl⟩ := h
  exact ⟨x, y, by cases args; simp_all, hx, hy⟩

theorem one_arg {m : Map} {a : AV} {args : Array Value} (h : LR m [a] args.toList) : ∃ x, args = #[x] ∧ VR m a x := by
  simp only [LR] at h
  obtain ⟨x, l, he, hx, rfl⟩ := h
  exact ⟨x, by cases args; simp_all, hx⟩

theorem countH_ok {f : FuncId} {fn : Func} (hf : P.funcs[f]? = some fn) (hname : (fn.name == "runtime.NumGoroutine") = false) (hb : fn.body.isNone = true) (hn : Extern.findNext fn = none) (he : Extern.find fn = some Extern.BytealgCount.count)
    {args : List AV} {A : AH} {v : AV} {A' : AH} (h : countH args A = some (v, A')) : CallSpec P f args A v A' := by
  unfold countH at h
  split at h
  · rename_i s c
    cases hc : Nat.blt c 256 with
    | false => simp [hc] at h
    | true =>
      simp only [hc, cond_true, Option.some.injEq, Prod.mk.injEq] at h
      obtain ⟨rfl, rfl⟩ := h
      refine ext_spec hf hname hb hn he fun m w args' _ hl => ?_
      obtain ⟨x, y, rfl, hx, hy⟩ := two_args hl
      obtain ⟨b, rfl, rfl⟩ := hx.str_inv
      cases hy.int_inv
      rw [Lib.run_countString]
      exact ⟨_, rfl, by simp only [VR]; rw [show ((Int.ofNat c).toNat) = c from rfl, cntB_eq c (of_nblt hc)]; rfl⟩
  · cases h

theorem indexH_ok {f : FuncId} {fn : Func} (hf : P.funcs[f]? = some fn) (hname : (fn.name == "runtime.NumGoroutine") = false) (hb : fn.body.isNone = true) (hn : Extern.findNext fn = none) (he : Extern.find fn = some Extern.BytealgIndexByte.indexByte)
    {args : List AV} {A : AH} {v : AV} {A' : AH} (h : indexH args A = some (v, A')) : CallSpec P f args A v A' := by
  unfold indexH at h
  split at h
  · rename_i s c
    cases hc : Nat.blt c 256 with
    | false => simp [hc] at h
    | true =>
      simp only [hc, cond_true, Option.some.injEq, Prod.mk.injEq] at h
      obtain ⟨rfl, rfl⟩ := h
      refine ext_spec hf hname hb hn he fun m w args' _ hl => ?_
      obtain ⟨x, y, rfl, hx, hy⟩ := two_args hl
      obtain ⟨b, rfl, rfl⟩ := hx.str_inv
      cases hy.int_inv
      rw [Lib.run_indexByteString]
      exact ⟨_, rfl, by simp only [VR]; rw [show ((Int.ofNat c).toNat) = c from rfl, idxB_eq c (of_nblt hc)]; rfl⟩
  · cases h

theorem sameH_ok {f : FuncId} {fn : Func} (hf : P.funcs[f]? = some fn) (hname : (fn.name == "runtime.NumGoroutine") = false) (hb : fn.body.isNone = true) (hn : Extern.findNext fn = none) (he : Extern.find fn = some Extern.AbiNoEscape.same)
    {args : List AV} {A : AH} {v : AV} {A' : AH} (h : sameH args A = some (v, A')) : CallSpec P f args A v A' := by
  unfold sameH at h
  split at h
  · rename_i x
    simp only [Option.some.injEq, Prod.mk.injEq] at h
    obtain ⟨rfl, rfl⟩ := h
    refine ext_spec hf hname hb hn he fun m w args' _ hl => ?_
    obtain ⟨y, rfl, hy⟩ := one_arg hl
    exact ⟨y, rfl, hy⟩
  · cases h

/-- the hooks of a program: which function is which -/
def stdHook (count index same : Nat) : Hook := fun f =>
  bif Nat.beq f count then some countH else bif Nat.beq f index then some indexH else bif Nat.beq f same then some sameH else none

theorem stdHook_ok {count index same : Nat} (h1 : ∀ args A v A', countH args A = some (v, A') → CallSpec P count args A v A') (h2 : ∀ args A v A', indexH args A = some (v, A') → CallSpec P index args A v A')
    (h3 : ∀ args A v A', sameH args A = some (v, A') → CallSpec P same args A v A') : HookOk P (stdHook count index same) := by
  intro f h hf args A v A' hv
  unfold stdHook at hf
  cases e1 : Nat.beq f count with
  | true =>
    simp only [e1, cond_true, Option.some.injEq] at hf
    subst hf
    have := Nat.eq_of_beq_eq_true e1; subst this
    exact h1 _ _ _ _ hv
  | false =>
    cases e2 : Nat.beq f index with
    | true =>
      simp only [e1, e2, cond_false, cond_true, Option.some.injEq] at hf
      subst hf
      have := Nat.eq_of_beq_eq_true e2; subst this
      exact h2 _ _ _ _ hv
    | false =>
      cases e3 : Nat.beq f same with
      | true =>
        simp only [e1, e2, e3, cond_false, cond_true, Option.some.injEq] at hf
        subst hf
        have := Nat.eq_of_beq_eq_true e3; subst this
        exact h3 _ _ _ _ hv
      | false => simp [e1, e2, e3] at hf

end Go.Fold

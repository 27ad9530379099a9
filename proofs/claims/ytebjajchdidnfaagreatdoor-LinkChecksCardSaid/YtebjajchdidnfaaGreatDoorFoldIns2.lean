/-
  A part of the road: an evaluator over abstract memory with a proved simulation, and what is reckoned by it. Written by an AI agent; no person has read it.
-/
import Derived.Test.YtebjajchdidnfaaGreatDoorFoldHook
import Derived.Shelf.Lays2
import Derived.Shelf.RegionOpenPlain
import Derived.WalkKit
import Derived.Lib.Walk
import Derived.Lib.SliceRun
import Derived.Lib.JoinLaws
import Derived.Lib.AppendZeros
import Derived.Lib.AppendZerosOnto
import Derived.Lib.Overlaps
import Derived.Laws.Externs
import Derived.Laws.IdiomCopy
import Derived.Laws.NewBlocks
import Derived.Shelf.Spec.SlicesInsertGrow
set_option linter.all false
namespace Go.Fold
open Go.Shelf Go.RowKit Go.Lib Go.Proofs
variable {P : Program} {ρ : Ren}

noncomputable def ins22 (ρ : Ren) (nm : String) : Func := { Body2.n22 ρ with name := nm }
theorem ins22_ntmps (ρ : Ren) (nm : String) : (ins22 ρ nm).ntmps = 95 := by kernel_rfl

/-- what one entry of slices.Insert asks of the program, whatever the elements are: of one cell -/
structure InsL (P : Program) (ρ : Ren) (d : TypeDesc) (zv : Value) (by_ : Nat) : Prop where
  mixed : P.follows .mixedOrders = true
  fn : ∃ nm, P.funcs[ρ.f 22]? = some (ins22 ρ nm) ∧ (nm == "runtime.NumGoroutine") = false
  fo : ∃ fo, P.funcs[ρ.f 29]? = some fo ∧ (fo.name == "runtime.NumGoroutine") = false ∧ fo.body.isNone = true ∧ Extern.findNext fo = none ∧ Extern.find fo = some (Extern.SlicesOverlaps.overlaps #[(ρ.t 24), (ρ.t 24)] #[(ρ.t 4)])
  t0 : P.underlying (ρ.t 0) = some (TypeDesc.tuple #[])
  a0 : ∀ w, (Go.isAgg (ρ.t 0)).run P w = .ok false w
  z0 : ∀ w, (Go.sizeOf (ρ.t 0)).run P w = .ok 1 w
  v0 : ∀ w, (zeroValue (ρ.t 0)).run P w = .ok (Value.tuple #[]) w
  t3 : P.underlying (ρ.t 3) = some (TypeDesc.int IntKind.i64)
  a3 : ∀ w, (Go.isAgg (ρ.t 3)).run P w = .ok false w
  z3 : ∀ w, (Go.sizeOf (ρ.t 3)).run P w = .ok 1 w
  v3 : ∀ w, (zeroValue (ρ.t 3)).run P w = .ok (Value.int IntKind.i64 0) w
  t4 : P.underlying (ρ.t 4) = some (TypeDesc.bool)
  a4 : ∀ w, (Go.isAgg (ρ.t 4)).run P w = .ok false w
  z4 : ∀ w, (Go.sizeOf (ρ.t 4)).run P w = .ok 1 w
  v4 : ∀ w, (zeroValue (ρ.t 4)).run P w = .ok (Value.bool false) w
  t9 : P.underlying (ρ.t 9) = some d
  a9 : ∀ w, (Go.isAgg (ρ.t 9)).run P w = .ok false w
  z9 : ∀ w, (Go.sizeOf (ρ.t 9)).run P w = .ok 1 w
  v9 : ∀ w, (zeroValue (ρ.t 9)).run P w = .ok zv w
  t24 : P.underlying (ρ.t 24) = some (TypeDesc.slice (ρ.t 9))
  a24 : ∀ w, (Go.isAgg (ρ.t 24)).run P w = .ok false w
  z24 : ∀ w, (Go.sizeOf (ρ.t 24)).run P w = .ok 1 w
  v24 : ∀ w, (zeroValue (ρ.t 24)).run P w = .ok (Value.slice none 0 0) w
  i9 : (P.info? (ρ.t 9)).map (fun i => (i.zero, i.size, i.bytes)) = some (some zv, 1, by_)
  c9 : zv.cells = #[zv]
  u9 : d ≠ .int .u8

section
variable {d : TypeDesc} {zv : Value} {by_ : Nat}

set_option maxHeartbeats 4000000 in
set_option maxRecDepth 100000 in
/-- one more within, and there is room: what stands from there on goes one place up -/
theorem ins_up (L : InsL P ρ d zv by_) (b off n c i vb vo vc : Nat) (cs : List Value) (x : Value) (w : World) (hi : i < n) (hroom : n + 1 ≤ c) (hn63 : n + 1 ≤ 9223372036854775807) (hvb : vb ≠ b) (hcl : cs.length = n)
    (hcs : ∀ j v, cs[j]? = some v → w.cell? ⟨b, off + j, none⟩ = some v) (hsp : ∀ j, j < n + 1 → (w.cell? ⟨b, off + j, none⟩).isSome = true) (hfz : ∀ j, j < n + 1 → w.frozen? ⟨b, off + j, none⟩ = false)
    (hx : w.cell? ⟨vb, vo, none⟩ = some x) (h1c : ∀ v ∈ cs, v.oneCell' = true) (h1x : x.oneCell' = true)
    (tA tB : TypeId) (kA kB : Nat) (hsa : w.shape? vb = some (tA, kA)) (hsb : w.shape? b = some (tB, kB)) (hkB : kB ≠ 0) (hfa : w.frozen? ⟨vb, vo, none⟩ = false) (hfe : w.frozen? ⟨vb, kA, none⟩ = false) :
    Calls P (ρ.f 22) #[.slice (some ⟨b, off, none⟩) n c, .int .i64 i, .slice (some ⟨vb, vo, none⟩) 1 vc] w fun e w' =>
      e = .returned (.slice (some ⟨b, off, none⟩) (n + 1) c) ∧ w' = (w.drew.setCells b (off + (i + 1)) (cs.drop i)).setCells b (off + i) [x] := by
  have t0 := L.t0; have a0 := L.a0; have z0 := L.z0; have v0 := L.v0; have t3 := L.t3; have a3 := L.a3; have z3 := L.z3; have v3 := L.v3; have t4 := L.t4; have a4 := L.a4; have z4 := L.z4; have v4 := L.v4
  have t9 := L.t9; have a9 := L.a9; have z9 := L.z9; have v9 := L.v9; have t24 := L.t24; have a24 := L.a24; have z24 := L.z24; have v24 := L.v24
  have u0 := run_underlying L.t0; have u3 := run_underlying L.t3; have u4 := run_underlying L.t4; have u9 := run_underlying L.t9; have u24 := run_underlying L.t24
  have mixed := L.mixed
  have hsz : (P.info? (ρ.t 9)).map (·.size) = some 1 := by
    obtain ⟨i0, hi0, _, h1, _⟩ := info_parts L.i9
    rw [hi0]; simp [h1]
  have hov : ∀ lb cb, (callFunc (ρ.f 29) #[.slice (some ⟨vb, vo, none⟩) 1 vc, .slice (some ⟨b, off + (i + 1), none⟩) lb cb]).run P w = .ok (.value (.bool false)) w := fun lb cb => by
    obtain ⟨fo, o1, o2, o3, o4, o5⟩ := L.fo
    rw [run_callFunc_extern o1 o2 o3 o4 o5,
      Lib.run_overlaps_apart w (ρ.t 24) (ρ.t 4) (ρ.t 9) L.t24 1 L.z9 ⟨vb, vo, none⟩ ⟨b, off + (i + 1), none⟩ 1 vc lb cb hvb tA tB kA kB hsa hsb hkB hfa hfe]
    rfl
  have hne : ¬ ((i : Int) = (n : Int)) := by omega
  have hdl : (cs.drop i).length = n - i := by rw [List.length_drop, hcl]
  have hwn : IntKind.i64.wrap ((n : Int) + 1) = (n : Int) + 1 := by rw [IntKind.wrap_i64]; omega
  have hw1 : IntKind.i64.wrap ((i : Int) + 1) = (i : Int) + 1 := by rw [IntKind.wrap_i64]; omega
  have hb1 : (0 : Int) ≤ (i : Int) + 1 := by omega
  have hin : i ≤ n := by omega
  have htn : ((i : Int) + 1).toNat = i + 1 := by omega
  have htm : ((n : Int) + 1).toNat = n + 1 := by omega
  have hb2 : ¬ (c = i + 1) := by omega
  have hb3 : (i : Int) ≤ (n : Int) + 1 := by omega
  have hb4 : ¬ (c = i) := by omega
  have hnc : ¬ ((c : Int) < (n : Int) + 1) := by omega
  have hcp1 : ∀ ty dc sc, (Builtin.copy_ #[(ρ.t 24), (ρ.t 24)] ty #[.slice (some ⟨b, off + (i + 1), none⟩) (n - i) dc, .slice (some ⟨b, off + i, none⟩) (n + 1 - i) sc]).run P w.drew = .ok (goInt (cs.drop i).length) (w.drew.setCells b (off + (i + 1)) (cs.drop i)) := fun ty dc sc =>
    run_copy_cells w.drew _ _ ty (ρ.t 9) b (off + (i + 1)) (n - i) dc ⟨b, off + i, none⟩ (n + 1 - i) sc (cs.drop i) L.t24 hsz (by rw [hdl]; simp only [Nat.min_def]; split <;> omega)
      (fun j v hj => by rw [Addr.add_lit, Nat.add_assoc]; exact hcs (i + j) v (by rwa [List.getElem?_drop] at hj))
      (fun j hj => by rw [Nat.add_assoc]; exact hsp _ (by omega)) (fun j hj => by rw [Nat.add_assoc]; exact hfz _ (by omega)) (fun v hv => h1c v (List.mem_of_mem_drop hv))
  obtain ⟨W1, hW1⟩ : ∃ W1, W1 = w.drew.setCells b (off + (i + 1)) (cs.drop i) := ⟨_, rfl⟩
  have hcp2 : ∀ (W : World), (∀ a, W.cell? a = W1.cell? a) → (∀ a, W.frozen? a = W1.frozen? a) → ∀ ty dc, (Builtin.copy_ #[(ρ.t 24), (ρ.t 24)] ty #[.slice (some ⟨b, off + i, none⟩) (n + 1 - i) dc, .slice (some ⟨vb, vo, none⟩) 1 vc]).run P W = .ok (goInt 1) (W.setCells b (off + i) [x]) := fun W hWc hWf ty dc =>
    run_copy_cells W _ _ ty (ρ.t 9) b (off + i) (n + 1 - i) dc ⟨vb, vo, none⟩ 1 vc [x] L.t24 hsz (by simp only [Nat.min_def, List.length_cons, List.length_nil]; split <;> omega)
      (fun j v hj => by
        cases j with
        | zero =>
          simp at hj; subst hj
          rw [Addr.add_lit, hWc, hW1, World.cell?_setCells_out b _ _ _ _ (fun h _ => absurd h hvb)]
          exact hx
        | succ j => simp at hj)
      (fun j hj => by
        rw [hWc, hW1, Nat.add_assoc]
        exact isSome_setCells b _ _ _ (fun k hk => by rw [Nat.add_assoc]; exact hsp _ (by omega)) _ (hsp _ (by simp at hj; omega)))
      (fun j hj => by rw [hWf, hW1, World.frozen?_setCells, Nat.add_assoc]; exact hfz _ (by simp at hj; omega)) (fun v hv => by simp at hv; subst hv; exact h1x)
  rw [← hW1] at hcp1
  obtain ⟨nm, f22, _⟩ := L.fn
  go_enter f22, ins22_ntmps ρ nm
  go_wp2_with (simp only [hov])
  go_region_law_o (refine step_copy_runI rfl _ _ (ρ.t 24) (ρ.t 24) rfl _ _ (by simp [Act.eval, Act.put]) (by simp [Act.eval, Act.put]) (hcp1 _ _ _) ?_)
  go_wp2_with (at_builtin; refine wpList_copy_runI _ rfl _ _ (ρ.t 24) (ρ.t 24) rfl _ _ rfl rfl (hcp2 _ (fun _ => rfl) (fun _ => rfl) _ _) ?_)
  go_ret
  first | exact ⟨rfl, rfl⟩ | exact ⟨rfl, by rw [hW1]⟩

set_option maxHeartbeats 4000000 in
set_option maxRecDepth 100000 in
/-- one more at the end, and there is room -/
theorem ins_end (L : InsL P ρ d zv by_) (b off n c vb vo vc : Nat) (x : Value) (w : World) (hroom : n + 1 ≤ c) (hsp : (w.cell? ⟨b, off + n, none⟩).isSome = true) (hfz : w.frozen? ⟨b, off + n, none⟩ = false)
    (hx : w.cell? ⟨vb, vo, none⟩ = some x) (h1x : x.oneCell' = true) :
    Calls P (ρ.f 22) #[.slice (some ⟨b, off, none⟩) n c, .int .i64 n, .slice (some ⟨vb, vo, none⟩) 1 vc] w fun e w' =>
      e = .returned (.slice (some ⟨b, off, none⟩) (n + 1) c) ∧ w' = w.setCells b (off + n) [x] := by
  have t0 := L.t0; have a0 := L.a0; have z0 := L.z0; have v0 := L.v0; have t3 := L.t3; have a3 := L.a3; have z3 := L.z3; have v3 := L.v3; have t4 := L.t4; have a4 := L.a4; have z4 := L.z4; have v4 := L.v4
  have t9 := L.t9; have a9 := L.a9; have z9 := L.z9; have v9 := L.v9; have t24 := L.t24; have a24 := L.a24; have z24 := L.z24; have v24 := L.v24
  have u0 := run_underlying L.t0; have u3 := run_underlying L.t3; have u4 := run_underlying L.t4; have u9 := run_underlying L.t9; have u24 := run_underlying L.t24
  have mixed := L.mixed
  have hsrc : Src P 1 (ρ.t 24) (.slice (some ⟨vb, vo, none⟩) 1 vc) 1 [x] w := Src.ofSlice w L.t24 ⟨vb, vo, none⟩ 1 vc [x] rfl (fun j u hj => by
    cases j with
    | zero => simp at hj; subst hj; rw [Addr.add_lit]; exact hx
    | succ j => simp at hj) (fun v hv => by simp at hv; subst hv; exact h1x)
  obtain ⟨nm, f22, _⟩ := L.fn
  go_enter f22, ins22_ntmps ρ nm
  go_wp2_with (at_builtin; refine wpList_append_room1 _ rfl _ _ (ρ.t 24) (ρ.t 24) rfl (ρ.t 9) _ _ L.t24 L.i9 b off n c rfl _ rfl 1 [x] hsrc hroom (fun j hj => by simp at hj; subst hj; exact hsp) (fun j hj => by simp at hj; subst hj; exact hfz) ?_)
  go_ret
  exact ⟨rfl, rfl⟩

set_option maxHeartbeats 4000000 in
set_option maxRecDepth 100000 in
/-- one more at the end, and there is no room: a new row -/
theorem ins_end_new (L : InsL P ρ d zv by_) (base : Option Addr) (n c vb vo vc : Nat) (cs : List Value) (x : Value) (w : World) (hnc : n ≤ c) (hroom : c < n + 1) (hbig : (n + 1) * by_ ≤ 140737488355328) (hbig2 : n + 1 ≤ 140737488355328)
    (hcl : cs.length = n) (hnil : base = none → n = 0) (hcs : ∀ a, base = some a → ∀ j v, cs[j]? = some v → w.cell? (a.add j) = some v) (hx : w.cell? ⟨vb, vo, none⟩ = some x) (h1x : x.oneCell' = true) :
    Calls P (ρ.f 22) #[.slice base n c, .int .i64 n, .slice (some ⟨vb, vo, none⟩) 1 vc] w fun e w' =>
      e = .returned (.slice (some ⟨w.heap.size, 0, none⟩) (n + 1) (grownCap w (n + 1) c (ρ.t 9))) ∧
      w' = w.drew.alloc (.cells ((cs ++ [x]).toArray ++ Builtin.zeroCells #[zv] (grownCap w (n + 1) c (ρ.t 9) - (n + 1))) (ρ.t 9)) := by
  have t0 := L.t0; have a0 := L.a0; have z0 := L.z0; have v0 := L.v0; have t3 := L.t3; have a3 := L.a3; have z3 := L.z3; have v3 := L.v3; have t4 := L.t4; have a4 := L.a4; have z4 := L.z4; have v4 := L.v4
  have t9 := L.t9; have a9 := L.a9; have z9 := L.z9; have v9 := L.v9; have t24 := L.t24; have a24 := L.a24; have z24 := L.z24; have v24 := L.v24
  have u0 := run_underlying L.t0; have u3 := run_underlying L.t3; have u4 := run_underlying L.t4; have u9 := run_underlying L.t9; have u24 := run_underlying L.t24
  have mixed := L.mixed
  obtain ⟨i0, hi0, hz0, hzs, hzb⟩ := info_parts L.i9
  have hsrc : Src P i0.size (ρ.t 24) (.slice (some ⟨vb, vo, none⟩) 1 vc) 1 [x] w := by
    rw [hzs]
    exact Src.ofSlice w L.t24 ⟨vb, vo, none⟩ 1 vc [x] rfl (fun j u hj => by
      cases j with
      | zero => simp at hj; subst hj; rw [Addr.add_lit]; exact hx
      | succ j => simp at hj) (fun v hv => by simp at hv; subst hv; exact h1x)
  have hold : (Builtin.firstCells i0.size n (.slice base n c)).run P w.drew = .ok cs.toArray w.drew := by
    rw [hzs]
    cases base with
    | none =>
      have h0 := hnil rfl
      subst h0
      rw [List.length_eq_zero_iff.1 hcl]
      exact run_firstCells_none w.drew 1 0 0 c
    | some a => exact run_firstCells_some w.drew 1 n a n c cs (by omega) (fun j v hj => hcs a rfl j v hj)
  have hrun : ∀ ty, (Builtin.append_ #[(ρ.t 24), (ρ.t 24)] ty #[.slice base n c, .slice (some ⟨vb, vo, none⟩) 1 vc]).run P w = _ := fun ty =>
    run_append_grow_src w (ρ.t 24) (ρ.t 24) ty (ρ.t 9) i0 _ L.t24 hi0 hz0 base n c cs hold _ 1 [x] hsrc hroom (by omega) (by rw [hzb]; exact growslice_fits hroom hbig)
  simp only [L.c9] at hrun
  obtain ⟨nm, f22, _⟩ := L.fn
  go_enter f22, ins22_ntmps ρ nm
  cases base with
  | none =>
    have h0 := hnil rfl
    subst h0
    go_wp2_with (at_builtin; refine Lib.wpList_append_run _ rfl _ _ _ _ rfl _ _ rfl rfl _ _ (hrun _) ?_)
    go_ret
    exact ⟨rfl, rfl⟩
  | some a =>
    obtain ⟨ab, ao, asp⟩ := a
    go_wp2_with (at_builtin; refine Lib.wpList_append_run _ rfl _ _ _ _ rfl _ _ rfl rfl _ _ (hrun _) ?_)
    all_goals (go_ret; exact ⟨rfl, rfl⟩)

set_option maxHeartbeats 4000000 in
set_option maxRecDepth 100000 in
/-- one more within, and there is no room: a new row -/
theorem ins_new (L : InsL P ρ d zv by_) (b off n c i vb vo vc : Nat) (cs : List Value) (x : Value) (w : World) (hi : i < n) (hnc : n ≤ c) (hroom : c < n + 1) (hbig : (n + 1) * by_ ≤ 140737488355328) (hbig2 : n + 1 ≤ 140737488355328)
    (hcl : cs.length = n) (hcs : ∀ j v, cs[j]? = some v → w.cell? ⟨b, off + j, none⟩ = some v) (hx : w.cell? ⟨vb, vo, none⟩ = some x) (h1c : ∀ v ∈ cs, v.oneCell' = true) (h1x : x.oneCell' = true) :
    Calls P (ρ.f 22) #[.slice (some ⟨b, off, none⟩) n c, .int .i64 i, .slice (some ⟨vb, vo, none⟩) 1 vc] w fun e w' =>
      e = .returned (.slice (some ⟨w.heap.size, 0, none⟩) (n + 1) (grownCap w (n + 1) c (ρ.t 9))) ∧
      w' = (((w.alloc (.cells ((cs.take i).toArray ++ Builtin.zeroCells #[zv] (n + 1 - i) ++ Builtin.zeroCells #[zv] (grownCap w (n + 1) c (ρ.t 9) - (n + 1))) (ρ.t 9))).drew.setCells w.heap.size i [x]).drew).setCells w.heap.size (i + 1) (cs.drop i) := by
  have t0 := L.t0; have a0 := L.a0; have z0 := L.z0; have v0 := L.v0; have t3 := L.t3; have a3 := L.a3; have z3 := L.z3; have v3 := L.v3; have t4 := L.t4; have a4 := L.a4; have z4 := L.z4; have v4 := L.v4
  have t9 := L.t9; have a9 := L.a9; have z9 := L.z9; have v9 := L.v9; have t24 := L.t24; have a24 := L.a24; have z24 := L.z24; have v24 := L.v24
  have u0 := run_underlying L.t0; have u3 := run_underlying L.t3; have u4 := run_underlying L.t4; have u9 := run_underlying L.t9; have u24 := run_underlying L.t24
  have mixed := L.mixed
  obtain ⟨i0, hi0, hz0, hzs, hzb⟩ := info_parts L.i9
  have hne : ¬ ((i : Int) = (n : Int)) := by omega
  have hz3 : (c : Int) < (n : Int) + 1 := by omega
  have hsz : (P.info? (ρ.t 9)).map (·.size) = some 1 := by rw [hi0]; simp [hzs]
  have hbw : b < w.heap.size := block_lt_of_cell (hcs 0 _ (List.getElem?_eq_getElem (by omega)))
  have hvw : vb < w.heap.size := block_lt_of_cell hx
  have hkk : (n : Int) + 1 - (i : Int) = ((n + 1 - i : Nat) : Int) := by omega
  have hik : i + (n + 1 - i) = n + 1 := by omega
  have hold : (Builtin.firstCells i0.size i (.slice (some ⟨b, off, none⟩) i c)).run P w.drew = .ok (cs.take i).toArray w.drew := by
    rw [hzs]
    exact run_firstCells_some w.drew 1 i ⟨b, off, none⟩ i c (cs.take i) (by rw [List.length_take]; omega) (fun j v hj => by
      rw [Addr.add_lit]
      rw [List.getElem?_take] at hj
      split at hj
      · exact hcs j v hj
      · cases hj)
  have hrz : ∀ ty, (Builtin.append_ #[(ρ.t 24), (ρ.t 3)] ty #[.slice (some ⟨b, off, none⟩) i c, .int .i64 ((n : Int) + 1 - (i : Int))]).run P w =
      .ok (.slice (some ⟨w.heap.size, 0, none⟩) (n + 1) (grownCap w (n + 1) c (ρ.t 9))) (w.drew.alloc (.cells ((cs.take i).toArray ++ Builtin.zeroCells #[zv] (n + 1 - i) ++ Builtin.zeroCells #[zv] (grownCap w (n + 1) c (ρ.t 9) - (n + 1))) (ρ.t 9))) := fun ty => by
    have h := Lib.run_append_grow_zeros w (ρ.t 24) (ρ.t 3) ty (ρ.t 9) i0 _ .i64 .i64 L.t24 L.t3 hi0 hz0 (some ⟨b, off, none⟩) i c (cs.take i) hold (n + 1 - i) (by omega) (by omega) (by omega) (by omega) (by rw [hzb]; exact Nat.le_trans (Nat.mul_le_mul_right _ (by omega : n + 1 - i ≤ n + 1)) (by omega)) (by rw [hzb, hik]; exact growslice_fits hroom hbig)
    rw [hik, L.c9] at h
    rw [hkk]
    exact h
  obtain ⟨G, hG⟩ : ∃ G, G = grownCap w (n + 1) c (ρ.t 9) := ⟨_, rfl⟩
  obtain ⟨R, hR⟩ : ∃ R : Array Value, R = (cs.take i).toArray ++ Builtin.zeroCells #[zv] (n + 1 - i) ++ Builtin.zeroCells #[zv] (G - (n + 1)) := ⟨_, rfl⟩
  rw [← hG] at hrz ⊢
  rw [← hR] at hrz ⊢
  have hRl : n + 1 ≤ R.size := by
    rw [hR]
    simp [Builtin.zeroCells]
    omega
  obtain ⟨W1, hW1⟩ : ∃ W1, W1 = w.drew.alloc (.cells R (ρ.t 9)) := ⟨_, rfl⟩
  rw [← hW1] at hrz
  have hN : ∀ j, j < n + 1 → (W1.cell? ⟨w.heap.size, j, none⟩).isSome = true := fun j hj => by
    rw [hW1, World.cell?_alloc_at (w := w.drew) R _ w.heap.size j rfl, Array.getElem?_eq_getElem (by omega)]; rfl
  have hNf : ∀ j, W1.frozen? ⟨w.heap.size, j, none⟩ = false := fun j => by rw [hW1]; exact World.frozen?_alloc_at (w := w.drew) R _ w.heap.size j rfl
  have hOb : ∀ j v, w.cell? ⟨b, j, none⟩ = some v → W1.cell? ⟨b, j, none⟩ = some v := fun j v h => by rw [hW1, World.cell?_alloc_past (w := w.drew) _ b j hbw]; exact h
  have hOv : W1.cell? ⟨vb, vo, none⟩ = some x := by rw [hW1, World.cell?_alloc_past (w := w.drew) _ vb vo hvw]; exact hx
  have hcpA : ∀ (W : World), (∀ a, W.cell? a = W1.cell? a) → (∀ a, W.frozen? a = W1.frozen? a) → ∀ ty dc, (Builtin.copy_ #[(ρ.t 24), (ρ.t 24)] ty #[.slice (some ⟨w.heap.size, i, none⟩) (n + 1 - i) dc, .slice (some ⟨vb, vo, none⟩) 1 vc]).run P W = .ok (goInt 1) (W.setCells w.heap.size i [x]) := fun W hWc hWf ty dc =>
    run_copy_cells W _ _ ty (ρ.t 9) w.heap.size i (n + 1 - i) dc ⟨vb, vo, none⟩ 1 vc [x] L.t24 hsz (by simp only [Nat.min_def, List.length_cons, List.length_nil]; split <;> omega)
      (fun j v hj => by
        cases j with
        | zero => simp at hj; subst hj; rw [Addr.add_lit, hWc]; exact hOv
        | succ j => simp at hj)
      (fun j hj => by rw [hWc]; exact hN _ (by simp at hj; omega)) (fun j hj => by rw [hWf]; exact hNf _) (fun v hv => by simp at hv; subst hv; exact h1x)
  have hGn : n + 1 ≤ G := by rw [hG]; exact grownCap_ge w _ _ _
  have hG63 : G ≤ 9223372036854775807 := by
    have := grownCap_le_maxLen w (n + 1) c (ρ.t 9) (by unfold maxLen; omega)
    rw [← hG] at this
    unfold maxLen at this
    omega
  have hGi : ¬ (G = i) := by omega
  have hGim : ¬ (G = i + 1) := by omega
  have hci : ¬ (c = i) := by omega
  have hbN : b ≠ w.heap.size := by omega
  have hdl : (cs.drop i).length = n - i := by rw [List.length_drop, hcl]
  have hcpB : ∀ (W : World), (∀ a, W.cell? a = (W1.setCells w.heap.size i [x]).cell? a) → (∀ a, W.frozen? a = (W1.setCells w.heap.size i [x]).frozen? a) → ∀ ty dc sc, (Builtin.copy_ #[(ρ.t 24), (ρ.t 24)] ty #[.slice (some ⟨w.heap.size, i + 1, none⟩) (n - i) dc, .slice (some ⟨b, off + i, none⟩) (n - i) sc]).run P W = .ok (goInt (cs.drop i).length) (W.setCells w.heap.size (i + 1) (cs.drop i)) := fun W hWc hWf ty dc sc =>
    run_copy_cells W _ _ ty (ρ.t 9) w.heap.size (i + 1) (n - i) dc ⟨b, off + i, none⟩ (n - i) sc (cs.drop i) L.t24 hsz (by rw [hdl]; simp only [Nat.min_def]; split <;> omega)
      (fun j v hj => by
        rw [Addr.add_lit, hWc, World.cell?_setCells_out _ _ _ _ _ (fun h _ => absurd h hbN), Nat.add_assoc]
        exact hOb _ v (hcs (i + j) v (by rwa [List.getElem?_drop] at hj)))
      (fun j hj => by rw [hWc]; exact isSome_setCells _ _ _ _ (fun t ht => hN _ (by simp at ht; omega)) _ (hN _ (by omega)))
      (fun j hj => by rw [hWf, World.frozen?_setCells]; exact hNf _) (fun v hv => h1c v (List.mem_of_mem_drop hv))
  subst hW1
  have hE1 : ∀ a, ((w.alloc (.cells R (ρ.t 9))).drew).cell? a = (w.drew.alloc (.cells R (ρ.t 9))).cell? a := fun a => rfl
  have hE2 : ∀ a, ((w.alloc (.cells R (ρ.t 9))).drew).frozen? a = (w.drew.alloc (.cells R (ρ.t 9))).frozen? a := fun a => rfl
  have hF1 : ∀ a, (((w.alloc (.cells R (ρ.t 9))).drew.setCells w.heap.size i [x]).drew).cell? a = ((w.drew.alloc (.cells R (ρ.t 9))).setCells w.heap.size i [x]).cell? a := fun a => rfl
  have hF2 : ∀ a, (((w.alloc (.cells R (ρ.t 9))).drew.setCells w.heap.size i [x]).drew).frozen? a = ((w.drew.alloc (.cells R (ρ.t 9))).setCells w.heap.size i [x]).frozen? a := fun a => rfl
  have hwn : IntKind.i64.wrap ((n : Int) + 1) = (n : Int) + 1 := by rw [IntKind.wrap_i64]; omega
  have hw2 : IntKind.i64.wrap ((n : Int) + 1 - (i : Int)) = (n : Int) + 1 - (i : Int) := by rw [IntKind.wrap_i64]; omega
  have hw1 : IntKind.i64.wrap ((i : Int) + 1) = (i : Int) + 1 := by rw [IntKind.wrap_i64]; omega
  have hb1 : (0 : Int) ≤ (i : Int) + 1 := by omega
  have hin : i ≤ n := by omega
  have htn : ((i : Int) + 1).toNat = i + 1 := by omega
  have hb3 : (i : Int) ≤ (n : Int) := by omega
  clear hkk hik hold hR hG hRl
  obtain ⟨nm, f22, _⟩ := L.fn
  go_enter f22, ins22_ntmps ρ nm
  go_wp2_with (first
    | (at_builtin; refine Lib.wpList_append_run _ rfl _ _ _ _ rfl _ _ rfl rfl _ _ (hrz _) ?_)
    | (at_builtin; refine wpList_copy_runI _ rfl _ _ (ρ.t 24) (ρ.t 24) rfl _ _ rfl rfl (hcpA _ hE1 hE2 _ _) ?_)
    | (at_builtin; refine wpList_copy_runI _ rfl _ _ (ρ.t 24) (ρ.t 24) rfl _ _ rfl rfl (hcpB _ (fun _ => rfl) (fun _ => rfl) _ _ _) ?_))
  go_region_law_o (refine step_copy_runI rfl _ _ (ρ.t 24) (ρ.t 24) rfl (.slice (some ⟨w.heap.size, i + 1, none⟩) (n - i) (G - (i + 1))) (.slice (some ⟨b, off + i, none⟩) (n - i) (c - i)) (by simp [Act.eval, Act.put]) (by simp [Act.eval, Act.put]) (hcpB _ hF1 hF2 (ρ.t 3) (G - (i + 1)) (c - i)) ?_)
  go_wp2
  go_ret
  exact ⟨rfl, rfl⟩

end
end Go.Fold

set_option linter.all false
namespace Go.Fold
open Go.Shelf Go.RowKit
variable {P : Program} {ρ : Ren} {d : TypeDesc} {zv : Value} {by_ : Nat}

/-- slices.Insert of one thing of one cell: wherever it was, it is new memory, and the old is let go -/
def insertH (e : TypeId) (by_ : Nat) (args : List AV) (A : AH) : Option (AV × AH) :=
  match args with
  | [.slice base n cap, .int .i64 (.ofNat i), .slice (some (b2, o2)) 1 (some k2)] =>
    match A.get b2 with
    | some (.cells c2 e2 false) => match c2[o2]? with
      | some x =>
        bif e2.beq e && x.oneCell && Nat.ble ((n + 1) * by_) 140737488355328 && Nat.ble (n + 1) 140737488355328 && Nat.ble i n then
          match base, cap with
          | none, some 0 => bif n.beq 0 then some (.slice (some (A.next, 0)) 1 none, A.new (.cells [x] e false)) else none
          | some (b, o), none => match A.get b with
            | some (.cells c e1 false) => match sub c o n with
              | some cs => bif e1.beq e && allOne cs && !(b.beq b2) then
                  some (.slice (some (A.next, 0)) (n + 1) none, (A.put b .dead).new (.cells (cs.take i ++ x :: cs.drop i) e false)) else none
              | none => none
            | _ => none
          | _, _ => none
        else none
      | none => none
    | _ => none
  | _ => none

theorem list_set {α : Type} (l vs : List α) (o : Nat) (v : α) (h : o < l.length) : (l.set o v).take (o + 1) ++ vs ++ (l.set o v).drop (o + 1 + vs.length) = l.take o ++ (v :: vs) ++ l.drop (o + (v :: vs).length) := by
  have e1 : (l.set o v).take (o + 1) = l.take o ++ [v] := by
    rw [List.take_succ, List.take_set_of_le (Nat.le_refl o), List.getElem?_set_self h]; rfl
  have e2 : (l.set o v).drop (o + 1 + vs.length) = l.drop (o + (v :: vs).length) := by
    rw [List.drop_set_of_lt (by omega)]
    congr 1
    simp only [List.length_cons]; omega
  rw [e1, e2]
  simp

theorem setCells_eq (b : Nat) (e : TypeId) (fr : Nat × Nat) : ∀ (vs : List Value) (o : Nat) (w : World) (cs : Array Value), w.heap[b]? = some (.cells cs e fr) → o + vs.length ≤ cs.size →
    ∃ cs' : Array Value, cs'.toList = cs.toList.take o ++ vs ++ cs.toList.drop (o + vs.length) ∧ (w.setCells b o vs).heap = w.heap.setIfInBounds b (.cells cs' e fr) ∧
      (w.setCells b o vs).os = w.os ∧ (w.setCells b o vs).tape = w.tape ∧ (w.setCells b o vs).output = w.output
  | [], o, w, cs, h, _ => ⟨cs, by simp, by
      have hb := (Array.getElem?_eq_some_iff.1 h).1
      have hv := (Array.getElem?_eq_some_iff.1 h).2
      show w.heap = _
      apply Array.ext_getElem?
      intro j
      rw [Array.getElem?_setIfInBounds]
      by_cases hj : b = j
      · subst hj; rw [if_pos rfl, if_pos hb, h]
      · rw [if_neg hj], rfl, rfl, rfl⟩
  | v :: vs, o, w, cs, h, hle => by
    simp only [List.length_cons] at hle
    have hb := (Array.getElem?_eq_some_iff.1 h).1
    have h1 : (w.setCell ⟨b, o, none⟩ v).heap = w.heap.setIfInBounds b (.cells (cs.setIfInBounds o v) e fr) := by
      simp only [World.setCell]
      apply Array.ext_getElem?
      intro j
      rw [Array.getElem?_modify, Array.getElem?_setIfInBounds]
      by_cases hj : b = j
      · subst hj
        rw [if_pos rfl, if_pos rfl, if_pos hb, h]; rfl
      · rw [if_neg hj, if_neg hj]
    have h2 : (w.setCell ⟨b, o, none⟩ v).heap[b]? = some (.cells (cs.setIfInBounds o v) e fr) := by rw [h1]; simp [hb]
    obtain ⟨cs', k1, k2, k3, k4, k5⟩ := setCells_eq b e fr vs (o + 1) _ _ h2 (by simp; omega)
    refine ⟨cs', ?_, ?_, k3, k4, k5⟩
    · rw [k1, Array.toList_setIfInBounds]
      exact list_set cs.toList vs o v (by simp; omega)
    · show ((w.setCell ⟨b, o, none⟩ v).setCells b (o + 1) vs).heap = _
      rw [k2, h1]
      apply Array.ext_getElem?
      intro j
      simp only [Array.getElem?_setIfInBounds, Array.size_setIfInBounds]
      by_cases hj : b = j <;> simp [hj]

theorem callOk_of_calls {f : FuncId} {fd : Func} {args : Array Value} {w w' : World} {u : Value} (hf : P.funcs[f]? = some fd) (hn : (fd.name == "runtime.NumGoroutine") = false) (hb : fd.body.isSome = true)
    (h : Calls P f args w (fun e w'' => e = .returned u ∧ w'' = w')) : CallOk P f args w u w' := by
  obtain ⟨body, hbody⟩ := Option.isSome_iff_exists.1 hb
  have hn' : ¬ fd.name = "runtime.NumGoroutine" := by simpa using hn
  exact .inr ⟨by simp [callFunc, hf, hn', hbody, Result.andThen], enters_of_calls h⟩

theorem three_args {m : Map} {a b c : AV} {args : Array Value} (h : LR m [a, b, c] args.toList) : ∃ x y z, args = #[x, y, z] ∧ VR m a x ∧ VR m b y ∧ VR m c z := by
  simp only [LR] at h
  obtain ⟨x, l, he, hx, y, l2, rfl, hy, z, l3, rfl, hz, rfl⟩ := h
  exact ⟨x, y, z, by cases args; simp_all, hx, hy, hz⟩

theorem notFrozen? {w : World} {b : Nat} {cs : Array Value} {e : TypeId} {fr : Nat × Nat} (h : w.heap[b]? = some (.cells cs e fr)) (hfr : fr.1 = fr.2) (o : Nat) : w.frozen? ⟨b, o, none⟩ = false := by
  obtain ⟨lo, hi⟩ := fr
  simp only at hfr
  subst hfr
  simp only [World.frozen?, h]
  by_cases h1 : lo ≤ o
  · have : ¬ o < lo := by omega
    simp [this]
  · simp [h1]

theorem insertH_ok (L : InsL P ρ d zv by_) {args : List AV} {A : AH} {v : AV} {A' : AH} (h : insertH (ρ.t 9) by_ args A = some (v, A')) : CallSpec P (ρ.f 22) args A v A' := by
  have hsz1 : P.cellsOf (ρ.t 9) = 1 := by
    obtain ⟨i0, hi0, _, h1, _⟩ := info_parts L.i9
    simp [Program.cellsOf, hi0, h1]
  obtain ⟨nm, f22, hname⟩ := L.fn
  have hbody : (ins22 ρ nm).body.isSome = true := by kernel_rfl
  unfold insertH at h
  split at h
  rotate_left
  · cases h
  rename_i base n cap i b2 o2 k2
  split at h
  rotate_left
  · cases h
  rename_i c2 e2 hg2
  split at h
  rotate_left
  · cases h
  rename_i x hx
  cases hcond : (e2.beq (ρ.t 9) && x.oneCell && Nat.ble ((n + 1) * by_) 140737488355328 && Nat.ble (n + 1) 140737488355328 && Nat.ble i n) with
  | false => simp [hcond] at h
  | true =>
  simp only [hcond, cond_true] at h
  simp only [Bool.and_eq_true] at hcond
  obtain ⟨⟨⟨⟨he2, h1x⟩, hbig⟩, hbig2⟩, hin⟩ := hcond
  have he2' : e2 = ρ.t 9 := Nat.eq_of_beq_eq_true he2
  subst he2'
  have hbig := of_nble hbig
  have hbig2 := of_nble hbig2
  have hin := of_nble hin
  intro m w args' hA hl
  obtain ⟨s', i', v', rfl, hs, hi', hv⟩ := three_args hl
  cases hi'.int_inv
  simp only [VR] at hv
  obtain ⟨p2, rfl, hk2, hp2⟩ := hv
  rcases hp2 with hp2 | ⟨z, hz, rfl⟩
  · omega
  obtain ⟨csz, ez, frz, hhz, hfez, htz, hsz, hlez, hlrz, hfrz⟩ := hA.cells hz hg2
  obtain ⟨rfl, _, _⟩ := hfez rfl
  have hfrz' : frz.1 = frz.2 := by
    rcases hfrz rfl with h | ⟨_, h⟩
    · exact h
    · rw [L.t9] at h; exact absurd (Option.some.inj h) L.u9
  obtain ⟨u, hu, hxu⟩ := hlrz.get? o2 x hx
  have ho2 : o2 < c2.length := (List.getElem?_eq_some_iff.1 hx).1
  have hcellx : w.cell? ⟨z.blk, z.sh + o2, none⟩ = some u := by
    rw [cell?_cells hhz]
    rw [List.getElem?_take_of_lt ho2, List.getElem?_drop] at hu
    simpa using hu
  have h1u := hxu.oneCell h1x
  split at h
  · -- nothing was there
    cases hn0 : n.beq 0 with
    | false => simp [hn0] at h
    | true =>
    simp only [hn0, cond_true, Option.some.injEq, Prod.mk.injEq] at h
    obtain ⟨rfl, rfl⟩ := h
    have hn0' : n = 0 := Nat.eq_of_beq_eq_true hn0
    subst hn0'
    obtain rfl : i = 0 := by omega
    obtain ⟨rfl, _⟩ := slice_none_inv hs
    have hc := ins_end_new L none 0 0 z.blk (z.sh + o2) k2 [] u w (Nat.le_refl _) (by omega) hbig hbig2 rfl (fun _ => rfl) (fun a ha => by cases ha) hcellx h1u
    have hd := Sim.drew hA (w.drawn + 1)
    have hge := grownCap_ge w 1 0 (ρ.t 9)
    have h3 := sim_newCells hd.agree [x] (([] ++ [u]).toArray ++ Builtin.zeroCells #[zv] (grownCap w 1 0 (ρ.t 9) - 1)) (ρ.t 9) (by
      simp only [List.nil_append, Array.toList_append, List.length_singleton]
      exact LR.cons hxu .nil) (by simp) (by rw [hsz1]; exact ⟨_, (Nat.one_mul _).symm⟩)
    refine ⟨_, _, _, callOk_of_calls f22 hname hbody hc, ?_, (Sim.trans hA hd h3)⟩
    simp only [VR]
    refine ⟨_, _, _, Map.plus_same _ _ _, rfl, ?_, hge, .inr rfl⟩
    simp only [List.nil_append, hsz1, Nat.zero_add, Nat.mul_one, Array.size_append]
    simp [Builtin.zeroCells]; omega
  · -- a slice that goes to the end of its memory
    rename_i b o
    split at h
    rotate_left
    · cases h
    rename_i c e1 hg
    split at h
    rotate_left
    · cases h
    rename_i cs hsub
    cases hcond : (e1.beq (ρ.t 9) && allOne cs && !(b.beq b2)) with
    | false => simp [hcond] at h
    | true =>
    simp only [hcond, cond_true, Option.some.injEq, Prod.mk.injEq] at h
    obtain ⟨rfl, rfl⟩ := h
    simp only [Bool.and_eq_true, Bool.not_eq_true'] at hcond
    obtain ⟨⟨he1, h1cs⟩, hbb⟩ := hcond
    have he1' : e1 = ρ.t 9 := Nat.eq_of_beq_eq_true he1
    subst he1'
    have hbb' : b ≠ b2 := fun e => by subst e; simp at hbb
    obtain ⟨y, k, q, hy, rfl, htot, hlk, hq⟩ := by simpa only [VR] using hs
    obtain ⟨arr, ey, fr, hh, hfe, hcs, hysz, hle, hlr, hfr⟩ := hA.cells hy hg
    obtain ⟨rfl, hal1, hal2⟩ := hfe rfl
    have hfr' : fr.1 = fr.2 := by
      rcases hfr rfl with h | ⟨_, h⟩
      · exact h
      · rw [L.t9] at h; exact absurd (Option.some.inj h) L.u9
    rw [hsz1] at hysz
    rw [hysz, Nat.mul_one] at htot
    obtain ⟨hon, rfl⟩ := sub_eq hsub
    have hblk : z.blk ≠ y.blk := fun e => hbb' (hA.inj _ _ _ _ _ _ hy hg rfl hz hg2 (by simp) e.symm)
    -- the elements, in the world
    obtain ⟨R, hR⟩ : ∃ R, R = (arr.toList.drop (y.sh + o)).take n := ⟨_, rfl⟩
    have hRr : LR m ((c.drop o).take n) R := by
      have := LR.take n (LR.drop o hlr)
      rw [cut_cut _ _ _ _ _ hon] at this
      rw [hR]; exact this
    have hRl : R.length = n := by rw [hRr.length]; simp; omega
    have hcell : ∀ j v, R[j]? = some v → w.cell? ⟨y.blk, y.sh + o + j, none⟩ = some v := fun j v hj => by
      rw [cell?_cells hh]
      rw [hR, List.getElem?_take] at hj
      split at hj
      · rw [List.getElem?_drop] at hj; simpa using hj
      · cases hj
    have h1R := allOne_rel h1cs hRr
    have hnew : LR m (((c.drop o).take n).take i ++ x :: ((c.drop o).take n).drop i) (R.take i ++ u :: R.drop i) := (hRr.take i).append (LR.cons hxu (hRr.drop i))
    have hlen : (((c.drop o).take n).take i ++ x :: ((c.drop o).take n).drop i).length = n + 1 := by simp; omega
    have hlen' : (R.take i ++ u :: R.drop i).length = n + 1 := by simp [hRl]; omega
    by_cases hroom : n + 1 ≤ k
    · -- in place
      rcases hq with hq | rfl
      · omega
      have hin2 : y.sh + o + (n + 1) ≤ arr.size := by rw [hcs]; omega
      -- what the call comes to
      have key : ∃ (w' : World) (arr' : Array Value), Calls P (ρ.f 22) #[.slice (some ⟨y.blk, y.sh + o, none⟩) n k, .int .i64 (.ofNat i), .slice (some ⟨z.blk, z.sh + o2, none⟩) 1 k2] w (fun e w'' => e = .returned (.slice (some ⟨y.blk, y.sh + o, none⟩) (n + 1) k) ∧ w'' = w') ∧
          w'.heap = w.heap.setIfInBounds y.blk (.cells arr' (ρ.t 9) fr) ∧ (w'.os = w.os ∧ w'.tape = w.tape ∧ w'.output = w.output) ∧
          arr'.toList = arr.toList.take (y.sh + o) ++ (R.take i ++ u :: R.drop i) ++ arr.toList.drop (y.sh + o + (n + 1)) := by
        have hal : arr.toList.length = arr.size := by simp
        by_cases hi : i < n
        · have hc := ins_up L y.blk (y.sh + o) n k i z.blk (z.sh + o2) k2 R u w hi hroom (by omega) hblk hRl hcell (fun j hj => by rw [cell?_cells hh, Array.getElem?_eq_getElem (by omega)]; rfl) (fun j hj => notFrozen? hh hfr' _) hcellx h1R h1u
            (ρ.t 9) (ρ.t 9) csz.size arr.size (by simp [World.shape?, hhz]) (by simp [World.shape?, hh]) (by omega) (notFrozen? hhz hfrz' _) (notFrozen? hhz hfrz' _)
          obtain ⟨a1, k1, k2, k3, k4, k5⟩ := setCells_eq y.blk (ρ.t 9) fr (R.drop i) (y.sh + o + (i + 1)) w.drew arr hh (by simp [hRl]; omega)
          have ha1 : a1.size = arr.size := by
            have : a1.toList.length = arr.toList.length := by rw [k1]; simp [hRl]; omega
            simpa using this
          have hh1 : (w.drew.setCells y.blk (y.sh + o + (i + 1)) (R.drop i)).heap[y.blk]? = some (.cells a1 (ρ.t 9) fr) := by
            have hb := (Array.getElem?_eq_some_iff.1 hh).1
            rw [k2]
            show (w.heap.setIfInBounds _ _)[y.blk]? = _
            simp [hb]
          obtain ⟨a2, j1, j2, j3, j4, j5⟩ := setCells_eq y.blk (ρ.t 9) fr [u] (y.sh + o + i) _ a1 hh1 (by simp; omega)
          refine ⟨_, a2, hc, ?_, ⟨by rw [j3, k3]; rfl, by rw [j4, k4]; rfl, by rw [j5, k5]; rfl⟩, ?_⟩
          · rw [j2, k2]
            apply Array.ext_getElem?
            intro j
            show ((w.heap.setIfInBounds _ _).setIfInBounds _ _)[j]? = _
            simp only [Array.getElem?_setIfInBounds, Array.size_setIfInBounds]
            by_cases hj : y.blk = j <;> simp [hj]
          · rw [j1, k1]
            have hRi : R = R.take i ++ R.drop i := (List.take_append_drop i R).symm
            have hA1 : arr.toList.take (y.sh + o + (i + 1)) = arr.toList.take (y.sh + o) ++ (arr.toList.drop (y.sh + o)).take (i + 1) := by
              rw [List.take_add]
            have hRt : (arr.toList.drop (y.sh + o)).take i = R.take i := by rw [hR, List.take_take, Nat.min_eq_left (by omega)]
            have hdrop : (R.drop i).length = n - i := by simp [hRl]
            have e1 : (arr.toList.take (y.sh + o + (i + 1)) ++ R.drop i ++ arr.toList.drop (y.sh + o + (i + 1) + (R.drop i).length)).take (y.sh + o + i) = arr.toList.take (y.sh + o) ++ R.take i := by
              rw [List.append_assoc, List.take_append_of_le_length (by simp; omega), List.take_take, Nat.min_eq_left (by omega), List.take_add, hRt]
            have e2 : (arr.toList.take (y.sh + o + (i + 1)) ++ R.drop i ++ arr.toList.drop (y.sh + o + (i + 1) + (R.drop i).length)).drop (y.sh + o + i + [u].length) = R.drop i ++ arr.toList.drop (y.sh + o + (n + 1)) := by
              rw [List.append_assoc, List.drop_append]
              have l1 : (arr.toList.take (y.sh + o + (i + 1))).length = y.sh + o + (i + 1) := by simp; omega
              rw [l1, List.drop_of_length_le (by rw [l1]; simp; omega), List.nil_append, show y.sh + o + i + [u].length - (y.sh + o + (i + 1)) = 0 by simp; omega, List.drop_zero, hdrop]
              congr 2; omega
            rw [e1, e2]; simp [List.append_assoc]
        · obtain rfl : i = n := by omega
          have hc := ins_end L y.blk (y.sh + o) i k z.blk (z.sh + o2) k2 u w hroom (by rw [cell?_cells hh, Array.getElem?_eq_getElem (by omega)]; rfl) (notFrozen? hh hfr' _) hcellx h1u
          obtain ⟨a2, j1, j2, j3, j4, j5⟩ := setCells_eq y.blk (ρ.t 9) fr [u] (y.sh + o + i) _ arr hh (by simp; omega)
          refine ⟨_, a2, hc, j2, ⟨j3, j4, j5⟩, ?_⟩
          rw [j1, List.take_add, ← hR, List.take_of_length_le (by omega : R.length ≤ i), List.drop_of_length_le (by omega : R.length ≤ i)]
          simp [List.append_assoc, Nat.add_assoc]
      obtain ⟨w', arr', hc, hw', henv, harr⟩ := key
      have hsize : arr'.size = y.tot := by
        have : arr'.toList.length = arr.toList.length := by rw [harr]; simp [hRl]; omega
        rw [← hcs]; simpa using this
      let x' : Img := ⟨y.blk, y.sh + o, y.tot, y.sz⟩
      have hle' := Map.le_plus (x := x') hA.none_next
      refine ⟨_, w', _, callOk_of_calls f22 hname hbody hc, ?_, Sim.hand hA b y x' _ (.cells (((c.drop o).take n).take i ++ x :: ((c.drop o).take n).drop i) (ρ.t 9) false) (.cells arr' (ρ.t 9) fr) hy hg rfl rfl hw' henv
        ⟨arr', _, fr, rfl, fun _ => ⟨rfl, ?_, hal2⟩, hsize, by simp only [x']; rw [hysz, hsz1], ?_, ?_, hfr⟩⟩
      · simp only [VR]
        exact ⟨x', k, _, Map.plus_same _ _ _, rfl, by simp only [x']; rw [hysz]; omega, hroom, .inr rfl⟩
      · simp only [x']; rw [hysz]; exact ⟨_, (Nat.one_mul _).symm⟩
      · rw [hlen]; simp only [x']; omega
      · refine LR.mono hle' ?_
        have : (arr'.toList.drop x'.sh).take (((c.drop o).take n).take i ++ x :: ((c.drop o).take n).drop i).length = R.take i ++ u :: R.drop i := by
          rw [harr, hlen]
          simp only [x']
          have l1 : (arr.toList.take (y.sh + o)).length = y.sh + o := by simp; omega
          rw [List.append_assoc, List.drop_append, l1, List.drop_of_length_le (by rw [l1]; exact Nat.le_refl _), List.nil_append, Nat.sub_self, List.drop_zero, List.take_append_of_le_length (by rw [hlen']; exact Nat.le_refl _), List.take_of_length_le (by rw [hlen']; exact Nat.le_refl _)]
        rw [this]; exact hnew
    · -- in new memory
      have hroom' : k < n + 1 := by omega
      have hge := grownCap_ge w (n + 1) k (ρ.t 9)
      have hlose := Sim.lose hA b y _ hy hg rfl
      have key : ∃ (w' : World) (arr' : Array Value), Calls P (ρ.f 22) #[.slice (some q) n k, .int .i64 (.ofNat i), .slice (some ⟨z.blk, z.sh + o2, none⟩) 1 k2] w (fun e w'' => e = .returned (.slice (some ⟨w.heap.size, 0, none⟩) (n + 1) (grownCap w (n + 1) k (ρ.t 9))) ∧ w'' = w') ∧
          w'.heap = w.heap.push (.cells arr' (ρ.t 9)) ∧ (w'.os = w.os ∧ w'.tape = w.tape ∧ w'.output = w.output) ∧
          arr'.toList.take (n + 1) = R.take i ++ u :: R.drop i ∧ arr'.size = grownCap w (n + 1) k (ρ.t 9) := by
        by_cases hi : i < n
        · rcases hq with hq | rfl
          · omega
          have hc := ins_new L y.blk (y.sh + o) n k i z.blk (z.sh + o2) k2 R u w hi hlk hroom' hbig hbig2 hRl hcell hcellx h1R h1u
          let G := grownCap w (n + 1) k (ρ.t 9)
          let a0 : Array Value := (R.take i).toArray ++ Builtin.zeroCells #[zv] (n + 1 - i) ++ Builtin.zeroCells #[zv] (G - (n + 1))
          have hGge : n + 1 ≤ G := hge
          have ha0 : a0.size = G := by simp only [a0]; simp [Builtin.zeroCells, hRl]; omega
          let w1 : World := (w.alloc (.cells a0 (ρ.t 9))).drew
          have hh1 : w1.heap[w.heap.size]? = some (.cells a0 (ρ.t 9) (0, 0)) := by
            show (w.heap.push (.cells a0 (ρ.t 9)))[w.heap.size]? = _
            simp
          obtain ⟨a1, k1, k2, k3, k4, k5⟩ := setCells_eq w.heap.size (ρ.t 9) (0, 0) [u] i w1 a0 hh1 (by simp; omega)
          have ha1 : a1.size = G := by
            have : a1.toList.length = a0.toList.length := by rw [k1]; simp; omega
            simpa [ha0] using this
          have hh2 : (w1.setCells w.heap.size i [u]).drew.heap[w.heap.size]? = some (.cells a1 (ρ.t 9) (0, 0)) := by
            show (w1.setCells w.heap.size i [u]).heap[w.heap.size]? = _
            rw [k2]
            show ((w.heap.push (.cells a0 (ρ.t 9))).setIfInBounds _ _)[w.heap.size]? = _
            simp
          obtain ⟨a2, j1, j2, j3, j4, j5⟩ := setCells_eq w.heap.size (ρ.t 9) (0, 0) (R.drop i) (i + 1) _ a1 hh2 (by simp [hRl]; omega)
          refine ⟨_, a2, hc, ?_, ⟨by rw [j3]; show (w1.setCells w.heap.size i [u]).os = _; rw [k3]; rfl, by rw [j4]; show (w1.setCells w.heap.size i [u]).tape = _; rw [k4]; rfl, by rw [j5]; show (w1.setCells w.heap.size i [u]).output = _; rw [k5]; rfl⟩, ?_, ?_⟩
          · rw [j2]
            show ((w1.setCells w.heap.size i [u]).heap).setIfInBounds _ _ = _
            rw [k2]
            apply Array.ext_getElem?
            intro j
            show (((w.heap.push (.cells a0 (ρ.t 9))).setIfInBounds _ _).setIfInBounds _ _)[j]? = _
            simp only [Array.getElem?_setIfInBounds, Array.size_setIfInBounds, Array.getElem?_push, Array.size_push]
            by_cases hj : w.heap.size = j
            · subst hj; simp
            · simp [hj, Ne.symm hj]
          · have hdrop : (R.drop i).length = n - i := by simp [hRl]
            have ht : a0.toList.take i = R.take i := by
              simp only [a0, Array.toList_append]
              rw [List.append_assoc, List.take_append_of_le_length (by simp [hRl]; omega), List.take_of_length_le (by simp; omega)]
            have e1 : a1.toList.take (i + 1) = R.take i ++ [u] := by
              rw [k1, List.take_append_of_le_length (by simp; omega), List.take_of_length_le (by simp; omega), ht]
            rw [j1, e1, List.take_append_of_le_length (by simp [hRl]; omega), List.take_of_length_le (by simp [hRl]; omega)]
            simp
          · have : a2.toList.length = a1.toList.length := by rw [j1]; simp [hRl]; omega
            simpa [ha1] using this
        · obtain rfl : i = n := by omega
          have hc := ins_end_new L (some q) i k z.blk (z.sh + o2) k2 R u w hlk hroom' hbig hbig2 hRl (fun e => by cases e) (fun a ha j v hj => by
            cases ha
            rcases hq with hq | rfl
            · have hj' := (List.getElem?_eq_some_iff.1 hj).1
              omega
            · rw [add_off]; exact hcell j v hj) hcellx h1u
          refine ⟨_, _, hc, rfl, ⟨rfl, rfl, rfl⟩, ?_, ?_⟩
          · rw [List.take_of_length_le (by omega : R.length ≤ i), List.drop_of_length_le (by omega : R.length ≤ i), Array.toList_append, List.take_append_of_le_length (by simp; omega), List.take_of_length_le (by simp; omega)]
          · simp [Builtin.zeroCells, hRl]; omega
      obtain ⟨w', arr', hc, hw', henv, harr, hsize⟩ := key
      have h5 := sim_newCells hlose.agree (((c.drop o).take n).take i ++ x :: ((c.drop o).take n).drop i) arr' (ρ.t 9) (by rw [hlen, harr]; exact hnew) (by rw [hlen, hsize]; exact hge) (by rw [hsz1]; exact ⟨_, (Nat.one_mul _).symm⟩)
      have h6 := Sim.of_heap h5.agree (w' := w') (by rw [hw']) henv.1 henv.2.1 henv.2.2
      refine ⟨_, w', _, callOk_of_calls f22 hname hbody hc, ?_, Sim.trans hA (Sim.trans hA hlose h5) h6⟩
      simp only [VR]
      refine ⟨_, _, _, Map.plus_same _ _ _, rfl, ?_, hge, .inr rfl⟩
      simp only [hsz1, hsize]; omega
  · cases h

end Go.Fold

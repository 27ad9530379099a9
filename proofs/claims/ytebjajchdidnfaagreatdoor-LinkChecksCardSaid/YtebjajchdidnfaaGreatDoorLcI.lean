/-
  A part of the road: an evaluator over abstract memory with a proved simulation, and what is reckoned by it. Written by an AI agent; no person has read it.
-/
import Derived.Test.YtebjajchdidnfaaGreatDoorTie
import Derived.Test.YtebjajchdidnfaaGreatDoorChecked
import Derived.Test.YtebjajchdidnfaaGreatDoorCards
import Derived.Test.YtebjajchdidnfaaGreatDoorLcG
import Derived.Test.YtebjajchdidnfaaGreatDoorFoldArg
import Derived.ProofKit
import Derived.OpenShut
import Derived.LaidMore
import Derived.Lay
import Derived.OpenVars
import Derived.SevenTiedAt
import Derived.Stop.Joined
set_option linter.all false
set_option linter.all false
set_option maxRecDepth 100000
namespace Go.Proofs.YtebjajchdidnfaaGreatDoor
open Go Go.Fold Go.ChangeShapes Go.WideShapes Go.ChangeAt Go.WideMaps Go.WideElems Go.RowKit

theorem own : ownKnob Tryz.prog.godebug = none := by kernel_rfl
theorem laidOut : laidOutB Tryz.prog = true := by kernel_rfl

/-! ### The arguments, as abstract memory -/
section
variable {H : Type} {enc : TypeId × Value → H}
def wordF (s : List UInt8) : DataW H := .lit (.string s)
def goalF (x : List UInt8 × List UInt8) : DataW H := .agg [.lit (.string x.1), .lit (.string x.2)]
def wordA (s : List UInt8) : List Nat := s.map (·.toNat)

theorem word_of {w : World} {base : Nat} {held : Bool} {n : Nat} {cs : List Value} {y : DataW H × List MemPlace} (h : DataW.trod enc Tryz.prog w base (fun _ => true) held n 9 cs = some y) : ∃ s, y.1 = wordF s := by
  obtain ⟨s, _, rfl, _⟩ := DataW.trod_string Tryz.underlying9 h
  exact ⟨_, rfl⟩

theorem goal_of {w : World} {base : Nat} {held : Bool} {n : Nat} {cs : List Value} {y : DataW H × List MemPlace} (h : DataW.trod enc Tryz.prog w base (fun _ => true) held n 34 cs = some y) : ∃ s, y.1 = goalF s := by
  obtain ⟨xs, n', _, rfl, _, hl, hx⟩ := DataW.trod_struct Tryz.underlying34 h
  have h0 := hx 0 _ rfl
  have h1 := hx 1 _ rfl
  match xs, hl with
  | [a, b], _ =>
    obtain ⟨s0, e0⟩ := word_of h0
    obtain ⟨s1, e1⟩ := word_of h1
    exact ⟨(s0, s1), by simp only [List.map_cons, List.map_nil, e0, e1]; rfl⟩

theorem absWord (k : Nat) (s : List UInt8) (A : AH) : absD Tryz.prog (k + 1) 9 (wordF s : DataW H) A = some ([.str (wordA s)], A) := by
  simp only [absD, Tryz.underlying9, wordF]; rfl

theorem absGoal (k : Nat) (s : List UInt8 × List UInt8) (A : AH) : absD Tryz.prog (k + 2) 34 (goalF s : DataW H) A = some ([.str (wordA s.1), .str (wordA s.2)], A) := by
  simp only [absD, Tryz.underlying34, goalF, absF, Tryz.underlying9, c9, c34]
  rfl

theorem absD_slice {P : Program} {n : Nat} {t e : TypeId} {xs ys : List (DataW H)} {A : AH} (ht : P.underlying t = some (.slice e)) (hc : Nat.beq (P.cellsOf e) 0 = false) :
    absD P (n + 1) t (.slice xs ys) A = match absL (absD P n e) (xs ++ ys) A with
      | some (cs, A) => some ([.slice (some (A.next, 0)) xs.length (some (xs.length + ys.length))], A.new (.cells cs e true))
      | none => none := by
  conv => lhs; unfold absD
  simp only [ht]
  rw [hc]; rfl

theorem flat_one {α : Type} (g : α → AV) (l : List α) : l.flatMap (fun x => [g x]) = l.map g := by
  induction l with
  | nil => rfl
  | cons a l ih => simp [List.flatMap_cons, ih]

/-- a slice of words -/
theorem strs_of {w : World} {n : Nat} {cs : List Value} {y : DataW H × List MemPlace} (h : DataW.trod enc Tryz.prog w 0 (fun _ => true) true n 23 cs = some y) {m : Map} {A : AH} (hA : Agree Tryz.prog m A w) (hs : Still m A) :
    ∃ (v : AV) (m' : Map) (A' : AH) (l : List (List Nat)), Adds Tryz.prog w m A m' A' ∧ LR m' [v] cs ∧ Strs A' v l := by
  have hk := abs_ok (P := Tryz.prog) (sp := fun _ => true) (fun _ => rfl) 4 23 n cs y h m A
  rcases trod_slice_of Tryz.underlying23 (fun _ _ _ h => word_of h) h with h1 | ⟨l, l2, h1⟩
  · obtain ⟨m', h2, h3⟩ := hk [.slice none 0 (some 0)] A hA hs (by rw [h1]; simp only [absD, Tryz.underlying23])
    exact ⟨_, m', A, [], h2, h3, .inl ⟨rfl, rfl⟩⟩
  · have hd : absD Tryz.prog 4 23 y.1 A = some ([.slice (some (A.next, 0)) l.length (some (l.length + l2.length))], A.new (.cells ((l ++ l2).map fun s => .str (wordA s)) 9 true)) := by
      rw [h1]
      have hL := absL_map (f := absD (H := H) Tryz.prog 3 9) (F := wordF) (g := fun s => [.str (wordA s)]) (fun s A => absWord 2 s A) (l ++ l2) A
      rw [List.map_append] at hL
      rw [flat_one (fun s => AV.str (wordA s))] at hL
      have hc : Nat.beq (Tryz.prog.cellsOf 9) 0 = false := by rw [c9]; rfl
      rw [absD_slice Tryz.underlying23 hc, hL]
      simp only [List.length_map]
    obtain ⟨m', h2, h3⟩ := hk _ _ hA hs hd
    refine ⟨_, m', _, l.map wordA, h2, h3, .inr ⟨A.next, _, _, _, _, by rw [List.length_map], AH.get_new_same _ _, by simp, fun j hj => ?_⟩⟩
    simp only [List.length_map] at hj
    rw [List.map_append, List.getElem?_append_left (by simpa using hj)]
    simp [List.getD, List.getElem?_eq_getElem hj]

/-- a slice of goals -/
theorem goals_of {w : World} {n : Nat} {cs : List Value} {y : DataW H × List MemPlace} (h : DataW.trod enc Tryz.prog w 0 (fun _ => true) true n 22 cs = some y) {m : Map} {A : AH} (hA : Agree Tryz.prog m A w) (hs : Still m A) :
    ∃ (v : AV) (m' : Map) (A' : AH) (l : List (List Nat × List Nat)), Adds Tryz.prog w m A m' A' ∧ LR m' [v] cs ∧ Goals A' v l := by
  have hk := abs_ok (P := Tryz.prog) (sp := fun _ => true) (fun _ => rfl) 5 22 n cs y h m A
  rcases trod_slice_of Tryz.underlying22 (fun _ _ _ h => goal_of h) h with h1 | ⟨l, l2, h1⟩
  · obtain ⟨m', h2, h3⟩ := hk [.slice none 0 (some 0)] A hA hs (by rw [h1]; simp only [absD, Tryz.underlying22])
    exact ⟨_, m', A, [], h2, h3, .inl ⟨rfl, rfl⟩⟩
  · have hd : absD Tryz.prog 5 22 y.1 A = some ([.slice (some (A.next, 0)) l.length (some (l.length + l2.length))], A.new (.cells ((l ++ l2).flatMap fun s => [.str (wordA s.1), .str (wordA s.2)]) 34 true)) := by
      rw [h1]
      have hL := absL_map (f := absD (H := H) Tryz.prog 4 34) (F := goalF) (g := fun s => [.str (wordA s.1), .str (wordA s.2)]) (fun s A => absGoal 2 s A) (l ++ l2) A
      rw [List.map_append] at hL
      have hc : Nat.beq (Tryz.prog.cellsOf 34) 0 = false := by rw [c34]; rfl
      rw [absD_slice Tryz.underlying22 hc, hL]
      simp only [List.length_map]
    obtain ⟨m', h2, h3⟩ := hk _ _ hA hs hd
    refine ⟨_, m', _, l.map fun s => (wordA s.1, wordA s.2), h2, h3, .inr ⟨A.next, _, _, _, _, by rw [List.length_map], AH.get_new_same _ _, by simp, fun j x hx => ?_⟩⟩
    rw [List.getElem?_map, Option.map_eq_some_iff] at hx
    obtain ⟨s, hs1, rfl⟩ := hx
    have hj := (List.getElem?_eq_some_iff.1 hs1).1
    have key : ∀ (l : List (List UInt8 × List UInt8)) (j : Nat) (s : List UInt8 × List UInt8), l[j]? = some s → ∃ r, (l.flatMap fun s => [AV.str (wordA s.1), AV.str (wordA s.2)]).drop (j * 2) = [AV.str (wordA s.1), AV.str (wordA s.2)] ++ r := by
      intro l
      induction l with
      | nil => intro j s h; simp at h
      | cons a l ih =>
        intro j s h
        cases j with
        | zero => simp at h; subst h; exact ⟨_, by simp [List.flatMap_cons]; rfl⟩
        | succ j =>
          simp at h
          obtain ⟨r, hr⟩ := ih j s h
          exact ⟨r, by rw [List.flatMap_cons, show (j + 1) * 2 = 2 + j * 2 by omega, ← List.drop_drop]; simpa using hr⟩
    obtain ⟨r, hr⟩ := key (l ++ l2) j s (by rw [List.getElem?_append_left hj]; exact hs1)
    have hlen : j * 2 + 2 ≤ ((l ++ l2).flatMap fun s => [AV.str (wordA s.1), AV.str (wordA s.2)]).length := by
      have := congrArg List.length hr
      simp only [List.length_drop, List.length_append, List.length_cons, List.length_nil] at this
      omega
    unfold sub
    rw [Nat.ble_eq_true_of_le hlen, cond_true, hr]; rfl
end

theorem cells_of_ok {P : Program} {W : World} {r : Reach} {base : Nat} {t e : TypeId} {v : Value} (ht : P.underlying t = some (.slice e)) (h : Value.okWide P W r base t v) : v.cells = #[v] := by
  cases v <;> first | rfl | (simp [Value.okWide, ht, Cell.okWide, Cell.ok] at h)

theorem rows_there : ((List.range Tryz.prog.globals.size).all fun g => (((begin Tryz.prog (fun _ _ => 0) default).world.heap[g]?).bind Obj.row?).isSome) = true := by kernel_rfl

theorem params3 : Tryz.f3.params.toList = [22, 23, 23] := by kernel_rfl
theorem results3 : Tryz.f3.resultTypes = #[4] := by kernel_rfl

theorem lifted_law (os : Os) (started : os.Started) (H : Type) (enc : TypeId × Value → H) :
    ReturnsInHanded {} Tryz.checked os 3 .any (fun w args => (Rows.linkChecksSpec.pre enc Tryz.prog Tryz.f3 [] false w args ∧ laidMetH Tryz.prog laid w) ∧ sizedMet enc Tryz.prog Tryz.f3 (OpenSpec.ofChange Rows.linkChecksSpec) false w args)
      (Rows.linkChecksSpec.post enc Tryz.prog Tryz.f3 false true false false) := by
  refine handed_of_contract (C := Tryz.checked) (X := fun w _ => laidMetH Tryz.prog laid w) (fun _ _ _ hh h => h.of_heap hh) own started (by kernel_rfl) Tryz.func3
    (ChangeSpec.witness_shaped (enc := enc) (C := Tryz.checked) (os := os) (X := fun w _ => laidMetH Tryz.prog laid w) false (World.laidAll Tryz.prog os laid) #[.slice none 0 0, .slice none 0 0, .slice none 0 0] 8 (World.laidAll_os _ _ _)
      (World.shaped_of_ZipB (by kernel_rfl) (by kernel_rfl)) (by kernel_rfl) (by kernel_rfl) (by kernel_rfl)
      (by rw [MakeChecks.laidMetH_plain _ _ _ (by kernel_rfl)]; exact laidMet_laidAll _ (by kernel_rfl) (by kernel_rfl))) ?_
  intro W base args ds gs before hval hW hsh hL
  have hW' := hW
  obtain ⟨p, q, hA0, hV, rfl, _, _⟩ := hW
  rw [params3] at hA0
  obtain ⟨v0, v1, v2, d0, d1, d2, p0, p1, p2, rfl, rfl, rfl, h0, h1, h2⟩ := trodAll_three hA0
  obtain ⟨rfl, rfl⟩ := trodVars_none hV
  rw [MakeChecks.laidMetH_plain _ _ _ (by kernel_rfl)] at hL
  obtain ⟨m0, a0, s0⟩ := start_ok hL (globals_le hsh (fun g hg => List.all_eq_true.1 rows_there g (List.mem_range.2 hg))) A0_eq
  obtain ⟨n0, t0⟩ := h0
  obtain ⟨n1, t1⟩ := h1
  obtain ⟨n2, t2⟩ := h2
  obtain ⟨u0, m1, A1, l0, k1, r0, x0⟩ := goals_of t0 a0 s0
  obtain ⟨u1, m2, A2, l1, k2, r1, x1⟩ := strs_of t1 k1.agree k1.still
  obtain ⟨u2, m3, A3, l2, k3, r2, x2⟩ := strs_of t2 k2.agree k2.still
  have hw : Within A3 := ⟨Nat.le_trans k1.next (Nat.le_trans k2.next k3.next), fun b x hx => by
    have hb := (AH.plain_cells A0_plain hx).1
    have e1 := k1.next
    have e2 := k2.next
    rw [k3.old b (by omega), k2.old b (by omega), k1.old b hb]; exact hx⟩
  have g0 : Goals A3 u0 l0 := (x0.keep ⟨k2.next, k2.old⟩).keep ⟨k3.next, k3.old⟩
  have g1 : Strs A3 u1 l1 := x1.keep k3.next k3.old
  obtain ⟨v, A9, hc, rfl⟩ := law_spec hw g0 g1 x2
  have w0 := cells_of_ok Tryz.underlying22 (hval 0 22 v0 rfl rfl)
  have w1 := cells_of_ok Tryz.underlying23 (hval 1 23 v1 rfl rfl)
  have w2 := cells_of_ok Tryz.underlying23 (hval 2 23 v2 rfl rfl)
  rw [w0] at r0
  rw [w1] at r1
  rw [w2] at r2
  have hl : LR m3 [u0, u1, u2] (#[v0, v1, v2] : Array Value).toList := .cons ((r0.cons_inv.1.mono k2.le).mono k3.le) (.cons (r1.cons_inv.1.mono k3.le) (.cons r2.cons_inv.1 .nil))
  refine (calls_of_spec Tryz.func3 rfl plain k3.agree k3.still hl hc).mono fun e W' he => ?_
  obtain ⟨u, m', rfl, hv, hb⟩ := he
  obtain rfl : u = .bool true := by simpa only [VR] using hv
  have hlt : ∀ x ∈ p0 ++ p1 ++ p2, x.block < W.heap.size := fun x hx => by simpa using hW'.lt x (by simp only [List.append_nil]; exact hx)
  refine ⟨_, rfl, [d0, d1, d2], [], p0 ++ p1 ++ p2 ++ [], [], p0 ++ (p1 ++ p2), [], hW', ?_, ?_, rfl, hb.frame _, fun h => by cases h⟩
  · rw [results3]
    exact trodAll_mk1 (shut_bool Tryz.underlying4 _)
  · rw [params3]
    exact trodAll_mk3 (Below.trod laidOut (by kernel_rfl) (of_decide_eq_true (by kernel_rfl)) ⟨n0, t0⟩ hb fun x hx => hlt x (by simp [hx]))
      (Below.trod laidOut (by kernel_rfl) (of_decide_eq_true (by kernel_rfl)) ⟨n1, t1⟩ hb fun x hx => hlt x (by simp [hx]))
      (Below.trod laidOut (by kernel_rfl) (of_decide_eq_true (by kernel_rfl)) ⟨n2, t2⟩ hb fun x hx => hlt x (by simp [hx]))

end Go.Proofs.YtebjajchdidnfaaGreatDoor

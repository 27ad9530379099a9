/-
  A part of the road: an evaluator over abstract memory with a proved simulation, and what is reckoned by it. Written by an AI agent; no person has read it.
-/
import Derived.Test.YtebjajchdidnfaaGreatDoorLcE
import Derived.Test.YtebjajchdidnfaaGreatDoorFoldSymX
set_option linter.all false
set_option linter.all false
set_option maxRecDepth 100000
namespace Go.Proofs.YtebjajchdidnfaaGreatDoor
open Go Go.Fold Go.Shelf Go.Lib

/-- a table whose names are some words -/
def TabIs (A : AH) (tb : Nat) (words : List (List Nat)) : Prop :=
  ∃ kb vb ks vs, TabBool A tb kb vb ks vs ∧ Asc ks ∧ ks.length ≤ 1000000 ∧ ∀ u, hasWord ks u = hasWord words u

def Keep (A A' : AH) : Prop := A.next ≤ A'.next ∧ ∀ c, c < A.next → A'.get c = A.get c
theorem Keep.refl (A : AH) : Keep A A := ⟨Nat.le_refl _, fun _ _ => rfl⟩
theorem Keep.trans {A B C : AH} (h : Keep A B) (k : Keep B C) : Keep A C := ⟨Nat.le_trans h.1 k.1, fun c hc => by rw [k.2 c (by have := h.1; omega), h.2 c hc]⟩
theorem Keep.new (A : AH) (b : AB) : Keep A (A.new b) := ⟨by simp, fun c hc => AH.get_new_other _ _ _ (by omega)⟩
theorem Keep.put {A B : AH} (h : Keep A B) {n : Nat} (hn : A.next ≤ n) (b : AB) : Keep A (B.put n b) := ⟨h.1, fun c hc => by rw [AH.get_put_other _ _ _ _ (by omega)]; exact h.2 c hc⟩

theorem findAt_asc {ks : List (List Nat)} (h : Asc ks) (u : List Nat) : (findAt ks u).2 = hasWord ks u := by
  obtain ⟨a, b, rfl, ha, hb⟩ := h.parts u
  rw [hasWord_parts h ha hb]
  unfold findAt
  simp only [bs_parts ha hb]

theorem TabIs.get {A : AH} {tb : Nat} {words : List (List Nat)} (h : TabIs A tb words) (u : List Nat) : ∃ x, CallSpec Tryz.prog 39 [.ptr (some (tb, 0)), .str u] A (.tup [x, .bool (hasWord words u)]) A := by
  obtain ⟨kb, vb, ks, vs, h1, h2, h3, h4⟩ := h
  have hc := getBool_spec h1 (by omega) u
  rw [findAt_asc h2, h4] at hc
  exact ⟨_, hc⟩

theorem TabIs.keep {A A' : AH} {tb : Nat} {words : List (List Nat)} (h : TabIs A tb words) (k : Keep A A') : TabIs A' tb words := by
  obtain ⟨kb, vb, ks, vs, h1, h2⟩ := h
  exact ⟨kb, vb, ks, vs, h1.keep k.1 k.2, h2⟩

structure Env (A : AH) (p4 p7 p8 tb : Nat) (sf : AV) (files places : List (List Nat)) : Prop where
  h4 : A.get p4 = some (.cells [sf] 23 false)
  h7 : A.get p7 = some (.cells [.fn (.func 7) [] []] 25 false)
  h8 : A.get p8 = some (.cells [.ptr (some (tb, 0))] 26 false)
  lt : p4 < A.next ∧ p7 < A.next ∧ p8 < A.next
  fs : Strs A sf files
  tab : TabIs A tb places
  few : files.length ≤ 1000000

theorem Env.keep {A A' : AH} {p4 p7 p8 tb : Nat} {sf : AV} {files places : List (List Nat)} (h : Env A p4 p7 p8 tb sf files places) (k : Keep A A') : Env A' p4 p7 p8 tb sf files places where
  h4 := by rw [k.2 _ h.lt.1]; exact h.h4
  h7 := by rw [k.2 _ h.lt.2.1]; exact h.h7
  h8 := by rw [k.2 _ h.lt.2.2]; exact h.h8
  lt := by have := h.lt; have := k.1; omega
  fs := h.fs.keep k.1 k.2
  tab := h.tab.keep k
  few := h.few

/-- a slice of goals -/
def Goals (A : AH) (s : AV) (gs : List (List Nat × List Nat)) : Prop :=
  (gs = [] ∧ s = .slice none 0 (some 0)) ∨ ∃ b c q e fz, s = .slice (some (b, 0)) gs.length q ∧ A.get b = some (.cells c e fz) ∧ b < A.next ∧ ∀ j x, gs[j]? = some x → sub c (j * 2) 2 = some [.str x.1, .str x.2]

theorem Goals.keep {A A' : AH} {s : AV} {gs : List (List Nat × List Nat)} (h : Goals A s gs) (k : Keep A A') : Goals A' s gs := by
  rcases h with h | ⟨b, c, q, e, fz, h1, h2, h3, h4⟩
  · exact .inl h
  · exact .inr ⟨b, c, q, e, fz, h1, by rw [k.2 b h3]; exact h2, by have := k.1; omega, h4⟩

/-- what is wanted -/
def wantOf (files places : List (List Nat)) : List (List Nat × List Nat) → Int
  | [] => 0
  | x :: r => if hasWord files x.1 then (if bytesEq x.2 [] then wantOf files places r else if noTable files x.1 || !(hasWord places x.2) then 24 else wantOf files places r) else 23

set_option maxHeartbeats 8000000 in
theorem check_spec {A : AH} {p4 p7 p8 tb : Nat} {sf gsl o1 o2 : AV} {files places : List (List Nat)} {gs : List (List Nat × List Nat)} (h : Env A p4 p7 p8 tb sf files places) (hg : Goals A gsl gs) (hn : gs.length ≤ 1000000) (ho1 : o1.oneCell = true) (ho2 : o2.oneCell = true) :
    ∃ v A', CallSpec Tryz.prog 12 [.agg [o1, gsl, o2], .fn (.func 13) [] [.ptr (some (p7, 0)), .ptr (some (p4, 0))], .fn (.func 9) [] [.ptr (some (p4, 0)), .ptr (some (p8, 0))]] A v A' ∧ v = .int .i64 (wantOf files places gs) ∧ Keep A A' := by
  have hlen : ∃ a q, gsl = .slice a gs.length q := by
    rcases hg with ⟨rfl, rfl⟩ | ⟨b, c, q, e, fz, rfl, _⟩
    · exact ⟨_, _, rfl⟩
    · exact ⟨_, _, rfl⟩
  obtain ⟨a, q, hsl⟩ := hlen
  refine DoneX.call fit Tryz.func12 rfl (N := 39) (by kernel_rfl) ?_
  obtain ⟨A1, hA1⟩ : ∃ A1, A1 = A.new (.cells [o1, gsl, o2] 37 false) := ⟨_, rfl⟩
  have k1 : Keep A A1 := by rw [hA1]; exact .new _ _
  have g1 : A1.get A.next = some (.cells [o1, gsl, o2] 37 false) := by rw [hA1]; exact AH.get_new_same _ _
  have n1 : A1.next = A.next + 1 := by rw [hA1]; rfl
  repeat (first | refine dx_seq fit ?_ | refine dx_skip fit ?_ | refine dx_label fit ?_ | refine dx_inBlock fit ?_ | refine dx_block fit ?_)
  refine dx_rg fit RecOk.none' List.toList_toArray ?_
  repeat (first
    | refine th_still (wanted_none rfl) rfl (by simp (disch := first | omega | decide) [← hA1]; try rfl) ?_
    | (refine th_not (wanted_no rfl rfl ?_) ?_; focus (simp [← hA1]; done))
    | (refine th_not (wanted_off rfl rfl ?_) ?_; focus (simp [← hA1]; done))
    | (refine th_still (wanted_yes rfl rfl ?_) rfl (by simp (disch := first | omega | decide) [← hA1]; try rfl) ?_; focus (simp [← hA1]; done))
    | refine th_make (wanted_none rfl) rfl (by simp (disch := first | omega | decide) [← hA1, Rec.add_same, Rec.add_other_f]; first | done | rfl | exact ⟨rfl, rfl⟩) ?_
    | (refine th_make (wanted_yes rfl rfl ?_) rfl (by simp (disch := first | omega | decide) [← hA1, Rec.add_same, Rec.add_other_f]; first | done | rfl | exact ⟨rfl, rfl⟩) ?_; focus (simp [← hA1]; done)))
  refine th_nil ?_
  repeat (first | refine dx_seq fit ?_ | refine dx_skip fit ?_ | refine dx_label fit ?_ | refine dx_inBlock fit ?_ | refine dx_block fit ?_)
  repeat (first | refine dx_seq fit ?_ | refine dx_skip fit ?_ | refine dx_label fit ?_ | refine dx_inBlock fit ?_ | refine dx_block fit ?_)
  refine dx_rg fit RecOk.none' List.toList_toArray ?_
  repeat (first
    | refine th_still (wanted_none rfl) rfl (by simp (disch := first | omega | decide) [g1, hsl]; try rfl) ?_
    | (refine th_not (wanted_no rfl rfl ?_) ?_; focus (simp [g1, hsl]; done))
    | (refine th_not (wanted_off rfl rfl ?_) ?_; focus (simp [g1, hsl]; done))
    | (refine th_still (wanted_yes rfl rfl ?_) rfl (by simp (disch := first | omega | decide) [g1, hsl]; try rfl) ?_; focus (simp [g1, hsl]; done)))
  refine th_nil ?_
  repeat (first | refine dx_seq fit ?_ | refine dx_skip fit ?_ | refine dx_label fit ?_ | refine dx_inBlock fit ?_ | refine dx_block fit ?_)
  have hsl2 : gsl = .slice a gs.length q := hsl
  refine dx_loop_ind fit (fun g t A' => ∃ i : Nat, t.n = 39 ∧ t.get 1 = .fn (.func 13) [] [.ptr (some (p7, 0)), .ptr (some (p4, 0))] ∧ t.get 2 = .fn (.func 9) [] [.ptr (some (p4, 0)), .ptr (some (p8, 0))] ∧ t.get 12 = gsl ∧ t.get 13 = .int .i64 gs.length ∧ t.get 14 = .int .i64 i ∧
      i ≤ gs.length ∧ gs.length - i ≤ g ∧ wantOf files places (gs.drop i) = wantOf files places gs ∧ Keep A A') gs.length
    ⟨0, by simp, by simp, by simp, by simp [hsl], by simp [hsl], by simp, by omega, by omega, rfl, k1⟩ ?_
  rintro g t Ai ⟨i, tn, t1, t2, t12, t13, t14, hi1, hi2, hw, hk⟩ hrec
  have hE := h.keep hk
  have hG := hg.keep hk
  repeat (first | refine dx_seq fit ?_ | refine dx_skip fit ?_ | refine dx_label fit ?_ | refine dx_inBlock fit ?_ | refine dx_block fit ?_)
  repeat (first | refine dx_seq fit ?_ | refine dx_skip fit ?_ | refine dx_label fit ?_ | refine dx_inBlock fit ?_ | refine dx_block fit ?_)
  refine dx_rg fit RecOk.none' List.toList_toArray ?_
  repeat (first
    | refine th_still (wanted_none rfl) rfl (by simp (disch := first | omega | decide) [tn, t1, t2, t12, t13, t14]; try rfl) ?_
    | (refine th_not (wanted_no rfl rfl ?_) ?_; focus (simp [tn, t1, t2, t12, t13, t14]; done))
    | (refine th_not (wanted_off rfl rfl ?_) ?_; focus (simp [tn, t1, t2, t12, t13, t14]; done))
    | (refine th_still (wanted_yes rfl rfl ?_) rfl (by simp (disch := first | omega | decide) [tn, t1, t2, t12, t13, t14]; try rfl) ?_; focus (simp [tn, t1, t2, t12, t13, t14]; done)))
  refine th_nil ?_
  repeat (first | refine dx_seq fit ?_ | refine dx_skip fit ?_ | refine dx_label fit ?_ | refine dx_inBlock fit ?_ | refine dx_block fit ?_)
  by_cases hlt : i < gs.length
  · refine dx_cond fit (x := true) (by simp [tn, hlt]) ?_
    obtain ⟨x, hx⟩ : ∃ x, gs[i]? = some x := ⟨_, List.getElem?_eq_getElem hlt⟩
    obtain ⟨xa, xb⟩ := x
    have hdrop : gs.drop i = (xa, xb) :: gs.drop (i + 1) := by
      rw [List.drop_eq_getElem_cons hlt]
      congr 1
      rw [List.getElem?_eq_getElem hlt] at hx
      exact Option.some.inj hx
    rw [hdrop] at hw
    simp only [wantOf] at hw
    rcases hG with ⟨rfl, _⟩ | ⟨b, c, q2, e, fz, hs2, hgb, hbn, hc⟩
    · simp at hlt
    have hci := hc i _ hx
    simp only at hci
    subst hs2
    obtain ⟨Aj, hAj⟩ : ∃ Aj, Aj = (Ai.new (.cells [.str [], .str []] 34 false)).put Ai.next (.cells [.str xa, .str xb] 34 false) := ⟨_, rfl⟩
    have kj : Keep Ai Aj := by rw [hAj]; exact (Keep.new _ _).put (Nat.le_refl _) _
    have gj : Aj.get Ai.next = some (.cells [.str xa, .str xb] 34 false) := by rw [hAj]; exact AH.get_put_same _ _ _
    have hgb2 : (Ai.new (.cells [.str [], .str []] 34 false)).get b = some (.cells c e fz) := by rw [AH.get_new_other _ _ _ (by omega)]; exact hgb
    have hEj := hE.keep kj
    have c1 := has_spec hEj.h4 hEj.fs hEj.few hEj.h7 xa
    have c2 := anchors_spec hEj.h4 hEj.fs hEj.h8 xa
    repeat (first | refine dx_seq fit ?_ | refine dx_skip fit ?_ | refine dx_label fit ?_ | refine dx_inBlock fit ?_ | refine dx_block fit ?_)
    refine dx_rg fit RecOk.none' List.toList_toArray ?_
    repeat (first
      | refine th_still (wanted_none rfl) rfl (by simp (disch := first | omega | decide) [tn, t1, t2, t12, t13, t14, hlt, hgb, hgb2, hci, ← hAj]; try rfl) ?_
      | (refine th_not (wanted_no rfl rfl ?_) ?_; focus (simp [tn, t1, t2, t12, t13, t14, hlt, hgb, hgb2, hci, ← hAj]; done))
      | (refine th_not (wanted_off rfl rfl ?_) ?_; focus (simp [tn, t1, t2, t12, t13, t14, hlt, hgb, hgb2, hci, ← hAj]; done))
      | (refine th_still (wanted_yes rfl rfl ?_) rfl (by simp (disch := first | omega | decide) [tn, t1, t2, t12, t13, t14, hlt, hgb, hgb2, hci, ← hAj]; try rfl) ?_; focus (simp [tn, t1, t2, t12, t13, t14, hlt, hgb, hgb2, hci, ← hAj]; done))
      | refine th_make (wanted_none rfl) rfl (by simp (disch := first | omega | decide) [tn, t1, t2, t12, t13, t14, hlt, hgb, hgb2, hci, ← hAj, Rec.add_same, Rec.add_other_f]; first | done | rfl | exact ⟨rfl, rfl⟩) ?_
      | (refine th_make (wanted_yes rfl rfl ?_) rfl (by simp (disch := first | omega | decide) [tn, t1, t2, t12, t13, t14, hlt, hgb, hgb2, hci, ← hAj, Rec.add_same, Rec.add_other_f]; first | done | rfl | exact ⟨rfl, rfl⟩) ?_; focus (simp [tn, t1, t2, t12, t13, t14, hlt, hgb, hgb2, hci, ← hAj]; done))
      | refine th_eff (wanted_none rfl) rfl (by simp (disch := first | omega | decide) [tn, t1, t2, t12, t13, t14, hlt, hgb, hgb2, hci, ← hAj, Rec.add_same, Rec.add_other_f]; first | done | rfl | exact ⟨rfl, rfl⟩) ?_
      | (refine th_eff (wanted_yes rfl rfl ?_) rfl (by simp (disch := first | omega | decide) [tn, t1, t2, t12, t13, t14, hlt, hgb, hgb2, hci, ← hAj, Rec.add_same, Rec.add_other_f]; first | done | rfl | exact ⟨rfl, rfl⟩) ?_; focus (simp [tn, t1, t2, t12, t13, t14, hlt, hgb, hgb2, hci, ← hAj]; done)))
    refine th_nil ?_
    repeat (first | refine dx_seq fit ?_ | refine dx_skip fit ?_ | refine dx_label fit ?_ | refine dx_inBlock fit ?_ | refine dx_block fit ?_)
    repeat (first | refine dx_seq fit ?_ | refine dx_skip fit ?_ | refine dx_label fit ?_ | refine dx_inBlock fit ?_ | refine dx_block fit ?_)
    refine dx_rg fit (RecOk.none'.add c1) List.toList_toArray ?_
    repeat (first
      | refine th_still (wanted_none rfl) rfl (by simp (disch := first | omega | decide) [tn, t1, t2, t12, t13, t14, gj]; try rfl) ?_
      | (refine th_not (wanted_no rfl rfl ?_) ?_; focus (simp [tn, t1, t2, t12, t13, t14, gj]; done))
      | (refine th_not (wanted_off rfl rfl ?_) ?_; focus (simp [tn, t1, t2, t12, t13, t14, gj]; done))
      | (refine th_still (wanted_yes rfl rfl ?_) rfl (by simp (disch := first | omega | decide) [tn, t1, t2, t12, t13, t14, gj]; try rfl) ?_; focus (simp [tn, t1, t2, t12, t13, t14, gj]; done))
      | refine th_call (wanted_none rfl) rfl (by simp (disch := first | omega | decide) [tn, t1, t2, t12, t13, t14, gj, Rec.add_same, Rec.add_other_f]; first | done | rfl | exact ⟨rfl, rfl⟩) ?_
      | (refine th_call (wanted_yes rfl rfl ?_) rfl (by simp (disch := first | omega | decide) [tn, t1, t2, t12, t13, t14, gj, Rec.add_same, Rec.add_other_f]; first | done | rfl | exact ⟨rfl, rfl⟩) ?_; focus (simp [tn, t1, t2, t12, t13, t14, gj]; done)))
    refine th_nil ?_
    repeat (first | refine dx_seq fit ?_ | refine dx_skip fit ?_ | refine dx_label fit ?_ | refine dx_inBlock fit ?_ | refine dx_block fit ?_)
    cases hf : hasWord files xa with
    | false =>
      rw [hf] at hw
      simp only [Bool.false_eq_true, if_false] at hw
      refine dx_cond fit (x := true) (by simp [tn, hf]) ?_
      repeat (first | refine dx_seq fit ?_ | refine dx_skip fit ?_ | refine dx_label fit ?_ | refine dx_inBlock fit ?_ | refine dx_block fit ?_)
      refine dx_rg fit RecOk.none' List.toList_toArray ?_
      repeat (first
        | refine th_still (wanted_none rfl) rfl (by simp (disch := first | omega | decide) [tn, t1, t2, t12, t13, t14]; try rfl) ?_
        | (refine th_not (wanted_no rfl rfl ?_) ?_; focus (simp [tn, t1, t2, t12, t13, t14]; done))
        | (refine th_not (wanted_off rfl rfl ?_) ?_; focus (simp [tn, t1, t2, t12, t13, t14]; done))
        | (refine th_still (wanted_yes rfl rfl ?_) rfl (by simp (disch := first | omega | decide) [tn, t1, t2, t12, t13, t14]; try rfl) ?_; focus (simp [tn, t1, t2, t12, t13, t14]; done)))
      refine th_nil ?_
      repeat (first | refine dx_seq fit ?_ | refine dx_skip fit ?_ | refine dx_label fit ?_ | refine dx_inBlock fit ?_ | refine dx_block fit ?_)
      refine dx_ret fit ?_
      exact dx_out fit Tryz.func12 (rs := [.tmp 6]) rfl (by simp [tn]; first | done | rfl | exact ⟨rfl, rfl⟩) ⟨by simp [packA, ← hw], hk.trans kj⟩
    | true =>
      rw [hf] at hw
      simp only [if_true] at hw
      refine dx_cond fit (x := false) (by simp [tn, hf]) ?_
      repeat (first | refine dx_seq fit ?_ | refine dx_skip fit ?_ | refine dx_label fit ?_ | refine dx_inBlock fit ?_ | refine dx_block fit ?_)
      refine dx_rg fit RecOk.none' List.toList_toArray ?_
      repeat (first
        | refine th_still (wanted_none rfl) rfl (by simp (disch := first | omega | decide) [tn, t1, t2, t12, t13, t14, gj]; try rfl) ?_
        | (refine th_not (wanted_no rfl rfl ?_) ?_; focus (simp [tn, t1, t2, t12, t13, t14, gj]; done))
        | (refine th_not (wanted_off rfl rfl ?_) ?_; focus (simp [tn, t1, t2, t12, t13, t14, gj]; done))
        | (refine th_still (wanted_yes rfl rfl ?_) rfl (by simp (disch := first | omega | decide) [tn, t1, t2, t12, t13, t14, gj]; try rfl) ?_; focus (simp [tn, t1, t2, t12, t13, t14, gj]; done)))
      refine th_nil ?_
      repeat (first | refine dx_seq fit ?_ | refine dx_skip fit ?_ | refine dx_label fit ?_ | refine dx_inBlock fit ?_ | refine dx_block fit ?_)
      cases hb : bytesEq xb [] with
      | true =>
        rw [hb] at hw
        simp only [if_true] at hw
        refine dx_cond fit (x := true) (by simp [tn, hb]) ?_
        refine dx_exit fit rfl ?_
        repeat (first | refine dx_seq fit ?_ | refine dx_skip fit ?_ | refine dx_label fit ?_ | refine dx_inBlock fit ?_ | refine dx_block fit ?_)
        refine dx_rg fit RecOk.none' List.toList_toArray ?_
        repeat (first
          | refine th_still (wanted_none rfl) rfl (by simp (disch := first | omega | decide) [tn, t1, t2, t12, t13, t14, wrap_i64]; try rfl) ?_
          | (refine th_not (wanted_no rfl rfl ?_) ?_; focus (simp [tn, t1, t2, t12, t13, t14, wrap_i64]; done))
          | (refine th_not (wanted_off rfl rfl ?_) ?_; focus (simp [tn, t1, t2, t12, t13, t14, wrap_i64]; done))
          | (refine th_still (wanted_yes rfl rfl ?_) rfl (by simp (disch := first | omega | decide) [tn, t1, t2, t12, t13, t14, wrap_i64]; try rfl) ?_; focus (simp [tn, t1, t2, t12, t13, t14, wrap_i64]; done)))
        refine th_nil ?_
        repeat (first | refine dx_seq fit ?_ | refine dx_skip fit ?_ | refine dx_label fit ?_ | refine dx_inBlock fit ?_ | refine dx_block fit ?_)
        exact hrec (g - 1) _ _ (by omega) ⟨i + 1, by simp [tn], by simp [tn, t1], by simp [tn, t2], by simp [tn, t12], by simp [tn, t13], by simp [tn], by omega, by omega, hw, hk.trans kj⟩
      | false =>
        rw [hb] at hw
        simp only [Bool.false_eq_true, if_false] at hw
        refine dx_cond fit (x := false) (by simp [tn, hb]) ?_
        cases hnt : noTable files xa with
        | true =>
          rw [hnt] at hw c2
          simp only [if_true, Bool.true_or] at hw c2
          have c3 := getBool_nil Aj xb
          repeat (first | refine dx_seq fit ?_ | refine dx_skip fit ?_ | refine dx_label fit ?_ | refine dx_inBlock fit ?_ | refine dx_block fit ?_)
          refine dx_rgd fit ((RecOk.none'.add c2).add c3) List.toList_toArray (by kernel_rfl) (bs := [0, 0, 2, 7, 0, 16, 63, 127, 255, 255, 511, 2047]) (by kernel_rfl) ?_
          repeat (first
            | refine td_still (wanted_none rfl) rfl rfl rfl (by simp (disch := first | omega | decide) [tn, t1, t2, t12, t13, t14, gj]; try rfl) ?_
            | (refine td_not (wanted_no rfl rfl ?_) ?_; focus (simp [tn, t1, t2, t12, t13, t14, gj]; done))
            | (refine td_not (wanted_off rfl rfl ?_) ?_; focus (simp [tn, t1, t2, t12, t13, t14, gj]; done))
            | (refine td_still (wanted_yes rfl rfl ?_) rfl rfl rfl (by simp (disch := first | omega | decide) [tn, t1, t2, t12, t13, t14, gj]; try rfl) ?_; focus (simp [tn, t1, t2, t12, t13, t14, gj]; done))
            | (refine td_look (wanted_none rfl) rfl rfl (by simp (disch := first | omega | decide) [tn, t1, t2, t12, t13, t14, gj]; try rfl) ?_ ?_; focus (simp (disch := first | omega | decide) [tn, t1, t2, t12, t13, t14, gj, Nat.testBit, stillAt, sameV_self]; done))
            | (refine td_look (wanted_yes rfl rfl ?_) rfl rfl (by simp (disch := first | omega | decide) [tn, t1, t2, t12, t13, t14, gj]; try rfl) ?_ ?_; focus (simp [tn, t1, t2, t12, t13, t14, gj]; done); focus (simp (disch := first | omega | decide) [tn, t1, t2, t12, t13, t14, gj, Nat.testBit, stillAt, sameV_self]; done))
            | refine td_make (wanted_none rfl) rfl rfl (by simp (disch := first | omega | decide) [tn, t1, t2, t12, t13, t14, gj, Rec.add_same, Rec.add_other_f]; first | done | rfl | exact ⟨rfl, rfl⟩) ?_
            | (refine td_turn (wanted_none rfl) rfl (by simp (disch := first | omega | decide) [tn, t1, t2, t12, t13, t14, gj, Rec.add_same, Rec.add_other_f]; first | done | rfl | exact ⟨rfl, rfl⟩) ?_ ?_; focus (simp (disch := first | omega | decide) [tn, t1, t2, t12, t13, t14, gj, Nat.testBit, stillAt, sameV_self]; done))
            | (refine td_turn (wanted_yes rfl rfl ?_) rfl (by simp (disch := first | omega | decide) [tn, t1, t2, t12, t13, t14, gj, Rec.add_same, Rec.add_other_f]; first | done | rfl | exact ⟨rfl, rfl⟩) ?_ ?_; focus (simp [tn, t1, t2, t12, t13, t14, gj]; done); focus (simp (disch := first | omega | decide) [tn, t1, t2, t12, t13, t14, gj, Nat.testBit, stillAt, sameV_self]; done)))
          refine td_nil ?_
          repeat (first | refine dx_seq fit ?_ | refine dx_skip fit ?_ | refine dx_label fit ?_ | refine dx_inBlock fit ?_ | refine dx_block fit ?_)
          repeat (first | refine dx_seq fit ?_ | refine dx_skip fit ?_ | refine dx_label fit ?_ | refine dx_inBlock fit ?_ | refine dx_block fit ?_)
          refine dx_rg fit RecOk.none' List.toList_toArray ?_
          repeat (first
            | refine th_still (wanted_none rfl) rfl (by simp (disch := first | omega | decide) [tn, t1, t2, t12, t13, t14]; try rfl) ?_
            | (refine th_not (wanted_no rfl rfl ?_) ?_; focus (simp [tn, t1, t2, t12, t13, t14]; done))
            | (refine th_not (wanted_off rfl rfl ?_) ?_; focus (simp [tn, t1, t2, t12, t13, t14]; done))
            | (refine th_still (wanted_yes rfl rfl ?_) rfl (by simp (disch := first | omega | decide) [tn, t1, t2, t12, t13, t14]; try rfl) ?_; focus (simp [tn, t1, t2, t12, t13, t14]; done)))
          refine th_nil ?_
          repeat (first | refine dx_seq fit ?_ | refine dx_skip fit ?_ | refine dx_label fit ?_ | refine dx_inBlock fit ?_ | refine dx_block fit ?_)
          refine dx_cond fit (x := true) (by simp [tn]) ?_
          repeat (first | refine dx_seq fit ?_ | refine dx_skip fit ?_ | refine dx_label fit ?_ | refine dx_inBlock fit ?_ | refine dx_block fit ?_)
          refine dx_rg fit RecOk.none' List.toList_toArray ?_
          repeat (first
            | refine th_still (wanted_none rfl) rfl (by simp (disch := first | omega | decide) [tn, t1, t2, t12, t13, t14]; try rfl) ?_
            | (refine th_not (wanted_no rfl rfl ?_) ?_; focus (simp [tn, t1, t2, t12, t13, t14]; done))
            | (refine th_not (wanted_off rfl rfl ?_) ?_; focus (simp [tn, t1, t2, t12, t13, t14]; done))
            | (refine th_still (wanted_yes rfl rfl ?_) rfl (by simp (disch := first | omega | decide) [tn, t1, t2, t12, t13, t14]; try rfl) ?_; focus (simp [tn, t1, t2, t12, t13, t14]; done)))
          refine th_nil ?_
          repeat (first | refine dx_seq fit ?_ | refine dx_skip fit ?_ | refine dx_label fit ?_ | refine dx_inBlock fit ?_ | refine dx_block fit ?_)
          refine dx_ret fit ?_
          exact dx_out fit Tryz.func12 (rs := [.tmp 6]) rfl (by simp [tn]; first | done | rfl | exact ⟨rfl, rfl⟩) ⟨by simp [packA, ← hw], hk.trans kj⟩
        | false =>
          rw [hnt] at hw c2
          simp only [Bool.false_eq_true, if_false, Bool.false_or] at hw c2
          obtain ⟨x3, c3⟩ := hEj.tab.get xb
          cases hp : hasWord places xb with
          | false =>
            rw [hp] at hw c3
            simp only [Bool.not_false, if_true] at hw
            repeat (first | refine dx_seq fit ?_ | refine dx_skip fit ?_ | refine dx_label fit ?_ | refine dx_inBlock fit ?_ | refine dx_block fit ?_)
            refine dx_rgd fit ((RecOk.none'.add c2).add c3) List.toList_toArray (by kernel_rfl) (bs := [0, 0, 2, 7, 0, 16, 63, 127, 255, 255, 511, 2047]) (by kernel_rfl) ?_
            repeat (first
              | refine td_still (wanted_none rfl) rfl rfl rfl (by simp (disch := first | omega | decide) [tn, t1, t2, t12, t13, t14, gj]; try rfl) ?_
              | (refine td_not (wanted_no rfl rfl ?_) ?_; focus (simp [tn, t1, t2, t12, t13, t14, gj]; done))
              | (refine td_not (wanted_off rfl rfl ?_) ?_; focus (simp [tn, t1, t2, t12, t13, t14, gj]; done))
              | (refine td_still (wanted_yes rfl rfl ?_) rfl rfl rfl (by simp (disch := first | omega | decide) [tn, t1, t2, t12, t13, t14, gj]; try rfl) ?_; focus (simp [tn, t1, t2, t12, t13, t14, gj]; done))
              | (refine td_look (wanted_none rfl) rfl rfl (by simp (disch := first | omega | decide) [tn, t1, t2, t12, t13, t14, gj]; try rfl) ?_ ?_; focus (simp (disch := first | omega | decide) [tn, t1, t2, t12, t13, t14, gj, Nat.testBit, stillAt, sameV_self]; done))
              | (refine td_look (wanted_yes rfl rfl ?_) rfl rfl (by simp (disch := first | omega | decide) [tn, t1, t2, t12, t13, t14, gj]; try rfl) ?_ ?_; focus (simp [tn, t1, t2, t12, t13, t14, gj]; done); focus (simp (disch := first | omega | decide) [tn, t1, t2, t12, t13, t14, gj, Nat.testBit, stillAt, sameV_self]; done))
              | refine td_make (wanted_none rfl) rfl rfl (by simp (disch := first | omega | decide) [tn, t1, t2, t12, t13, t14, gj, Rec.add_same, Rec.add_other_f]; first | done | rfl | exact ⟨rfl, rfl⟩) ?_
              | (refine td_turn (wanted_none rfl) rfl (by simp (disch := first | omega | decide) [tn, t1, t2, t12, t13, t14, gj, Rec.add_same, Rec.add_other_f]; first | done | rfl | exact ⟨rfl, rfl⟩) ?_ ?_; focus (simp (disch := first | omega | decide) [tn, t1, t2, t12, t13, t14, gj, Nat.testBit, stillAt, sameV_self]; done))
              | (refine td_turn (wanted_yes rfl rfl ?_) rfl (by simp (disch := first | omega | decide) [tn, t1, t2, t12, t13, t14, gj, Rec.add_same, Rec.add_other_f]; first | done | rfl | exact ⟨rfl, rfl⟩) ?_ ?_; focus (simp [tn, t1, t2, t12, t13, t14, gj]; done); focus (simp (disch := first | omega | decide) [tn, t1, t2, t12, t13, t14, gj, Nat.testBit, stillAt, sameV_self]; done)))
            refine td_nil ?_
            repeat (first | refine dx_seq fit ?_ | refine dx_skip fit ?_ | refine dx_label fit ?_ | refine dx_inBlock fit ?_ | refine dx_block fit ?_)
            repeat (first | refine dx_seq fit ?_ | refine dx_skip fit ?_ | refine dx_label fit ?_ | refine dx_inBlock fit ?_ | refine dx_block fit ?_)
            refine dx_rg fit RecOk.none' List.toList_toArray ?_
            repeat (first
              | refine th_still (wanted_none rfl) rfl (by simp (disch := first | omega | decide) [tn, t1, t2, t12, t13, t14]; try rfl) ?_
              | (refine th_not (wanted_no rfl rfl ?_) ?_; focus (simp [tn, t1, t2, t12, t13, t14]; done))
              | (refine th_not (wanted_off rfl rfl ?_) ?_; focus (simp [tn, t1, t2, t12, t13, t14]; done))
              | (refine th_still (wanted_yes rfl rfl ?_) rfl (by simp (disch := first | omega | decide) [tn, t1, t2, t12, t13, t14]; try rfl) ?_; focus (simp [tn, t1, t2, t12, t13, t14]; done)))
            refine th_nil ?_
            repeat (first | refine dx_seq fit ?_ | refine dx_skip fit ?_ | refine dx_label fit ?_ | refine dx_inBlock fit ?_ | refine dx_block fit ?_)
            refine dx_cond fit (x := true) (by simp [tn]) ?_
            repeat (first | refine dx_seq fit ?_ | refine dx_skip fit ?_ | refine dx_label fit ?_ | refine dx_inBlock fit ?_ | refine dx_block fit ?_)
            refine dx_rg fit RecOk.none' List.toList_toArray ?_
            repeat (first
              | refine th_still (wanted_none rfl) rfl (by simp (disch := first | omega | decide) [tn, t1, t2, t12, t13, t14]; try rfl) ?_
              | (refine th_not (wanted_no rfl rfl ?_) ?_; focus (simp [tn, t1, t2, t12, t13, t14]; done))
              | (refine th_not (wanted_off rfl rfl ?_) ?_; focus (simp [tn, t1, t2, t12, t13, t14]; done))
              | (refine th_still (wanted_yes rfl rfl ?_) rfl (by simp (disch := first | omega | decide) [tn, t1, t2, t12, t13, t14]; try rfl) ?_; focus (simp [tn, t1, t2, t12, t13, t14]; done)))
            refine th_nil ?_
            repeat (first | refine dx_seq fit ?_ | refine dx_skip fit ?_ | refine dx_label fit ?_ | refine dx_inBlock fit ?_ | refine dx_block fit ?_)
            refine dx_ret fit ?_
            exact dx_out fit Tryz.func12 (rs := [.tmp 6]) rfl (by simp [tn]; first | done | rfl | exact ⟨rfl, rfl⟩) ⟨by simp [packA, ← hw], hk.trans kj⟩
          | true =>
            rw [hp] at hw c3
            simp only [Bool.not_true, Bool.false_eq_true, if_false] at hw
            repeat (first | refine dx_seq fit ?_ | refine dx_skip fit ?_ | refine dx_label fit ?_ | refine dx_inBlock fit ?_ | refine dx_block fit ?_)
            refine dx_rgd fit ((RecOk.none'.add c2).add c3) List.toList_toArray (by kernel_rfl) (bs := [0, 0, 2, 7, 0, 16, 63, 127, 255, 255, 511, 2047]) (by kernel_rfl) ?_
            repeat (first
              | refine td_still (wanted_none rfl) rfl rfl rfl (by simp (disch := first | omega | decide) [tn, t1, t2, t12, t13, t14, gj]; try rfl) ?_
              | (refine td_not (wanted_no rfl rfl ?_) ?_; focus (simp [tn, t1, t2, t12, t13, t14, gj]; done))
              | (refine td_not (wanted_off rfl rfl ?_) ?_; focus (simp [tn, t1, t2, t12, t13, t14, gj]; done))
              | (refine td_still (wanted_yes rfl rfl ?_) rfl rfl rfl (by simp (disch := first | omega | decide) [tn, t1, t2, t12, t13, t14, gj]; try rfl) ?_; focus (simp [tn, t1, t2, t12, t13, t14, gj]; done))
              | (refine td_look (wanted_none rfl) rfl rfl (by simp (disch := first | omega | decide) [tn, t1, t2, t12, t13, t14, gj]; try rfl) ?_ ?_; focus (simp (disch := first | omega | decide) [tn, t1, t2, t12, t13, t14, gj, Nat.testBit, stillAt, sameV_self]; done))
              | (refine td_look (wanted_yes rfl rfl ?_) rfl rfl (by simp (disch := first | omega | decide) [tn, t1, t2, t12, t13, t14, gj]; try rfl) ?_ ?_; focus (simp [tn, t1, t2, t12, t13, t14, gj]; done); focus (simp (disch := first | omega | decide) [tn, t1, t2, t12, t13, t14, gj, Nat.testBit, stillAt, sameV_self]; done))
              | refine td_make (wanted_none rfl) rfl rfl (by simp (disch := first | omega | decide) [tn, t1, t2, t12, t13, t14, gj, Rec.add_same, Rec.add_other_f]; first | done | rfl | exact ⟨rfl, rfl⟩) ?_
              | (refine td_turn (wanted_none rfl) rfl (by simp (disch := first | omega | decide) [tn, t1, t2, t12, t13, t14, gj, Rec.add_same, Rec.add_other_f]; first | done | rfl | exact ⟨rfl, rfl⟩) ?_ ?_; focus (simp (disch := first | omega | decide) [tn, t1, t2, t12, t13, t14, gj, Nat.testBit, stillAt, sameV_self]; done))
              | (refine td_turn (wanted_yes rfl rfl ?_) rfl (by simp (disch := first | omega | decide) [tn, t1, t2, t12, t13, t14, gj, Rec.add_same, Rec.add_other_f]; first | done | rfl | exact ⟨rfl, rfl⟩) ?_ ?_; focus (simp [tn, t1, t2, t12, t13, t14, gj]; done); focus (simp (disch := first | omega | decide) [tn, t1, t2, t12, t13, t14, gj, Nat.testBit, stillAt, sameV_self]; done)))
            refine td_nil ?_
            repeat (first | refine dx_seq fit ?_ | refine dx_skip fit ?_ | refine dx_label fit ?_ | refine dx_inBlock fit ?_ | refine dx_block fit ?_)
            repeat (first | refine dx_seq fit ?_ | refine dx_skip fit ?_ | refine dx_label fit ?_ | refine dx_inBlock fit ?_ | refine dx_block fit ?_)
            refine dx_rg fit RecOk.none' List.toList_toArray ?_
            repeat (first
              | refine th_still (wanted_none rfl) rfl (by simp (disch := first | omega | decide) [tn, t1, t2, t12, t13, t14]; try rfl) ?_
              | (refine th_not (wanted_no rfl rfl ?_) ?_; focus (simp [tn, t1, t2, t12, t13, t14]; done))
              | (refine th_not (wanted_off rfl rfl ?_) ?_; focus (simp [tn, t1, t2, t12, t13, t14]; done))
              | (refine th_still (wanted_yes rfl rfl ?_) rfl (by simp (disch := first | omega | decide) [tn, t1, t2, t12, t13, t14]; try rfl) ?_; focus (simp [tn, t1, t2, t12, t13, t14]; done)))
            refine th_nil ?_
            repeat (first | refine dx_seq fit ?_ | refine dx_skip fit ?_ | refine dx_label fit ?_ | refine dx_inBlock fit ?_ | refine dx_block fit ?_)
            refine dx_cond fit (x := false) (by simp [tn]) ?_
            repeat (first | refine dx_seq fit ?_ | refine dx_skip fit ?_ | refine dx_label fit ?_ | refine dx_inBlock fit ?_ | refine dx_block fit ?_)
            refine dx_rg fit RecOk.none' List.toList_toArray ?_
            repeat (first
              | refine th_still (wanted_none rfl) rfl (by simp (disch := first | omega | decide) [tn, t1, t2, t12, t13, t14, wrap_i64]; try rfl) ?_
              | (refine th_not (wanted_no rfl rfl ?_) ?_; focus (simp [tn, t1, t2, t12, t13, t14, wrap_i64]; done))
              | (refine th_not (wanted_off rfl rfl ?_) ?_; focus (simp [tn, t1, t2, t12, t13, t14, wrap_i64]; done))
              | (refine th_still (wanted_yes rfl rfl ?_) rfl (by simp (disch := first | omega | decide) [tn, t1, t2, t12, t13, t14, wrap_i64]; try rfl) ?_; focus (simp [tn, t1, t2, t12, t13, t14, wrap_i64]; done)))
            refine th_nil ?_
            repeat (first | refine dx_seq fit ?_ | refine dx_skip fit ?_ | refine dx_label fit ?_ | refine dx_inBlock fit ?_ | refine dx_block fit ?_)
            exact hrec (g - 1) _ _ (by omega) ⟨i + 1, by simp [tn], by simp [tn, t1], by simp [tn, t2], by simp [tn, t12], by simp [tn, t13], by simp [tn], by omega, by omega, hw, hk.trans kj⟩
  · refine dx_cond fit (x := false) (by simp [tn, hlt]) ?_
    refine dx_exit fit rfl ?_
    rw [List.drop_of_length_le (by omega)] at hw
    simp only [wantOf] at hw
    repeat (first | refine dx_seq fit ?_ | refine dx_skip fit ?_ | refine dx_label fit ?_ | refine dx_inBlock fit ?_ | refine dx_block fit ?_)
    refine dx_rg fit RecOk.none' List.toList_toArray ?_
    repeat (first
      | refine th_still (wanted_none rfl) rfl (by simp (disch := first | omega | decide) [tn, t1, t2, t12, t13, t14]; try rfl) ?_
      | (refine th_not (wanted_no rfl rfl ?_) ?_; focus (simp [tn, t1, t2, t12, t13, t14]; done))
      | (refine th_not (wanted_off rfl rfl ?_) ?_; focus (simp [tn, t1, t2, t12, t13, t14]; done))
      | (refine th_still (wanted_yes rfl rfl ?_) rfl (by simp (disch := first | omega | decide) [tn, t1, t2, t12, t13, t14]; try rfl) ?_; focus (simp [tn, t1, t2, t12, t13, t14]; done)))
    refine th_nil ?_
    repeat (first | refine dx_seq fit ?_ | refine dx_skip fit ?_ | refine dx_label fit ?_ | refine dx_inBlock fit ?_ | refine dx_block fit ?_)
    refine dx_ret fit ?_
    exact dx_out fit Tryz.func12 (rs := [.tmp 6]) rfl (by simp [tn]; first | done | rfl | exact ⟨rfl, rfl⟩) ⟨by simp [packA, ← hw], hk⟩

end Go.Proofs.YtebjajchdidnfaaGreatDoor

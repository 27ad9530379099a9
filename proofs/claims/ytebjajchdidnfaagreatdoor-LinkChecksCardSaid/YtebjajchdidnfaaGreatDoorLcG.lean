/-
  A part of the road: an evaluator over abstract memory with a proved simulation, and what is reckoned by it. Written by an AI agent; no person has read it.
-/
import Derived.Test.YtebjajchdidnfaaGreatDoorLcF
set_option linter.all false
set_option linter.all false
set_option maxRecDepth 100000
namespace Go.Proofs.YtebjajchdidnfaaGreatDoor
open Go Go.Fold Go.Shelf Go.Lib

/-- a table whose names are some words, and whose rows lie behind some number -/
def TabFrom (A : AH) (tb : Nat) (words : List (List Nat)) (N : Nat) : Prop :=
  ∃ kb vb ks vs, TabBool A tb kb vb ks vs ∧ Asc ks ∧ ks.length ≤ words.length ∧ (ks ≠ [] → N ≤ kb ∧ N ≤ vb) ∧ ∀ u, hasWord ks u = hasWord words u

theorem hasWord_snoc (l : List (List Nat)) (u w : List Nat) : hasWord (l ++ [u]) w = (hasWord l w || bytesEq u w) := by
  simp [hasWord]

theorem TabFrom.put {A : AH} {tb N : Nat} {words : List (List Nat)} (h : TabFrom A tb words N) (hN : N ≤ A.next) (hw : words.length ≤ 100000) (u : List Nat) :
    ∃ r A', CallSpec Tryz.prog 8 [.ptr (some (tb, 0)), .str u, .bool true] A r A' ∧ TabFrom A' tb (words ++ [u]) N ∧ A.next ≤ A'.next ∧ ∀ c, c < N → c ≠ tb → A'.get c = A.get c := by
  obtain ⟨kb, vb, ks, vs, h1, h2, h3, h4, h5⟩ := h
  cases hf : (findAt ks u).2 with
  | true =>
    obtain ⟨A', c1, c2, c3, c4⟩ := putBool_old h1 (by omega) u (x := .bool true) rfl rfl hf
    refine ⟨_, A', c1, ⟨kb, vb, ks, _, c2, h2, by simp; omega, h4, fun w => ?_⟩, c3, fun c hc hct => c4 c (by omega) hct fun hne => by have := h4 hne; omega⟩
    rw [hasWord_snoc, ← h5 w]
    cases hb : bytesEq u w with
    | false => simp
    | true =>
      have := bytesEq_true hb
      subst this
      rw [findAt_asc h2] at hf
      simp [hf]
  | false =>
    obtain ⟨A', c1, c2, c3, c4⟩ := putBool_new h1 (by omega) u (x := .bool true) rfl rfl hf
    obtain ⟨a, b, hab, ha, hb⟩ := h2.parts u
    have hI : (findAt ks u).1 = a.length := by
      subst hab
      unfold findAt
      simp only [bs_parts ha hb]
    have hins : insAt ks (findAt ks u).1 u = a ++ u :: b := by
      rw [hI, hab]; simp [insAt]
    refine ⟨_, A', c1, ⟨_, _, _, _, c2, ?_, ?_, fun _ => ⟨by omega, by omega⟩, fun w => ?_⟩, c3, fun c hc hct => c4 c (by omega) hct fun hne => by have := h4 hne; omega⟩
    · rw [hins]
      rw [hab] at h2
      refine h2.insert ha hb fun hu => ?_
      rw [findAt_asc (by rw [hab]; exact h2), hab] at hf
      have : hasWord (a ++ b) u = true := by
        unfold hasWord
        rw [List.any_eq_true]
        exact ⟨u, by simp [hu], bytesEq_self u⟩
      rw [this] at hf; cases hf
    · rw [hins]; subst hab; simp at h3 ⊢; omega
    · rw [hins, hasWord_snoc, ← h5 w, hab]
      simp only [hasWord, List.any_append, List.any_cons]
      cases a.any (fun x => bytesEq x w) <;> cases b.any (fun x => bytesEq x w) <;> cases bytesEq u w <;> rfl

theorem TabFrom.is {A : AH} {tb N : Nat} {words : List (List Nat)} (h : TabFrom A tb words N) (hw : words.length ≤ 1000000) : TabIs A tb words := by
  obtain ⟨kb, vb, ks, vs, h1, h2, h3, h4, h5⟩ := h
  exact ⟨kb, vb, ks, vs, h1, h2, by omega, h5⟩

set_option maxHeartbeats 16000000 in
theorem law_spec {A : AH} {gsl sf sp : AV} {files places : List (List Nat)} {gs : List (List Nat × List Nat)} (hW : Within A) (hG : Goals A gsl gs) (hF : Strs A sf files) (hP : Strs A sp places) :
    ∃ v A', CallSpec Tryz.prog 3 [gsl, sf, sp] A v A' ∧ v = .bool true := by
  have lenG : ∃ a q, gsl = .slice a gs.length q := by
    rcases hG with ⟨rfl, rfl⟩ | ⟨b, c, q, e, fz, rfl, _⟩ <;> exact ⟨_, _, rfl⟩
  have lenF : ∃ a q, sf = .slice a files.length q := by
    rcases hF with ⟨rfl, rfl⟩ | ⟨b, c, q, e, fz, rfl, _⟩ <;> exact ⟨_, _, rfl⟩
  have lenP : ∃ a q, sp = .slice a places.length q := by
    rcases hP with ⟨rfl, rfl⟩ | ⟨b, c, q, e, fz, rfl, _⟩ <;> exact ⟨_, _, rfl⟩
  obtain ⟨ga, gq, hgl⟩ := lenG
  obtain ⟨fa, fq, hfl⟩ := lenF
  obtain ⟨pa, pq, hpl⟩ := lenP
  refine DoneX.call fit Tryz.func3 rfl (N := 101) (by kernel_rfl) ?_
  -- the files' box, the head
  obtain ⟨A1, hA1⟩ : ∃ A1, A1 = A.new (.cells [sf] 23 false) := ⟨_, rfl⟩
  have k1 : Keep A A1 := by rw [hA1]; exact .new _ _
  have g1 : A1.get A.next = some (.cells [sf] 23 false) := by rw [hA1]; exact AH.get_new_same _ _
  have n1 : A1.next = A.next + 1 := by rw [hA1]; rfl
  have w1 : Within A1 := hW.keep k1.1 fun b hb => k1.2 b (by have := hW.le; omega)
  obtain ⟨A2, c2, e2a, e2b⟩ := head_spec w1
  have k2 : Keep A1 A2 := ⟨e2a, e2b⟩
  have w2 : Within A2 := w1.keep k2.1 fun b hb => k2.2 b (by have := w1.le; omega)
  have g2 : A2.get A.next = some (.cells [sf] 23 false) := by rw [k2.2 _ (by omega)]; exact g1
  have sfc : AV.cells sf = [sf] := by rw [hfl]; rfl
  have sfo : AV.oneCell sf = true := by rw [hfl]; rfl
  repeat (first | refine dx_seq fit ?_ | refine dx_skip fit ?_ | refine dx_label fit ?_ | refine dx_inBlock fit ?_ | refine dx_block fit ?_)
  refine dx_rg fit RecOk.none' List.toList_toArray ?_
  repeat (first
    | refine th_still (wanted_none rfl) rfl (by simp (disch := first | omega | decide) [← hA1, sfc, sfo]; try rfl) ?_
    | (refine th_not (wanted_no rfl rfl ?_) ?_; focus (simp [← hA1, sfc, sfo]; done))
    | (refine th_not (wanted_off rfl rfl ?_) ?_; focus (simp [← hA1, sfc, sfo]; done))
    | (refine th_still (wanted_yes rfl rfl ?_) rfl (by simp (disch := first | omega | decide) [← hA1, sfc, sfo]; try rfl) ?_; focus (simp [← hA1, sfc, sfo]; done))
    | refine th_make (wanted_none rfl) rfl (by simp (disch := first | omega | decide) [← hA1, sfc, sfo, Rec.add_same, Rec.add_other_f]; first | done | rfl | exact ⟨rfl, rfl⟩) ?_
    | (refine th_make (wanted_yes rfl rfl ?_) rfl (by simp (disch := first | omega | decide) [← hA1, sfc, sfo, Rec.add_same, Rec.add_other_f]; first | done | rfl | exact ⟨rfl, rfl⟩) ?_; focus (simp [← hA1, sfc, sfo]; done)))
  refine th_nil ?_
  repeat (first | refine dx_seq fit ?_ | refine dx_skip fit ?_ | refine dx_label fit ?_ | refine dx_inBlock fit ?_ | refine dx_block fit ?_)
  repeat (first | refine dx_seq fit ?_ | refine dx_skip fit ?_ | refine dx_label fit ?_ | refine dx_inBlock fit ?_ | refine dx_block fit ?_)
  refine dx_rg fit (RecOk.none'.add c2) List.toList_toArray ?_
  repeat (first
    | refine th_still (wanted_none rfl) rfl (by simp (disch := first | omega | decide) [g1]; try rfl) ?_
    | (refine th_not (wanted_no rfl rfl ?_) ?_; focus (simp [g1]; done))
    | (refine th_not (wanted_off rfl rfl ?_) ?_; focus (simp [g1]; done))
    | (refine th_still (wanted_yes rfl rfl ?_) rfl (by simp (disch := first | omega | decide) [g1]; try rfl) ?_; focus (simp [g1]; done))
    | refine th_call (wanted_none rfl) rfl (by simp (disch := first | omega | decide) [g1, Rec.add_same, Rec.add_other_f]; first | done | rfl | exact ⟨rfl, rfl⟩) ?_
    | (refine th_call (wanted_yes rfl rfl ?_) rfl (by simp (disch := first | omega | decide) [g1, Rec.add_same, Rec.add_other_f]; first | done | rfl | exact ⟨rfl, rfl⟩) ?_; focus (simp [g1]; done)))
  refine th_nil ?_
  repeat (first | refine dx_seq fit ?_ | refine dx_skip fit ?_ | refine dx_label fit ?_ | refine dx_inBlock fit ?_ | refine dx_block fit ?_)
  refine dx_cond fit (x := false) (by simp) ?_
  -- the bounds
  obtain ⟨N1, hN1⟩ : ∃ n, gs.length = n := ⟨_, rfl⟩
  obtain ⟨N2, hN2⟩ : ∃ n, files.length = n := ⟨_, rfl⟩
  obtain ⟨N3, hN3⟩ : ∃ n, places.length = n := ⟨_, rfl⟩
  rw [hN1] at hgl; rw [hN2] at hfl; rw [hN3] at hpl
  have early : ∀ t' : AT, t'.n = 101 → t'.get 31 = .bool true ∨ t'.get 31 = .bool false → True := fun _ _ _ => trivial
  by_cases b1 : 20 < N1
  · have b1' : (20 : Int) < (N1 : Int) := by omega
    repeat (first | refine dx_seq fit ?_ | refine dx_skip fit ?_ | refine dx_label fit ?_ | refine dx_inBlock fit ?_ | refine dx_block fit ?_)
    refine dx_rg fit RecOk.none' List.toList_toArray ?_
    repeat (first
      | refine th_still (wanted_none rfl) rfl (by simp (disch := first | omega | decide) [hgl, b1, b1', g2]; try rfl) ?_
      | (refine th_not (wanted_no rfl rfl ?_) ?_; focus (simp [hgl, b1, b1', g2]; done))
      | (refine th_not (wanted_off rfl rfl ?_) ?_; focus (simp [hgl, b1, b1', g2]; done))
      | (refine th_still (wanted_yes rfl rfl ?_) rfl (by simp (disch := first | omega | decide) [hgl, b1, b1', g2]; try rfl) ?_; focus (simp [hgl, b1, b1', g2]; done)))
    refine th_nil ?_
    repeat (first | refine dx_seq fit ?_ | refine dx_skip fit ?_ | refine dx_label fit ?_ | refine dx_inBlock fit ?_ | refine dx_block fit ?_)
    refine dx_cond fit (x := true) (by simp) ?_
    repeat (first | refine dx_seq fit ?_ | refine dx_skip fit ?_ | refine dx_label fit ?_ | refine dx_inBlock fit ?_ | refine dx_block fit ?_)
    refine dx_rg fit RecOk.none' List.toList_toArray ?_
    repeat (first
      | refine th_still (wanted_none rfl) rfl (by simp (disch := first | omega | decide) [g9]; try rfl) ?_
      | (refine th_not (wanted_no rfl rfl ?_) ?_; focus (simp [g9]; done))
      | (refine th_not (wanted_off rfl rfl ?_) ?_; focus (simp [g9]; done))
      | (refine th_still (wanted_yes rfl rfl ?_) rfl (by simp (disch := first | omega | decide) [g9]; try rfl) ?_; focus (simp [g9]; done)))
    refine th_nil ?_
    repeat (first | refine dx_seq fit ?_ | refine dx_skip fit ?_ | refine dx_label fit ?_ | refine dx_inBlock fit ?_ | refine dx_block fit ?_)
    refine dx_ret fit ?_
    exact dx_out fit Tryz.func3 (rs := [.tmp 6]) rfl (by simp []; first | done | rfl | exact ⟨rfl, rfl⟩) rfl
  have b1' : ¬ (20 : Int) < (N1 : Int) := by omega
  by_cases b2 : 10 < N2
  · have b2' : (10 : Int) < (N2 : Int) := by omega
    repeat (first | refine dx_seq fit ?_ | refine dx_skip fit ?_ | refine dx_label fit ?_ | refine dx_inBlock fit ?_ | refine dx_block fit ?_)
    refine dx_rg fit RecOk.none' List.toList_toArray ?_
    repeat (first
      | refine th_still (wanted_none rfl) rfl (by simp (disch := first | omega | decide) [hgl, hfl, b1, b1', b2, b2', g2]; try rfl) ?_
      | (refine th_not (wanted_no rfl rfl ?_) ?_; focus (simp [hgl, hfl, b1, b1', b2, b2', g2]; done))
      | (refine th_not (wanted_off rfl rfl ?_) ?_; focus (simp [hgl, hfl, b1, b1', b2, b2', g2]; done))
      | (refine th_still (wanted_yes rfl rfl ?_) rfl (by simp (disch := first | omega | decide) [hgl, hfl, b1, b1', b2, b2', g2]; try rfl) ?_; focus (simp [hgl, hfl, b1, b1', b2, b2', g2]; done)))
    refine th_nil ?_
    repeat (first | refine dx_seq fit ?_ | refine dx_skip fit ?_ | refine dx_label fit ?_ | refine dx_inBlock fit ?_ | refine dx_block fit ?_)
    refine dx_cond fit (x := true) (by simp) ?_
    repeat (first | refine dx_seq fit ?_ | refine dx_skip fit ?_ | refine dx_label fit ?_ | refine dx_inBlock fit ?_ | refine dx_block fit ?_)
    refine dx_rg fit RecOk.none' List.toList_toArray ?_
    repeat (first
      | refine th_still (wanted_none rfl) rfl (by simp (disch := first | omega | decide) [g9]; try rfl) ?_
      | (refine th_not (wanted_no rfl rfl ?_) ?_; focus (simp [g9]; done))
      | (refine th_not (wanted_off rfl rfl ?_) ?_; focus (simp [g9]; done))
      | (refine th_still (wanted_yes rfl rfl ?_) rfl (by simp (disch := first | omega | decide) [g9]; try rfl) ?_; focus (simp [g9]; done)))
    refine th_nil ?_
    repeat (first | refine dx_seq fit ?_ | refine dx_skip fit ?_ | refine dx_label fit ?_ | refine dx_inBlock fit ?_ | refine dx_block fit ?_)
    refine dx_ret fit ?_
    exact dx_out fit Tryz.func3 (rs := [.tmp 6]) rfl (by simp []; first | done | rfl | exact ⟨rfl, rfl⟩) rfl
  have b2' : ¬ (10 : Int) < (N2 : Int) := by omega
  by_cases b3 : 10 < N3
  · have b3' : (10 : Int) < (N3 : Int) := by omega
    repeat (first | refine dx_seq fit ?_ | refine dx_skip fit ?_ | refine dx_label fit ?_ | refine dx_inBlock fit ?_ | refine dx_block fit ?_)
    refine dx_rg fit RecOk.none' List.toList_toArray ?_
    repeat (first
      | refine th_still (wanted_none rfl) rfl (by simp (disch := first | omega | decide) [hgl, hfl, hpl, b1, b1', b2, b2', b3, b3', g2]; try rfl) ?_
      | (refine th_not (wanted_no rfl rfl ?_) ?_; focus (simp [hgl, hfl, hpl, b1, b1', b2, b2', b3, b3', g2]; done))
      | (refine th_not (wanted_off rfl rfl ?_) ?_; focus (simp [hgl, hfl, hpl, b1, b1', b2, b2', b3, b3', g2]; done))
      | (refine th_still (wanted_yes rfl rfl ?_) rfl (by simp (disch := first | omega | decide) [hgl, hfl, hpl, b1, b1', b2, b2', b3, b3', g2]; try rfl) ?_; focus (simp [hgl, hfl, hpl, b1, b1', b2, b2', b3, b3', g2]; done)))
    refine th_nil ?_
    repeat (first | refine dx_seq fit ?_ | refine dx_skip fit ?_ | refine dx_label fit ?_ | refine dx_inBlock fit ?_ | refine dx_block fit ?_)
    refine dx_cond fit (x := true) (by simp) ?_
    repeat (first | refine dx_seq fit ?_ | refine dx_skip fit ?_ | refine dx_label fit ?_ | refine dx_inBlock fit ?_ | refine dx_block fit ?_)
    refine dx_rg fit RecOk.none' List.toList_toArray ?_
    repeat (first
      | refine th_still (wanted_none rfl) rfl (by simp (disch := first | omega | decide) [g9]; try rfl) ?_
      | (refine th_not (wanted_no rfl rfl ?_) ?_; focus (simp [g9]; done))
      | (refine th_not (wanted_off rfl rfl ?_) ?_; focus (simp [g9]; done))
      | (refine th_still (wanted_yes rfl rfl ?_) rfl (by simp (disch := first | omega | decide) [g9]; try rfl) ?_; focus (simp [g9]; done)))
    refine th_nil ?_
    repeat (first | refine dx_seq fit ?_ | refine dx_skip fit ?_ | refine dx_label fit ?_ | refine dx_inBlock fit ?_ | refine dx_block fit ?_)
    refine dx_ret fit ?_
    exact dx_out fit Tryz.func3 (rs := [.tmp 6]) rfl (by simp []; first | done | rfl | exact ⟨rfl, rfl⟩) rfl
  have b3' : ¬ (10 : Int) < (N3 : Int) := by omega
  repeat (first | refine dx_seq fit ?_ | refine dx_skip fit ?_ | refine dx_label fit ?_ | refine dx_inBlock fit ?_ | refine dx_block fit ?_)
  refine dx_rg fit RecOk.none' List.toList_toArray ?_
  repeat (first
    | refine th_still (wanted_none rfl) rfl (by simp (disch := first | omega | decide) [hgl, hfl, hpl, b1, b1', b2, b2', b3, b3', g2]; try rfl) ?_
    | (refine th_not (wanted_no rfl rfl ?_) ?_; focus (simp [hgl, hfl, hpl, b1, b1', b2, b2', b3, b3', g2]; done))
    | (refine th_not (wanted_off rfl rfl ?_) ?_; focus (simp [hgl, hfl, hpl, b1, b1', b2, b2', b3, b3', g2]; done))
    | (refine th_still (wanted_yes rfl rfl ?_) rfl (by simp (disch := first | omega | decide) [hgl, hfl, hpl, b1, b1', b2, b2', b3, b3', g2]; try rfl) ?_; focus (simp [hgl, hfl, hpl, b1, b1', b2, b2', b3, b3', g2]; done)))
  refine th_nil ?_
  repeat (first | refine dx_seq fit ?_ | refine dx_skip fit ?_ | refine dx_label fit ?_ | refine dx_inBlock fit ?_ | refine dx_block fit ?_)
  refine dx_cond fit (x := false) (by simp) ?_
  -- the law's own list, the table
  obtain ⟨A3, hA3⟩ : ∃ A3, A3 = (A2.new (.cells [.nilFn] 25 false)).put A2.next (.cells [.fn (.func 7) [] []] 25 false) := ⟨_, rfl⟩
  have k3 : Keep A2 A3 := by rw [hA3]; exact (Keep.new _ _).put (Nat.le_refl _) _
  have n3 : A3.next = A2.next + 1 := by rw [hA3]; rfl
  have g3 : A3.get A2.next = some (.cells [.fn (.func 7) [] []] 25 false) := by rw [hA3]; exact AH.get_put_same _ _ _
  obtain ⟨A5, hA5⟩ : ∃ A5, A5 = ((A3.new (.cells [.slice none 0 (some 0), .slice none 0 (some 0)] 29 false)).new (.cells [.ptr none] 26 false)).put (A2.next + 2) (.cells [.ptr (some (A2.next + 1, 0))] 26 false) := ⟨_, rfl⟩
  have k5 : Keep A3 A5 := by rw [hA5]; exact ((Keep.new _ _).trans (.new _ _)).put (by omega) _
  have n5 : A5.next = A2.next + 3 := by rw [hA5]; simp only [AH.next_put, AH.next_new]; omega
  have g5t : A5.get (A2.next + 1) = some (.cells [.slice none 0 (some 0), .slice none 0 (some 0)] 29 false) := by
    rw [hA5, AH.get_put_other _ _ _ _ (by omega), AH.get_new_other _ _ _ (by rw [AH.next_new]; omega), ← n3]; exact AH.get_new_same _ _
  have g58 : A5.get (A2.next + 2) = some (.cells [.ptr (some (A2.next + 1, 0))] 26 false) := by rw [hA5]; exact AH.get_put_same _ _ _
  have g57 : A5.get A2.next = some (.cells [.fn (.func 7) [] []] 25 false) := by rw [k5.2 _ (by omega)]; exact g3
  have g54 : A5.get A.next = some (.cells [sf] 23 false) := by rw [k5.2 _ (by have := k2.1; omega), k3.2 _ (by have := k2.1; omega)]; exact g2
  have hm : ((A3.new (.cells [.slice none 0 (some 0), .slice none 0 (some 0)] 29 false)).new (.cells [.ptr none] 26 false)).get (A2.next + 2) = some (.cells [.ptr none] 26 false) := by
    have := AH.get_new_same (A3.new (.cells [.slice none 0 (some 0), .slice none 0 (some 0)] 29 false)) (.cells [.ptr none] 26 false)
    rw [AH.next_new, n3] at this; exact this
  repeat (first | refine dx_seq fit ?_ | refine dx_skip fit ?_ | refine dx_label fit ?_ | refine dx_inBlock fit ?_ | refine dx_block fit ?_)
  refine dx_rg fit RecOk.none' List.toList_toArray ?_
  repeat (first
    | refine th_still (wanted_none rfl) rfl (by simp (disch := first | omega | decide) [← hA3]; try rfl) ?_
    | (refine th_not (wanted_no rfl rfl ?_) ?_; focus (simp [← hA3]; done))
    | (refine th_not (wanted_off rfl rfl ?_) ?_; focus (simp [← hA3]; done))
    | (refine th_still (wanted_yes rfl rfl ?_) rfl (by simp (disch := first | omega | decide) [← hA3]; try rfl) ?_; focus (simp [← hA3]; done))
    | refine th_make (wanted_none rfl) rfl (by simp (disch := first | omega | decide) [← hA3, Rec.add_same, Rec.add_other_f]; first | done | rfl | exact ⟨rfl, rfl⟩) ?_
    | (refine th_make (wanted_yes rfl rfl ?_) rfl (by simp (disch := first | omega | decide) [← hA3, Rec.add_same, Rec.add_other_f]; first | done | rfl | exact ⟨rfl, rfl⟩) ?_; focus (simp [← hA3]; done))
    | refine th_eff (wanted_none rfl) rfl (by simp (disch := first | omega | decide) [← hA3, Rec.add_same, Rec.add_other_f]; first | done | rfl | exact ⟨rfl, rfl⟩) ?_
    | (refine th_eff (wanted_yes rfl rfl ?_) rfl (by simp (disch := first | omega | decide) [← hA3, Rec.add_same, Rec.add_other_f]; first | done | rfl | exact ⟨rfl, rfl⟩) ?_; focus (simp [← hA3]; done)))
  refine th_nil ?_
  repeat (first | refine dx_seq fit ?_ | refine dx_skip fit ?_ | refine dx_label fit ?_ | refine dx_inBlock fit ?_ | refine dx_block fit ?_)
  repeat (first | refine dx_seq fit ?_ | refine dx_skip fit ?_ | refine dx_label fit ?_ | refine dx_inBlock fit ?_ | refine dx_block fit ?_)
  refine dx_rg fit RecOk.none' List.toList_toArray ?_
  repeat (first
    | refine th_still (wanted_none rfl) rfl (by simp (disch := first | omega | decide) [n3, hm, ← hA5]; try rfl) ?_
    | (refine th_not (wanted_no rfl rfl ?_) ?_; focus (simp [n3, hm, ← hA5]; done))
    | (refine th_not (wanted_off rfl rfl ?_) ?_; focus (simp [n3, hm, ← hA5]; done))
    | (refine th_still (wanted_yes rfl rfl ?_) rfl (by simp (disch := first | omega | decide) [n3, hm, ← hA5]; try rfl) ?_; focus (simp [n3, hm, ← hA5]; done))
    | refine th_make (wanted_none rfl) rfl (by simp (disch := first | omega | decide) [n3, hm, ← hA5, Rec.add_same, Rec.add_other_f]; first | done | rfl | exact ⟨rfl, rfl⟩) ?_
    | (refine th_make (wanted_yes rfl rfl ?_) rfl (by simp (disch := first | omega | decide) [n3, hm, ← hA5, Rec.add_same, Rec.add_other_f]; first | done | rfl | exact ⟨rfl, rfl⟩) ?_; focus (simp [n3, hm, ← hA5]; done))
    | refine th_eff (wanted_none rfl) rfl (by simp (disch := first | omega | decide) [n3, hm, ← hA5, Rec.add_same, Rec.add_other_f]; first | done | rfl | exact ⟨rfl, rfl⟩) ?_
    | (refine th_eff (wanted_yes rfl rfl ?_) rfl (by simp (disch := first | omega | decide) [n3, hm, ← hA5, Rec.add_same, Rec.add_other_f]; first | done | rfl | exact ⟨rfl, rfl⟩) ?_; focus (simp [n3, hm, ← hA5]; done)))
  refine th_nil ?_
  repeat (first | refine dx_seq fit ?_ | refine dx_skip fit ?_ | refine dx_label fit ?_ | refine dx_inBlock fit ?_ | refine dx_block fit ?_)
  repeat (first | refine dx_seq fit ?_ | refine dx_skip fit ?_ | refine dx_label fit ?_ | refine dx_inBlock fit ?_ | refine dx_block fit ?_)
  refine dx_rg fit RecOk.none' List.toList_toArray ?_
  repeat (first
    | refine th_still (wanted_none rfl) rfl (by simp (disch := first | omega | decide) [hpl]; try rfl) ?_
    | (refine th_not (wanted_no rfl rfl ?_) ?_; focus (simp [hpl]; done))
    | (refine th_not (wanted_off rfl rfl ?_) ?_; focus (simp [hpl]; done))
    | (refine th_still (wanted_yes rfl rfl ?_) rfl (by simp (disch := first | omega | decide) [hpl]; try rfl) ?_; focus (simp [hpl]; done)))
  refine th_nil ?_
  repeat (first | refine dx_seq fit ?_ | refine dx_skip fit ?_ | refine dx_label fit ?_ | refine dx_inBlock fit ?_ | refine dx_block fit ?_)
  have hkA : Keep A A5 := (k1.trans k2).trans (k3.trans k5)
  have hP5 := hP.keep hkA.1 hkA.2
  have tab0 : TabFrom A5 (A2.next + 1) (places.take 0) A5.next := ⟨0, 0, [], [], ⟨⟨_, _, g5t, .inl ⟨rfl, rfl⟩, .inl ⟨rfl, rfl⟩⟩, rfl, ⟨by omega, fun h => absurd rfl h⟩, fun h => absurd rfl h, rfl⟩, List.Pairwise.nil, by simp, fun h => absurd rfl h, fun u => by simp [hasWord]⟩
  refine dx_loop_ind fit (fun g t A' => ∃ i : Nat, t.n = 101 ∧ t.get 0 = gsl ∧ t.get 2 = sp ∧ t.get 4 = .ptr (some (A.next, 0)) ∧ t.get 7 = .ptr (some (A2.next, 0)) ∧ t.get 8 = .ptr (some (A2.next + 2, 0)) ∧ t.get 34 = sp ∧ t.get 35 = .int .i64 N3 ∧ t.get 36 = .int .i64 i ∧
      i ≤ N3 ∧ N3 - i ≤ g ∧ TabFrom A' (A2.next + 1) (places.take i) A5.next ∧ A5.next ≤ A'.next ∧ ∀ c, c < A5.next → c ≠ A2.next + 1 → A'.get c = A5.get c) N3
    ⟨0, by simp, by simp, by simp, by simp, by simp, by simp, by simp [hpl], by simp [hpl], by simp, by omega, by omega, tab0, Nat.le_refl _, fun _ _ _ => rfl⟩ ?_
  rintro g t Ai ⟨i, tn, t0, t2, t4, t7, t8, t34, t35, t36, hi1, hi2, htab, hn5, hk5⟩ hrec
  repeat (first | refine dx_seq fit ?_ | refine dx_skip fit ?_ | refine dx_label fit ?_ | refine dx_inBlock fit ?_ | refine dx_block fit ?_)
  repeat (first | refine dx_seq fit ?_ | refine dx_skip fit ?_ | refine dx_label fit ?_ | refine dx_inBlock fit ?_ | refine dx_block fit ?_)
  refine dx_rg fit RecOk.none' List.toList_toArray ?_
  repeat (first
    | refine th_still (wanted_none rfl) rfl (by simp (disch := first | omega | decide) [tn, t0, t2, t4, t7, t8, t34, t35, t36]; try rfl) ?_
    | (refine th_not (wanted_no rfl rfl ?_) ?_; focus (simp [tn, t0, t2, t4, t7, t8, t34, t35, t36]; done))
    | (refine th_not (wanted_off rfl rfl ?_) ?_; focus (simp [tn, t0, t2, t4, t7, t8, t34, t35, t36]; done))
    | (refine th_still (wanted_yes rfl rfl ?_) rfl (by simp (disch := first | omega | decide) [tn, t0, t2, t4, t7, t8, t34, t35, t36]; try rfl) ?_; focus (simp [tn, t0, t2, t4, t7, t8, t34, t35, t36]; done)))
  refine th_nil ?_
  repeat (first | refine dx_seq fit ?_ | refine dx_skip fit ?_ | refine dx_label fit ?_ | refine dx_inBlock fit ?_ | refine dx_block fit ?_)
  by_cases hlt : i < N3
  · refine dx_cond fit (x := true) (by simp [tn, hlt]) ?_
    rcases hP with ⟨rfl, _⟩ | ⟨b, c, q, e, fz, hs2, hgb, hbn, hc⟩
    · simp at hN3; omega
    have hci := hc i (by omega)
    obtain ⟨y, hy⟩ : ∃ y, places.getD i [] = y := ⟨_, rfl⟩
    rw [hy] at hci
    have hgb2 : Ai.get b = some (.cells c e fz) := by
      have h1 := hkA.1
      have h2 := k2.1
      rw [hk5 b (by omega) (by omega), hkA.2 b hbn]; exact hgb
    have hg8 : Ai.get (A2.next + 2) = some (.cells [.ptr (some (A2.next + 1, 0))] 26 false) := by rw [hk5 _ (by omega) (by omega)]; exact g58
    obtain ⟨r, Aj, c8, htab2, hnj, hkj⟩ := htab.put hn5 (by simp; omega) y
    have hs3 : sp = .slice (some (b, 0)) N3 q := by rw [hs2, hN3]
    repeat (first | refine dx_seq fit ?_ | refine dx_skip fit ?_ | refine dx_label fit ?_ | refine dx_inBlock fit ?_ | refine dx_block fit ?_)
    refine dx_rg fit RecOk.none' List.toList_toArray ?_
    repeat (first
      | refine th_still (wanted_none rfl) rfl (by simp (disch := first | omega | decide) [tn, t0, t2, t4, t7, t8, t34, t35, t36, hs3, hlt, hgb2, hci]; try rfl) ?_
      | (refine th_not (wanted_no rfl rfl ?_) ?_; focus (simp [tn, t0, t2, t4, t7, t8, t34, t35, t36, hs3, hlt, hgb2, hci]; done))
      | (refine th_not (wanted_off rfl rfl ?_) ?_; focus (simp [tn, t0, t2, t4, t7, t8, t34, t35, t36, hs3, hlt, hgb2, hci]; done))
      | (refine th_still (wanted_yes rfl rfl ?_) rfl (by simp (disch := first | omega | decide) [tn, t0, t2, t4, t7, t8, t34, t35, t36, hs3, hlt, hgb2, hci]; try rfl) ?_; focus (simp [tn, t0, t2, t4, t7, t8, t34, t35, t36, hs3, hlt, hgb2, hci]; done)))
    refine th_nil ?_
    repeat (first | refine dx_seq fit ?_ | refine dx_skip fit ?_ | refine dx_label fit ?_ | refine dx_inBlock fit ?_ | refine dx_block fit ?_)
    repeat (first | refine dx_seq fit ?_ | refine dx_skip fit ?_ | refine dx_label fit ?_ | refine dx_inBlock fit ?_ | refine dx_block fit ?_)
    refine dx_rg fit (RecOk.none'.add c8) List.toList_toArray ?_
    repeat (first
      | refine th_still (wanted_none rfl) rfl (by simp (disch := first | omega | decide) [tn, t0, t2, t4, t7, t8, t34, t35, t36, hg8]; try rfl) ?_
      | (refine th_not (wanted_no rfl rfl ?_) ?_; focus (simp [tn, t0, t2, t4, t7, t8, t34, t35, t36, hg8]; done))
      | (refine th_not (wanted_off rfl rfl ?_) ?_; focus (simp [tn, t0, t2, t4, t7, t8, t34, t35, t36, hg8]; done))
      | (refine th_still (wanted_yes rfl rfl ?_) rfl (by simp (disch := first | omega | decide) [tn, t0, t2, t4, t7, t8, t34, t35, t36, hg8]; try rfl) ?_; focus (simp [tn, t0, t2, t4, t7, t8, t34, t35, t36, hg8]; done))
      | refine th_call (wanted_none rfl) rfl (by simp (disch := first | omega | decide) [tn, t0, t2, t4, t7, t8, t34, t35, t36, hg8, Rec.add_same, Rec.add_other_f]; first | done | rfl | exact ⟨rfl, rfl⟩) ?_
      | (refine th_call (wanted_yes rfl rfl ?_) rfl (by simp (disch := first | omega | decide) [tn, t0, t2, t4, t7, t8, t34, t35, t36, hg8, Rec.add_same, Rec.add_other_f]; first | done | rfl | exact ⟨rfl, rfl⟩) ?_; focus (simp [tn, t0, t2, t4, t7, t8, t34, t35, t36, hg8]; done)))
    refine th_nil ?_
    repeat (first | refine dx_seq fit ?_ | refine dx_skip fit ?_ | refine dx_label fit ?_ | refine dx_inBlock fit ?_ | refine dx_block fit ?_)
    repeat (first | refine dx_seq fit ?_ | refine dx_skip fit ?_ | refine dx_label fit ?_ | refine dx_inBlock fit ?_ | refine dx_block fit ?_)
    refine dx_rg fit RecOk.none' List.toList_toArray ?_
    repeat (first
      | refine th_still (wanted_none rfl) rfl (by simp (disch := first | omega | decide) [tn, t0, t2, t4, t7, t8, t34, t35, t36, wrap_i64]; try rfl) ?_
      | (refine th_not (wanted_no rfl rfl ?_) ?_; focus (simp [tn, t0, t2, t4, t7, t8, t34, t35, t36, wrap_i64]; done))
      | (refine th_not (wanted_off rfl rfl ?_) ?_; focus (simp [tn, t0, t2, t4, t7, t8, t34, t35, t36, wrap_i64]; done))
      | (refine th_still (wanted_yes rfl rfl ?_) rfl (by simp (disch := first | omega | decide) [tn, t0, t2, t4, t7, t8, t34, t35, t36, wrap_i64]; try rfl) ?_; focus (simp [tn, t0, t2, t4, t7, t8, t34, t35, t36, wrap_i64]; done)))
    refine th_nil ?_
    repeat (first | refine dx_seq fit ?_ | refine dx_skip fit ?_ | refine dx_label fit ?_ | refine dx_inBlock fit ?_ | refine dx_block fit ?_)
    refine hrec (g - 1) _ _ (by omega) ⟨i + 1, by simp [tn], by simp [tn, t0], by simp [tn, t2], by simp [tn, t4], by simp [tn, t7], by simp [tn, t8], by simp [tn, t34], by simp [tn, t35], by simp [tn], by omega, by omega, ?_, by omega, fun c h1 h2 => by rw [hkj c h1 h2, hk5 c h1 h2]⟩
    have : places.take (i + 1) = places.take i ++ [y] := by
      have hl : i < places.length := by omega
      rw [List.take_succ, List.getElem?_eq_getElem hl]
      have : places[i] = y := by rw [← hy]; simp [List.getD, List.getElem?_eq_getElem hl]
      rw [this]; rfl
    rw [this]; exact htab2
  · refine dx_cond fit (x := false) (by simp [tn, hlt]) ?_
    refine dx_exit fit rfl ?_
    obtain rfl : i = N3 := by omega
    rw [List.take_of_length_le (by omega)] at htab
    have hq1 := hkA.1
    have hq2 := k2.1
    have hq3 := k1.1
    have hKA : ∀ c, c < A.next → Ai.get c = A.get c := fun c hc => by rw [hk5 c (by omega) (by omega), hkA.2 c hc]
    have kAi : Keep A Ai := ⟨by omega, hKA⟩
    have hG6 := hG.keep kAi
    have hP6 := hP.keep kAi.1 kAi.2
    have hF6 := hF.keep kAi.1 kAi.2
    have hE : Env Ai A.next A2.next (A2.next + 2) (A2.next + 1) sf files places := ⟨by rw [hk5 _ (by omega) (by omega)]; exact g54, by rw [hk5 _ (by omega) (by omega)]; exact g57, by rw [hk5 _ (by omega) (by omega)]; exact g58, by omega, hF6, htab.is (by omega), by omega⟩
    have hW6 : Within Ai := hW.keep kAi.1 fun b hb => hKA b (by have := hW.le; omega)
    repeat (first | refine dx_seq fit ?_ | refine dx_skip fit ?_ | refine dx_label fit ?_ | refine dx_inBlock fit ?_ | refine dx_block fit ?_)
    refine dx_rg fit RecOk.none' List.toList_toArray ?_
    repeat (first
      | refine th_still (wanted_none rfl) rfl (by simp (disch := first | omega | decide) [tn, t4, t8]; try rfl) ?_
      | (refine th_not (wanted_no rfl rfl ?_) ?_; focus (simp [tn, t4, t8]; done))
      | (refine th_not (wanted_off rfl rfl ?_) ?_; focus (simp [tn, t4, t8]; done))
      | (refine th_still (wanted_yes rfl rfl ?_) rfl (by simp (disch := first | omega | decide) [tn, t4, t8]; try rfl) ?_; focus (simp [tn, t4, t8]; done)))
    refine th_nil ?_
    repeat (first | refine dx_seq fit ?_ | refine dx_skip fit ?_ | refine dx_label fit ?_ | refine dx_inBlock fit ?_ | refine dx_block fit ?_)
    repeat (first | refine dx_seq fit ?_ | refine dx_skip fit ?_ | refine dx_label fit ?_ | refine dx_inBlock fit ?_ | refine dx_block fit ?_)
    refine dx_rg fit RecOk.none' List.toList_toArray ?_
    repeat (first
      | refine th_still (wanted_none rfl) rfl (by simp (disch := first | omega | decide) [tn]; try rfl) ?_
      | (refine th_not (wanted_no rfl rfl ?_) ?_; focus (simp [tn]; done))
      | (refine th_not (wanted_off rfl rfl ?_) ?_; focus (simp [tn]; done))
      | (refine th_still (wanted_yes rfl rfl ?_) rfl (by simp (disch := first | omega | decide) [tn]; try rfl) ?_; focus (simp [tn]; done)))
    refine th_nil ?_
    repeat (first | refine dx_seq fit ?_ | refine dx_skip fit ?_ | refine dx_label fit ?_ | refine dx_inBlock fit ?_ | refine dx_block fit ?_)
    repeat (first | refine dx_seq fit ?_ | refine dx_skip fit ?_ | refine dx_label fit ?_ | refine dx_inBlock fit ?_ | refine dx_block fit ?_)
    refine dx_rg fit RecOk.none' List.toList_toArray ?_
    repeat (first
      | refine th_still (wanted_none rfl) rfl (by simp (disch := first | omega | decide) [tn, t0, hgl]; try rfl) ?_
      | (refine th_not (wanted_no rfl rfl ?_) ?_; focus (simp [tn, t0, hgl]; done))
      | (refine th_not (wanted_off rfl rfl ?_) ?_; focus (simp [tn, t0, hgl]; done))
      | (refine th_still (wanted_yes rfl rfl ?_) rfl (by simp (disch := first | omega | decide) [tn, t0, hgl]; try rfl) ?_; focus (simp [tn, t0, hgl]; done)))
    refine th_nil ?_
    repeat (first | refine dx_seq fit ?_ | refine dx_skip fit ?_ | refine dx_label fit ?_ | refine dx_inBlock fit ?_ | refine dx_block fit ?_)
    have hgl0 : gsl = .slice ga gs.length gq := by rw [hN1]; exact hgl
    refine dx_loop_ind fit (fun g t A' => ∃ (i : Nat) (w : Int), t.n = 101 ∧ t.get 0 = gsl ∧ t.get 2 = sp ∧ t.get 4 = .ptr (some (A.next, 0)) ∧ t.get 7 = .ptr (some (A2.next, 0)) ∧ t.get 8 = .ptr (some (A2.next + 2, 0)) ∧
        t.get 11 = .fn (.func 9) [] [.ptr (some (A.next, 0)), .ptr (some (A2.next + 2, 0))] ∧ t.get 12 = .int .i64 w ∧ t.get 45 = gsl ∧ t.get 46 = .int .i64 N1 ∧ t.get 47 = .int .i64 i ∧ i ≤ N1 ∧ N1 - i ≤ g ∧
        ((w = 0 ∧ wantOf files places (gs.drop i) = wantOf files places gs) ∨ (w = 23 ∧ wantOf files places gs = 23) ∨ (w = 24 ∧ wantOf files places gs = 24)) ∧ Keep Ai A') N1
      ⟨0, 0, by simp [tn], by simp [tn, t0, hgl], by simp [tn, t2], by simp [tn, t4], by simp [tn, t7], by simp [tn, t8], by simp [tn], by simp [tn], by simp [tn, hgl], by simp [tn, hgl], by simp [tn], by omega, by omega, .inl ⟨rfl, rfl⟩, .refl _⟩ ?_
    clear tn t0 t2 t4 t7 t8 t34 t35 t36 hrec htab
    clear hi1 hi2 t g
    rintro g t Aj ⟨i, w, tn, t0, t2, t4, t7, t8, t11, t12, t45, t46, t47, hi1, hi2, hw, hk⟩ hrec
    have hEj0 := hE.keep hk
    have hPj0 := hP6.keep hk.1 hk.2
    repeat (first | refine dx_seq fit ?_ | refine dx_skip fit ?_ | refine dx_label fit ?_ | refine dx_inBlock fit ?_ | refine dx_block fit ?_)
    repeat (first | refine dx_seq fit ?_ | refine dx_skip fit ?_ | refine dx_label fit ?_ | refine dx_inBlock fit ?_ | refine dx_block fit ?_)
    refine dx_rg fit RecOk.none' List.toList_toArray ?_
    repeat (first
      | refine th_still (wanted_none rfl) rfl (by simp (disch := first | omega | decide) [tn, t0, t2, t4, t7, t8, t11, t12, t45, t46, t47]; try rfl) ?_
      | (refine th_not (wanted_no rfl rfl ?_) ?_; focus (simp [tn, t0, t2, t4, t7, t8, t11, t12, t45, t46, t47]; done))
      | (refine th_not (wanted_off rfl rfl ?_) ?_; focus (simp [tn, t0, t2, t4, t7, t8, t11, t12, t45, t46, t47]; done))
      | (refine th_still (wanted_yes rfl rfl ?_) rfl (by simp (disch := first | omega | decide) [tn, t0, t2, t4, t7, t8, t11, t12, t45, t46, t47]; try rfl) ?_; focus (simp [tn, t0, t2, t4, t7, t8, t11, t12, t45, t46, t47]; done)))
    refine th_nil ?_
    repeat (first | refine dx_seq fit ?_ | refine dx_skip fit ?_ | refine dx_label fit ?_ | refine dx_inBlock fit ?_ | refine dx_block fit ?_)
    by_cases hlt : i < N1
    · refine dx_cond fit (x := true) (by simp [tn, hlt]) ?_
      obtain ⟨x, hx⟩ : ∃ x, gs[i]? = some x := ⟨_, List.getElem?_eq_getElem (by omega)⟩
      obtain ⟨xa, xb⟩ := x
      have hdrop : gs.drop i = (xa, xb) :: gs.drop (i + 1) := by
        have hl : i < gs.length := by omega
        rw [List.drop_eq_getElem_cons hl]
        congr 1
        rw [List.getElem?_eq_getElem hl] at hx
        exact Option.some.inj hx
      rw [hdrop] at hw
      simp only [wantOf] at hw
      rcases hG.keep (kAi.trans hk) with ⟨rfl, _⟩ | ⟨b, c, q2, e, fz, hs2, hgb, hbn, hc⟩
      · simp at hN1; omega
      rw [hN1] at hs2
      have hci := hc i _ hx
      simp only at hci
      obtain ⟨Ak, hAk⟩ : ∃ Ak, Ak = (Aj.new (.cells [.str [], .str []] 34 false)).put Aj.next (.cells [.str xa, .str xb] 34 false) := ⟨_, rfl⟩
      have kk : Keep Aj Ak := by rw [hAk]; exact (Keep.new _ _).put (Nat.le_refl _) _
      have gk : Ak.get Aj.next = some (.cells [.str xa, .str xb] 34 false) := by rw [hAk]; exact AH.get_put_same _ _ _
      have hgb2 : (Aj.new (.cells [.str [], .str []] 34 false)).get b = some (.cells c e fz) := by rw [AH.get_new_other _ _ _ (by omega)]; exact hgb
      have hEk := hEj0.keep kk
      have hPk := hPj0.keep kk.1 kk.2
      have h4k := hEk.h4
      have h7k := hEk.h7
      have cF := list_spec hEk.fs hEk.few xa
      have cP := list_spec hPk (by omega) xb
      have kAk := hk.trans kk
      repeat (first | refine dx_seq fit ?_ | refine dx_skip fit ?_ | refine dx_label fit ?_ | refine dx_inBlock fit ?_ | refine dx_block fit ?_)
      refine dx_rg fit RecOk.none' List.toList_toArray ?_
      repeat (first
        | refine th_still (wanted_none rfl) rfl (by simp (disch := first | omega | decide) [tn, t0, t2, t4, t7, t8, t11, t12, t45, t46, t47, hs2, hlt, hgb, hgb2, hci, ← hAk]; try rfl) ?_
        | (refine th_not (wanted_no rfl rfl ?_) ?_; focus (simp [tn, t0, t2, t4, t7, t8, t11, t12, t45, t46, t47, hs2, hlt, hgb, hgb2, hci, ← hAk]; done))
        | (refine th_not (wanted_off rfl rfl ?_) ?_; focus (simp [tn, t0, t2, t4, t7, t8, t11, t12, t45, t46, t47, hs2, hlt, hgb, hgb2, hci, ← hAk]; done))
        | (refine th_still (wanted_yes rfl rfl ?_) rfl (by simp (disch := first | omega | decide) [tn, t0, t2, t4, t7, t8, t11, t12, t45, t46, t47, hs2, hlt, hgb, hgb2, hci, ← hAk]; try rfl) ?_; focus (simp [tn, t0, t2, t4, t7, t8, t11, t12, t45, t46, t47, hs2, hlt, hgb, hgb2, hci, ← hAk]; done))
        | refine th_make (wanted_none rfl) rfl (by simp (disch := first | omega | decide) [tn, t0, t2, t4, t7, t8, t11, t12, t45, t46, t47, hs2, hlt, hgb, hgb2, hci, ← hAk, Rec.add_same, Rec.add_other_f]; first | done | rfl | exact ⟨rfl, rfl⟩) ?_
        | (refine th_make (wanted_yes rfl rfl ?_) rfl (by simp (disch := first | omega | decide) [tn, t0, t2, t4, t7, t8, t11, t12, t45, t46, t47, hs2, hlt, hgb, hgb2, hci, ← hAk, Rec.add_same, Rec.add_other_f]; first | done | rfl | exact ⟨rfl, rfl⟩) ?_; focus (simp [tn, t0, t2, t4, t7, t8, t11, t12, t45, t46, t47, hs2, hlt, hgb, hgb2, hci, ← hAk]; done))
        | refine th_eff (wanted_none rfl) rfl (by simp (disch := first | omega | decide) [tn, t0, t2, t4, t7, t8, t11, t12, t45, t46, t47, hs2, hlt, hgb, hgb2, hci, ← hAk, Rec.add_same, Rec.add_other_f]; first | done | rfl | exact ⟨rfl, rfl⟩) ?_
        | (refine th_eff (wanted_yes rfl rfl ?_) rfl (by simp (disch := first | omega | decide) [tn, t0, t2, t4, t7, t8, t11, t12, t45, t46, t47, hs2, hlt, hgb, hgb2, hci, ← hAk, Rec.add_same, Rec.add_other_f]; first | done | rfl | exact ⟨rfl, rfl⟩) ?_; focus (simp [tn, t0, t2, t4, t7, t8, t11, t12, t45, t46, t47, hs2, hlt, hgb, hgb2, hci, ← hAk]; done)))
      refine th_nil ?_
      repeat (first | refine dx_seq fit ?_ | refine dx_skip fit ?_ | refine dx_label fit ?_ | refine dx_inBlock fit ?_ | refine dx_block fit ?_)
      rcases hw with ⟨rfl, hw⟩ | ⟨rfl, hw⟩ | ⟨rfl, hw⟩
      rotate_left
      · repeat (first | refine dx_seq fit ?_ | refine dx_skip fit ?_ | refine dx_label fit ?_ | refine dx_inBlock fit ?_ | refine dx_block fit ?_)
        refine dx_rg fit RecOk.none' List.toList_toArray ?_
        repeat (first
          | refine th_still (wanted_none rfl) rfl (by simp (disch := first | omega | decide) [tn, t0, t2, t4, t7, t8, t11, t12, t45, t46, t47]; try rfl) ?_
          | (refine th_not (wanted_no rfl rfl ?_) ?_; focus (simp [tn, t0, t2, t4, t7, t8, t11, t12, t45, t46, t47]; done))
          | (refine th_not (wanted_off rfl rfl ?_) ?_; focus (simp [tn, t0, t2, t4, t7, t8, t11, t12, t45, t46, t47]; done))
          | (refine th_still (wanted_yes rfl rfl ?_) rfl (by simp (disch := first | omega | decide) [tn, t0, t2, t4, t7, t8, t11, t12, t45, t46, t47]; try rfl) ?_; focus (simp [tn, t0, t2, t4, t7, t8, t11, t12, t45, t46, t47]; done)))
        refine th_nil ?_
        repeat (first | refine dx_seq fit ?_ | refine dx_skip fit ?_ | refine dx_label fit ?_ | refine dx_inBlock fit ?_ | refine dx_block fit ?_)
        refine dx_cond fit (x := true) (by simp [tn]) ?_
        repeat (first | refine dx_seq fit ?_ | refine dx_skip fit ?_ | refine dx_label fit ?_ | refine dx_inBlock fit ?_ | refine dx_block fit ?_)
        refine dx_rg fit RecOk.none' List.toList_toArray ?_
        repeat (first
          | refine th_still (wanted_none rfl) rfl (by simp (disch := first | omega | decide) [tn, t0, t2, t4, t7, t8, t11, t12, t45, t46, t47, wrap_i64]; try rfl) ?_
          | (refine th_not (wanted_no rfl rfl ?_) ?_; focus (simp [tn, t0, t2, t4, t7, t8, t11, t12, t45, t46, t47, wrap_i64]; done))
          | (refine th_not (wanted_off rfl rfl ?_) ?_; focus (simp [tn, t0, t2, t4, t7, t8, t11, t12, t45, t46, t47, wrap_i64]; done))
          | (refine th_still (wanted_yes rfl rfl ?_) rfl (by simp (disch := first | omega | decide) [tn, t0, t2, t4, t7, t8, t11, t12, t45, t46, t47, wrap_i64]; try rfl) ?_; focus (simp [tn, t0, t2, t4, t7, t8, t11, t12, t45, t46, t47, wrap_i64]; done)))
        refine th_nil ?_
        repeat (first | refine dx_seq fit ?_ | refine dx_skip fit ?_ | refine dx_label fit ?_ | refine dx_inBlock fit ?_ | refine dx_block fit ?_)
        exact hrec (g - 1) _ _ (by omega) ⟨i + 1, 23, by simp [tn], by simp [tn, t0], by simp [tn, t2], by simp [tn, t4], by simp [tn, t7], by simp [tn, t8], by simp [tn, t11], by simp [tn, t12], by simp [tn, t45], by simp [tn, t46], by simp [tn], by omega, by omega, .inr (.inl ⟨rfl, hw⟩), kAk⟩
      · repeat (first | refine dx_seq fit ?_ | refine dx_skip fit ?_ | refine dx_label fit ?_ | refine dx_inBlock fit ?_ | refine dx_block fit ?_)
        refine dx_rg fit RecOk.none' List.toList_toArray ?_
        repeat (first
          | refine th_still (wanted_none rfl) rfl (by simp (disch := first | omega | decide) [tn, t0, t2, t4, t7, t8, t11, t12, t45, t46, t47]; try rfl) ?_
          | (refine th_not (wanted_no rfl rfl ?_) ?_; focus (simp [tn, t0, t2, t4, t7, t8, t11, t12, t45, t46, t47]; done))
          | (refine th_not (wanted_off rfl rfl ?_) ?_; focus (simp [tn, t0, t2, t4, t7, t8, t11, t12, t45, t46, t47]; done))
          | (refine th_still (wanted_yes rfl rfl ?_) rfl (by simp (disch := first | omega | decide) [tn, t0, t2, t4, t7, t8, t11, t12, t45, t46, t47]; try rfl) ?_; focus (simp [tn, t0, t2, t4, t7, t8, t11, t12, t45, t46, t47]; done)))
        refine th_nil ?_
        repeat (first | refine dx_seq fit ?_ | refine dx_skip fit ?_ | refine dx_label fit ?_ | refine dx_inBlock fit ?_ | refine dx_block fit ?_)
        refine dx_cond fit (x := true) (by simp [tn]) ?_
        repeat (first | refine dx_seq fit ?_ | refine dx_skip fit ?_ | refine dx_label fit ?_ | refine dx_inBlock fit ?_ | refine dx_block fit ?_)
        refine dx_rg fit RecOk.none' List.toList_toArray ?_
        repeat (first
          | refine th_still (wanted_none rfl) rfl (by simp (disch := first | omega | decide) [tn, t0, t2, t4, t7, t8, t11, t12, t45, t46, t47, wrap_i64]; try rfl) ?_
          | (refine th_not (wanted_no rfl rfl ?_) ?_; focus (simp [tn, t0, t2, t4, t7, t8, t11, t12, t45, t46, t47, wrap_i64]; done))
          | (refine th_not (wanted_off rfl rfl ?_) ?_; focus (simp [tn, t0, t2, t4, t7, t8, t11, t12, t45, t46, t47, wrap_i64]; done))
          | (refine th_still (wanted_yes rfl rfl ?_) rfl (by simp (disch := first | omega | decide) [tn, t0, t2, t4, t7, t8, t11, t12, t45, t46, t47, wrap_i64]; try rfl) ?_; focus (simp [tn, t0, t2, t4, t7, t8, t11, t12, t45, t46, t47, wrap_i64]; done)))
        refine th_nil ?_
        repeat (first | refine dx_seq fit ?_ | refine dx_skip fit ?_ | refine dx_label fit ?_ | refine dx_inBlock fit ?_ | refine dx_block fit ?_)
        exact hrec (g - 1) _ _ (by omega) ⟨i + 1, 24, by simp [tn], by simp [tn, t0], by simp [tn, t2], by simp [tn, t4], by simp [tn, t7], by simp [tn, t8], by simp [tn, t11], by simp [tn, t12], by simp [tn, t45], by simp [tn, t46], by simp [tn], by omega, by omega, .inr (.inr ⟨rfl, hw⟩), kAk⟩
      repeat (first | refine dx_seq fit ?_ | refine dx_skip fit ?_ | refine dx_label fit ?_ | refine dx_inBlock fit ?_ | refine dx_block fit ?_)
      refine dx_rg fit RecOk.none' List.toList_toArray ?_
      repeat (first
        | refine th_still (wanted_none rfl) rfl (by simp (disch := first | omega | decide) [tn, t0, t2, t4, t7, t8, t11, t12, t45, t46, t47]; try rfl) ?_
        | (refine th_not (wanted_no rfl rfl ?_) ?_; focus (simp [tn, t0, t2, t4, t7, t8, t11, t12, t45, t46, t47]; done))
        | (refine th_not (wanted_off rfl rfl ?_) ?_; focus (simp [tn, t0, t2, t4, t7, t8, t11, t12, t45, t46, t47]; done))
        | (refine th_still (wanted_yes rfl rfl ?_) rfl (by simp (disch := first | omega | decide) [tn, t0, t2, t4, t7, t8, t11, t12, t45, t46, t47]; try rfl) ?_; focus (simp [tn, t0, t2, t4, t7, t8, t11, t12, t45, t46, t47]; done)))
      refine th_nil ?_
      repeat (first | refine dx_seq fit ?_ | refine dx_skip fit ?_ | refine dx_label fit ?_ | refine dx_inBlock fit ?_ | refine dx_block fit ?_)
      refine dx_cond fit (x := false) (by simp [tn]) ?_
      repeat (first | refine dx_seq fit ?_ | refine dx_skip fit ?_ | refine dx_label fit ?_ | refine dx_inBlock fit ?_ | refine dx_block fit ?_)
      refine dx_rg fit (RecOk.none'.add cF) List.toList_toArray ?_
      repeat (first
        | refine th_still (wanted_none rfl) rfl (by simp (disch := first | omega | decide) [tn, t0, t2, t4, t7, t8, t11, t12, t45, t46, t47, h4k, h7k, gk]; try rfl) ?_
        | (refine th_not (wanted_no rfl rfl ?_) ?_; focus (simp [tn, t0, t2, t4, t7, t8, t11, t12, t45, t46, t47, h4k, h7k, gk]; done))
        | (refine th_not (wanted_off rfl rfl ?_) ?_; focus (simp [tn, t0, t2, t4, t7, t8, t11, t12, t45, t46, t47, h4k, h7k, gk]; done))
        | (refine th_still (wanted_yes rfl rfl ?_) rfl (by simp (disch := first | omega | decide) [tn, t0, t2, t4, t7, t8, t11, t12, t45, t46, t47, h4k, h7k, gk]; try rfl) ?_; focus (simp [tn, t0, t2, t4, t7, t8, t11, t12, t45, t46, t47, h4k, h7k, gk]; done))
        | refine th_call (wanted_none rfl) rfl (by simp (disch := first | omega | decide) [tn, t0, t2, t4, t7, t8, t11, t12, t45, t46, t47, h4k, h7k, gk, Rec.add_same, Rec.add_other_f]; first | done | rfl | exact ⟨rfl, rfl⟩) ?_
        | (refine th_call (wanted_yes rfl rfl ?_) rfl (by simp (disch := first | omega | decide) [tn, t0, t2, t4, t7, t8, t11, t12, t45, t46, t47, h4k, h7k, gk, Rec.add_same, Rec.add_other_f]; first | done | rfl | exact ⟨rfl, rfl⟩) ?_; focus (simp [tn, t0, t2, t4, t7, t8, t11, t12, t45, t46, t47, h4k, h7k, gk]; done)))
      refine th_nil ?_
      repeat (first | refine dx_seq fit ?_ | refine dx_skip fit ?_ | refine dx_label fit ?_ | refine dx_inBlock fit ?_ | refine dx_block fit ?_)
      cases hf : hasWord files xa with
      | false =>
        rw [hf] at hw
        simp only [Bool.false_eq_true, if_false] at hw
        refine dx_cond fit (x := true) (by simp [tn, hf]) ?_
        repeat (first | refine dx_seq fit ?_ | refine dx_skip fit ?_ | refine dx_label fit ?_ | refine dx_inBlock fit ?_ | refine dx_block fit ?_)
        refine dx_rg fit RecOk.none' List.toList_toArray ?_
        repeat (first
          | refine th_still (wanted_none rfl) rfl (by simp (disch := first | omega | decide) [tn, t0, t2, t4, t7, t8, t11, t12, t45, t46, t47]; try rfl) ?_
          | (refine th_not (wanted_no rfl rfl ?_) ?_; focus (simp [tn, t0, t2, t4, t7, t8, t11, t12, t45, t46, t47]; done))
          | (refine th_not (wanted_off rfl rfl ?_) ?_; focus (simp [tn, t0, t2, t4, t7, t8, t11, t12, t45, t46, t47]; done))
          | (refine th_still (wanted_yes rfl rfl ?_) rfl (by simp (disch := first | omega | decide) [tn, t0, t2, t4, t7, t8, t11, t12, t45, t46, t47]; try rfl) ?_; focus (simp [tn, t0, t2, t4, t7, t8, t11, t12, t45, t46, t47]; done)))
        refine th_nil ?_
        repeat (first | refine dx_seq fit ?_ | refine dx_skip fit ?_ | refine dx_label fit ?_ | refine dx_inBlock fit ?_ | refine dx_block fit ?_)
        repeat (first | refine dx_seq fit ?_ | refine dx_skip fit ?_ | refine dx_label fit ?_ | refine dx_inBlock fit ?_ | refine dx_block fit ?_)
        refine dx_rg fit RecOk.none' List.toList_toArray ?_
        repeat (first
          | refine th_still (wanted_none rfl) rfl (by simp (disch := first | omega | decide) [tn, t0, t2, t4, t7, t8, t11, t12, t45, t46, t47, wrap_i64]; try rfl) ?_
          | (refine th_not (wanted_no rfl rfl ?_) ?_; focus (simp [tn, t0, t2, t4, t7, t8, t11, t12, t45, t46, t47, wrap_i64]; done))
          | (refine th_not (wanted_off rfl rfl ?_) ?_; focus (simp [tn, t0, t2, t4, t7, t8, t11, t12, t45, t46, t47, wrap_i64]; done))
          | (refine th_still (wanted_yes rfl rfl ?_) rfl (by simp (disch := first | omega | decide) [tn, t0, t2, t4, t7, t8, t11, t12, t45, t46, t47, wrap_i64]; try rfl) ?_; focus (simp [tn, t0, t2, t4, t7, t8, t11, t12, t45, t46, t47, wrap_i64]; done)))
        refine th_nil ?_
        repeat (first | refine dx_seq fit ?_ | refine dx_skip fit ?_ | refine dx_label fit ?_ | refine dx_inBlock fit ?_ | refine dx_block fit ?_)
        exact hrec (g - 1) _ _ (by omega) ⟨i + 1, 23, by simp [tn], by simp [tn, t0], by simp [tn, t2], by simp [tn, t4], by simp [tn, t7], by simp [tn, t8], by simp [tn, t11], by simp [tn], by simp [tn, t45], by simp [tn, t46], by simp [tn], by omega, by omega, .inr (.inl ⟨rfl, hw.symm⟩), kAk⟩
      | true =>
        rw [hf] at hw
        simp only [if_true] at hw
        refine dx_cond fit (x := false) (by simp [tn, hf]) ?_
        repeat (first | refine dx_seq fit ?_ | refine dx_skip fit ?_ | refine dx_label fit ?_ | refine dx_inBlock fit ?_ | refine dx_block fit ?_)
        refine dx_rg fit RecOk.none' List.toList_toArray ?_
        repeat (first
          | refine th_still (wanted_none rfl) rfl (by simp (disch := first | omega | decide) [tn, t0, t2, t4, t7, t8, t11, t12, t45, t46, t47, gk]; try rfl) ?_
          | (refine th_not (wanted_no rfl rfl ?_) ?_; focus (simp [tn, t0, t2, t4, t7, t8, t11, t12, t45, t46, t47, gk]; done))
          | (refine th_not (wanted_off rfl rfl ?_) ?_; focus (simp [tn, t0, t2, t4, t7, t8, t11, t12, t45, t46, t47, gk]; done))
          | (refine th_still (wanted_yes rfl rfl ?_) rfl (by simp (disch := first | omega | decide) [tn, t0, t2, t4, t7, t8, t11, t12, t45, t46, t47, gk]; try rfl) ?_; focus (simp [tn, t0, t2, t4, t7, t8, t11, t12, t45, t46, t47, gk]; done)))
        refine th_nil ?_
        repeat (first | refine dx_seq fit ?_ | refine dx_skip fit ?_ | refine dx_label fit ?_ | refine dx_inBlock fit ?_ | refine dx_block fit ?_)
        cases hb : bytesEq xb [] with
        | true =>
          rw [hb] at hw
          simp only [if_true] at hw
          refine dx_cond fit (x := true) (by simp [tn, hb]) ?_
          repeat (first | refine dx_seq fit ?_ | refine dx_skip fit ?_ | refine dx_label fit ?_ | refine dx_inBlock fit ?_ | refine dx_block fit ?_)
          refine dx_rg fit RecOk.none' List.toList_toArray ?_
          repeat (first
            | refine th_still (wanted_none rfl) rfl (by simp (disch := first | omega | decide) [tn, t0, t2, t4, t7, t8, t11, t12, t45, t46, t47, wrap_i64]; try rfl) ?_
            | (refine th_not (wanted_no rfl rfl ?_) ?_; focus (simp [tn, t0, t2, t4, t7, t8, t11, t12, t45, t46, t47, wrap_i64]; done))
            | (refine th_not (wanted_off rfl rfl ?_) ?_; focus (simp [tn, t0, t2, t4, t7, t8, t11, t12, t45, t46, t47, wrap_i64]; done))
            | (refine th_still (wanted_yes rfl rfl ?_) rfl (by simp (disch := first | omega | decide) [tn, t0, t2, t4, t7, t8, t11, t12, t45, t46, t47, wrap_i64]; try rfl) ?_; focus (simp [tn, t0, t2, t4, t7, t8, t11, t12, t45, t46, t47, wrap_i64]; done)))
          refine th_nil ?_
          repeat (first | refine dx_seq fit ?_ | refine dx_skip fit ?_ | refine dx_label fit ?_ | refine dx_inBlock fit ?_ | refine dx_block fit ?_)
          exact hrec (g - 1) _ _ (by omega) ⟨i + 1, 0, by simp [tn], by simp [tn, t0], by simp [tn, t2], by simp [tn, t4], by simp [tn, t7], by simp [tn, t8], by simp [tn, t11], by simp [tn, t12], by simp [tn, t45], by simp [tn, t46], by simp [tn], by omega, by omega, .inl ⟨rfl, hw⟩, kAk⟩
        | false =>
          rw [hb] at hw
          simp only [Bool.false_eq_true, if_false] at hw
          refine dx_cond fit (x := false) (by simp [tn, hb]) ?_
          -- the first file
          cases hfs : files with
          | nil => rw [hfs] at hf; simp [hasWord] at hf
          | cons f0 fr =>
          have hnt : noTable files xa = bytesEq xa f0 := by rw [hfs]; rfl
          rw [hnt] at hw
          have hfk := hEk.fs
          rw [hfs] at hfk
          rcases hfk with ⟨hh, _⟩ | ⟨fb, fc, fq2, fe, ffz, hsf, hgf, hfn, hfc⟩
          · cases hh
          have hf0 := hfc 0 (by simp)
          simp only [List.getD, List.getElem?_cons_zero, Option.getD_some] at hf0
          obtain ⟨m0, hm0⟩ : ∃ m0, (f0 :: fr).length = m0 := ⟨_, rfl⟩
          have hm1 : 0 < m0 := by rw [← hm0]; simp
          rw [hm0] at hsf
          have h4m : Ak.get A.next = some (.cells [.slice (some (fb, 0)) m0 fq2] 23 false) := by rw [h4k, hsf]
          cases h0 : bytesEq xa f0 with
          | true =>
            rw [h0] at hw
            simp only [Bool.true_or, if_true] at hw
            repeat (first | refine dx_seq fit ?_ | refine dx_skip fit ?_ | refine dx_label fit ?_ | refine dx_inBlock fit ?_ | refine dx_block fit ?_)
            refine dx_rgd fit (RecOk.none'.add cP) List.toList_toArray (by kernel_rfl) (bs := [0, 1, 0, 4, 12, 31, 63, 127, 127, 383, 127, 2047, 4095, 8191, 16383]) (by kernel_rfl) ?_
            repeat (first
              | refine td_still (wanted_none rfl) rfl rfl rfl (by simp (disch := first | omega | decide) [tn, t0, t2, t4, t7, t8, t11, t12, t45, t46, t47, gk, h4m, h7k, hm1, hgf, hf0, h0]; try rfl) ?_
              | (refine td_not (wanted_no rfl rfl ?_) ?_; focus (simp [tn, t0, t2, t4, t7, t8, t11, t12, t45, t46, t47, gk, h4m, h7k, hm1, hgf, hf0, h0]; done))
              | (refine td_not (wanted_off rfl rfl ?_) ?_; focus (simp [tn, t0, t2, t4, t7, t8, t11, t12, t45, t46, t47, gk, h4m, h7k, hm1, hgf, hf0, h0]; done))
              | (refine td_still (wanted_yes rfl rfl ?_) rfl rfl rfl (by simp (disch := first | omega | decide) [tn, t0, t2, t4, t7, t8, t11, t12, t45, t46, t47, gk, h4m, h7k, hm1, hgf, hf0, h0]; try rfl) ?_; focus (simp [tn, t0, t2, t4, t7, t8, t11, t12, t45, t46, t47, gk, h4m, h7k, hm1, hgf, hf0, h0]; done))
              | (refine td_look (wanted_none rfl) rfl rfl (by simp (disch := first | omega | decide) [tn, t0, t2, t4, t7, t8, t11, t12, t45, t46, t47, gk, h4m, h7k, hm1, hgf, hf0, h0]; try rfl) ?_ ?_; focus (simp (disch := first | omega | decide) [tn, t0, t2, t4, t7, t8, t11, t12, t45, t46, t47, gk, h4m, h7k, hm1, hgf, hf0, h0, Nat.testBit, stillAt, sameV_self]; done))
              | (refine td_look (wanted_yes rfl rfl ?_) rfl rfl (by simp (disch := first | omega | decide) [tn, t0, t2, t4, t7, t8, t11, t12, t45, t46, t47, gk, h4m, h7k, hm1, hgf, hf0, h0]; try rfl) (by simp (disch := first | omega | decide) [tn, t0, t2, t4, t7, t8, t11, t12, t45, t46, t47, gk, h4m, h7k, hm1, hgf, hf0, h0, Nat.testBit, stillAt, sameV_self]) ?_; focus (simp [tn, t0, t2, t4, t7, t8, t11, t12, t45, t46, t47, gk, h4m, h7k, hm1, hgf, hf0, h0]; done))
              | refine td_make (wanted_none rfl) rfl rfl (by simp (disch := first | omega | decide) [tn, t0, t2, t4, t7, t8, t11, t12, t45, t46, t47, gk, h4m, h7k, hm1, hgf, hf0, h0, Rec.add_same, Rec.add_other_f]; first | done | rfl | exact ⟨rfl, rfl⟩) ?_
              | (refine td_turn (wanted_none rfl) rfl (by simp (disch := first | omega | decide) [tn, t0, t2, t4, t7, t8, t11, t12, t45, t46, t47, gk, h4m, h7k, hm1, hgf, hf0, h0, Rec.add_same, Rec.add_other_f]; first | done | rfl | exact ⟨rfl, rfl⟩) ?_ ?_; focus (simp (disch := first | omega | decide) [tn, t0, t2, t4, t7, t8, t11, t12, t45, t46, t47, gk, h4m, h7k, hm1, hgf, hf0, h0, Nat.testBit, stillAt, sameV_self]; done))
              | (refine td_turn (wanted_yes rfl rfl ?_) rfl (by simp (disch := first | omega | decide) [tn, t0, t2, t4, t7, t8, t11, t12, t45, t46, t47, gk, h4m, h7k, hm1, hgf, hf0, h0, Rec.add_same, Rec.add_other_f]; first | done | rfl | exact ⟨rfl, rfl⟩) (by simp (disch := first | omega | decide) [tn, t0, t2, t4, t7, t8, t11, t12, t45, t46, t47, gk, h4m, h7k, hm1, hgf, hf0, h0, Nat.testBit, stillAt, sameV_self]) ?_; focus (simp [tn, t0, t2, t4, t7, t8, t11, t12, t45, t46, t47, gk, h4m, h7k, hm1, hgf, hf0, h0]; done)))
            refine td_nil ?_
            repeat (first | refine dx_seq fit ?_ | refine dx_skip fit ?_ | refine dx_label fit ?_ | refine dx_inBlock fit ?_ | refine dx_block fit ?_)
            refine dx_cond fit (x := true) (by simp [tn]) ?_
            repeat (first | refine dx_seq fit ?_ | refine dx_skip fit ?_ | refine dx_label fit ?_ | refine dx_inBlock fit ?_ | refine dx_block fit ?_)
            refine dx_rg fit RecOk.none' List.toList_toArray ?_
            repeat (first
              | refine th_still (wanted_none rfl) rfl (by simp (disch := first | omega | decide) [tn, t0, t2, t4, t7, t8, t11, t12, t45, t46, t47]; try rfl) ?_
              | (refine th_not (wanted_no rfl rfl ?_) ?_; focus (simp [tn, t0, t2, t4, t7, t8, t11, t12, t45, t46, t47]; done))
              | (refine th_not (wanted_off rfl rfl ?_) ?_; focus (simp [tn, t0, t2, t4, t7, t8, t11, t12, t45, t46, t47]; done))
              | (refine th_still (wanted_yes rfl rfl ?_) rfl (by simp (disch := first | omega | decide) [tn, t0, t2, t4, t7, t8, t11, t12, t45, t46, t47]; try rfl) ?_; focus (simp [tn, t0, t2, t4, t7, t8, t11, t12, t45, t46, t47]; done)))
            refine th_nil ?_
            repeat (first | refine dx_seq fit ?_ | refine dx_skip fit ?_ | refine dx_label fit ?_ | refine dx_inBlock fit ?_ | refine dx_block fit ?_)
            repeat (first | refine dx_seq fit ?_ | refine dx_skip fit ?_ | refine dx_label fit ?_ | refine dx_inBlock fit ?_ | refine dx_block fit ?_)
            refine dx_rg fit RecOk.none' List.toList_toArray ?_
            repeat (first
              | refine th_still (wanted_none rfl) rfl (by simp (disch := first | omega | decide) [tn, t0, t2, t4, t7, t8, t11, t12, t45, t46, t47, wrap_i64]; try rfl) ?_
              | (refine th_not (wanted_no rfl rfl ?_) ?_; focus (simp [tn, t0, t2, t4, t7, t8, t11, t12, t45, t46, t47, wrap_i64]; done))
              | (refine th_not (wanted_off rfl rfl ?_) ?_; focus (simp [tn, t0, t2, t4, t7, t8, t11, t12, t45, t46, t47, wrap_i64]; done))
              | (refine th_still (wanted_yes rfl rfl ?_) rfl (by simp (disch := first | omega | decide) [tn, t0, t2, t4, t7, t8, t11, t12, t45, t46, t47, wrap_i64]; try rfl) ?_; focus (simp [tn, t0, t2, t4, t7, t8, t11, t12, t45, t46, t47, wrap_i64]; done)))
            refine th_nil ?_
            repeat (first | refine dx_seq fit ?_ | refine dx_skip fit ?_ | refine dx_label fit ?_ | refine dx_inBlock fit ?_ | refine dx_block fit ?_)
            exact hrec (g - 1) _ _ (by omega) ⟨i + 1, 24, by simp [tn], by simp [tn, t0], by simp [tn, t2], by simp [tn, t4], by simp [tn, t7], by simp [tn, t8], by simp [tn, t11], by simp [tn], by simp [tn, t45], by simp [tn, t46], by simp [tn], by omega, by omega, .inr (.inr ⟨rfl, hw.symm⟩), kAk⟩
          | false =>
            rw [h0] at hw
            simp only [Bool.false_or] at hw
            cases hp : hasWord places xb with
            | false =>
              rw [hp] at hw cP
              simp only [Bool.not_false, if_true] at hw
              repeat (first | refine dx_seq fit ?_ | refine dx_skip fit ?_ | refine dx_label fit ?_ | refine dx_inBlock fit ?_ | refine dx_block fit ?_)
              refine dx_rgd fit (RecOk.none'.add cP) List.toList_toArray (by kernel_rfl) (bs := [0, 1, 0, 4, 12, 31, 63, 127, 127, 383, 127, 2047, 4095, 8191, 16383]) (by kernel_rfl) ?_
              repeat (first
                | refine td_still (wanted_none rfl) rfl rfl rfl (by simp (disch := first | omega | decide) [tn, t0, t2, t4, t7, t8, t11, t12, t45, t46, t47, gk, h4m, h7k, hm1, hgf, hf0, h0]; try rfl) ?_
                | (refine td_not (wanted_no rfl rfl ?_) ?_; focus (simp [tn, t0, t2, t4, t7, t8, t11, t12, t45, t46, t47, gk, h4m, h7k, hm1, hgf, hf0, h0]; done))
                | (refine td_not (wanted_off rfl rfl ?_) ?_; focus (simp [tn, t0, t2, t4, t7, t8, t11, t12, t45, t46, t47, gk, h4m, h7k, hm1, hgf, hf0, h0]; done))
                | (refine td_still (wanted_yes rfl rfl ?_) rfl rfl rfl (by simp (disch := first | omega | decide) [tn, t0, t2, t4, t7, t8, t11, t12, t45, t46, t47, gk, h4m, h7k, hm1, hgf, hf0, h0]; try rfl) ?_; focus (simp [tn, t0, t2, t4, t7, t8, t11, t12, t45, t46, t47, gk, h4m, h7k, hm1, hgf, hf0, h0]; done))
                | (refine td_look (wanted_none rfl) rfl rfl (by simp (disch := first | omega | decide) [tn, t0, t2, t4, t7, t8, t11, t12, t45, t46, t47, gk, h4m, h7k, hm1, hgf, hf0, h0]; try rfl) ?_ ?_; focus (simp (disch := first | omega | decide) [tn, t0, t2, t4, t7, t8, t11, t12, t45, t46, t47, gk, h4m, h7k, hm1, hgf, hf0, h0, Nat.testBit, stillAt, sameV_self]; done))
                | (refine td_look (wanted_yes rfl rfl ?_) rfl rfl (by simp (disch := first | omega | decide) [tn, t0, t2, t4, t7, t8, t11, t12, t45, t46, t47, gk, h4m, h7k, hm1, hgf, hf0, h0]; try rfl) (by simp (disch := first | omega | decide) [tn, t0, t2, t4, t7, t8, t11, t12, t45, t46, t47, gk, h4m, h7k, hm1, hgf, hf0, h0, Nat.testBit, stillAt, sameV_self]) ?_; focus (simp [tn, t0, t2, t4, t7, t8, t11, t12, t45, t46, t47, gk, h4m, h7k, hm1, hgf, hf0, h0]; done))
                | refine td_make (wanted_none rfl) rfl rfl (by simp (disch := first | omega | decide) [tn, t0, t2, t4, t7, t8, t11, t12, t45, t46, t47, gk, h4m, h7k, hm1, hgf, hf0, h0, Rec.add_same, Rec.add_other_f]; first | done | rfl | exact ⟨rfl, rfl⟩) ?_
                | (refine td_turn (wanted_none rfl) rfl (by simp (disch := first | omega | decide) [tn, t0, t2, t4, t7, t8, t11, t12, t45, t46, t47, gk, h4m, h7k, hm1, hgf, hf0, h0, Rec.add_same, Rec.add_other_f]; first | done | rfl | exact ⟨rfl, rfl⟩) ?_ ?_; focus (simp (disch := first | omega | decide) [tn, t0, t2, t4, t7, t8, t11, t12, t45, t46, t47, gk, h4m, h7k, hm1, hgf, hf0, h0, Nat.testBit, stillAt, sameV_self]; done))
                | (refine td_turn (wanted_yes rfl rfl ?_) rfl (by simp (disch := first | omega | decide) [tn, t0, t2, t4, t7, t8, t11, t12, t45, t46, t47, gk, h4m, h7k, hm1, hgf, hf0, h0, Rec.add_same, Rec.add_other_f]; first | done | rfl | exact ⟨rfl, rfl⟩) (by simp (disch := first | omega | decide) [tn, t0, t2, t4, t7, t8, t11, t12, t45, t46, t47, gk, h4m, h7k, hm1, hgf, hf0, h0, Nat.testBit, stillAt, sameV_self]) ?_; focus (simp [tn, t0, t2, t4, t7, t8, t11, t12, t45, t46, t47, gk, h4m, h7k, hm1, hgf, hf0, h0]; done)))
              refine td_nil ?_
              repeat (first | refine dx_seq fit ?_ | refine dx_skip fit ?_ | refine dx_label fit ?_ | refine dx_inBlock fit ?_ | refine dx_block fit ?_)
              refine dx_cond fit (x := true) (by simp [tn]) ?_
              repeat (first | refine dx_seq fit ?_ | refine dx_skip fit ?_ | refine dx_label fit ?_ | refine dx_inBlock fit ?_ | refine dx_block fit ?_)
              refine dx_rg fit RecOk.none' List.toList_toArray ?_
              repeat (first
                | refine th_still (wanted_none rfl) rfl (by simp (disch := first | omega | decide) [tn, t0, t2, t4, t7, t8, t11, t12, t45, t46, t47]; try rfl) ?_
                | (refine th_not (wanted_no rfl rfl ?_) ?_; focus (simp [tn, t0, t2, t4, t7, t8, t11, t12, t45, t46, t47]; done))
                | (refine th_not (wanted_off rfl rfl ?_) ?_; focus (simp [tn, t0, t2, t4, t7, t8, t11, t12, t45, t46, t47]; done))
                | (refine th_still (wanted_yes rfl rfl ?_) rfl (by simp (disch := first | omega | decide) [tn, t0, t2, t4, t7, t8, t11, t12, t45, t46, t47]; try rfl) ?_; focus (simp [tn, t0, t2, t4, t7, t8, t11, t12, t45, t46, t47]; done)))
              refine th_nil ?_
              repeat (first | refine dx_seq fit ?_ | refine dx_skip fit ?_ | refine dx_label fit ?_ | refine dx_inBlock fit ?_ | refine dx_block fit ?_)
              repeat (first | refine dx_seq fit ?_ | refine dx_skip fit ?_ | refine dx_label fit ?_ | refine dx_inBlock fit ?_ | refine dx_block fit ?_)
              refine dx_rg fit RecOk.none' List.toList_toArray ?_
              repeat (first
                | refine th_still (wanted_none rfl) rfl (by simp (disch := first | omega | decide) [tn, t0, t2, t4, t7, t8, t11, t12, t45, t46, t47, wrap_i64]; try rfl) ?_
                | (refine th_not (wanted_no rfl rfl ?_) ?_; focus (simp [tn, t0, t2, t4, t7, t8, t11, t12, t45, t46, t47, wrap_i64]; done))
                | (refine th_not (wanted_off rfl rfl ?_) ?_; focus (simp [tn, t0, t2, t4, t7, t8, t11, t12, t45, t46, t47, wrap_i64]; done))
                | (refine th_still (wanted_yes rfl rfl ?_) rfl (by simp (disch := first | omega | decide) [tn, t0, t2, t4, t7, t8, t11, t12, t45, t46, t47, wrap_i64]; try rfl) ?_; focus (simp [tn, t0, t2, t4, t7, t8, t11, t12, t45, t46, t47, wrap_i64]; done)))
              refine th_nil ?_
              repeat (first | refine dx_seq fit ?_ | refine dx_skip fit ?_ | refine dx_label fit ?_ | refine dx_inBlock fit ?_ | refine dx_block fit ?_)
              exact hrec (g - 1) _ _ (by omega) ⟨i + 1, 24, by simp [tn], by simp [tn, t0], by simp [tn, t2], by simp [tn, t4], by simp [tn, t7], by simp [tn, t8], by simp [tn, t11], by simp [tn], by simp [tn, t45], by simp [tn, t46], by simp [tn], by omega, by omega, .inr (.inr ⟨rfl, hw.symm⟩), kAk⟩
            | true =>
              rw [hp] at hw cP
              simp only [Bool.not_true, Bool.false_eq_true, if_false] at hw
              repeat (first | refine dx_seq fit ?_ | refine dx_skip fit ?_ | refine dx_label fit ?_ | refine dx_inBlock fit ?_ | refine dx_block fit ?_)
              refine dx_rgd fit (RecOk.none'.add cP) List.toList_toArray (by kernel_rfl) (bs := [0, 1, 0, 4, 12, 31, 63, 127, 127, 383, 127, 2047, 4095, 8191, 16383]) (by kernel_rfl) ?_
              repeat (first
                | refine td_still (wanted_none rfl) rfl rfl rfl (by simp (disch := first | omega | decide) [tn, t0, t2, t4, t7, t8, t11, t12, t45, t46, t47, gk, h4m, h7k, hm1, hgf, hf0, h0]; try rfl) ?_
                | (refine td_not (wanted_no rfl rfl ?_) ?_; focus (simp [tn, t0, t2, t4, t7, t8, t11, t12, t45, t46, t47, gk, h4m, h7k, hm1, hgf, hf0, h0]; done))
                | (refine td_not (wanted_off rfl rfl ?_) ?_; focus (simp [tn, t0, t2, t4, t7, t8, t11, t12, t45, t46, t47, gk, h4m, h7k, hm1, hgf, hf0, h0]; done))
                | (refine td_still (wanted_yes rfl rfl ?_) rfl rfl rfl (by simp (disch := first | omega | decide) [tn, t0, t2, t4, t7, t8, t11, t12, t45, t46, t47, gk, h4m, h7k, hm1, hgf, hf0, h0]; try rfl) ?_; focus (simp [tn, t0, t2, t4, t7, t8, t11, t12, t45, t46, t47, gk, h4m, h7k, hm1, hgf, hf0, h0]; done))
                | (refine td_look (wanted_none rfl) rfl rfl (by simp (disch := first | omega | decide) [tn, t0, t2, t4, t7, t8, t11, t12, t45, t46, t47, gk, h4m, h7k, hm1, hgf, hf0, h0]; try rfl) ?_ ?_; focus (simp (disch := first | omega | decide) [tn, t0, t2, t4, t7, t8, t11, t12, t45, t46, t47, gk, h4m, h7k, hm1, hgf, hf0, h0, Nat.testBit, stillAt, sameV_self]; done))
                | (refine td_look (wanted_yes rfl rfl ?_) rfl rfl (by simp (disch := first | omega | decide) [tn, t0, t2, t4, t7, t8, t11, t12, t45, t46, t47, gk, h4m, h7k, hm1, hgf, hf0, h0]; try rfl) (by simp (disch := first | omega | decide) [tn, t0, t2, t4, t7, t8, t11, t12, t45, t46, t47, gk, h4m, h7k, hm1, hgf, hf0, h0, Nat.testBit, stillAt, sameV_self]) ?_; focus (simp [tn, t0, t2, t4, t7, t8, t11, t12, t45, t46, t47, gk, h4m, h7k, hm1, hgf, hf0, h0]; done))
                | refine td_make (wanted_none rfl) rfl rfl (by simp (disch := first | omega | decide) [tn, t0, t2, t4, t7, t8, t11, t12, t45, t46, t47, gk, h4m, h7k, hm1, hgf, hf0, h0, Rec.add_same, Rec.add_other_f]; first | done | rfl | exact ⟨rfl, rfl⟩) ?_
                | (refine td_turn (wanted_none rfl) rfl (by simp (disch := first | omega | decide) [tn, t0, t2, t4, t7, t8, t11, t12, t45, t46, t47, gk, h4m, h7k, hm1, hgf, hf0, h0, Rec.add_same, Rec.add_other_f]; first | done | rfl | exact ⟨rfl, rfl⟩) ?_ ?_; focus (simp (disch := first | omega | decide) [tn, t0, t2, t4, t7, t8, t11, t12, t45, t46, t47, gk, h4m, h7k, hm1, hgf, hf0, h0, Nat.testBit, stillAt, sameV_self]; done))
                | (refine td_turn (wanted_yes rfl rfl ?_) rfl (by simp (disch := first | omega | decide) [tn, t0, t2, t4, t7, t8, t11, t12, t45, t46, t47, gk, h4m, h7k, hm1, hgf, hf0, h0, Rec.add_same, Rec.add_other_f]; first | done | rfl | exact ⟨rfl, rfl⟩) (by simp (disch := first | omega | decide) [tn, t0, t2, t4, t7, t8, t11, t12, t45, t46, t47, gk, h4m, h7k, hm1, hgf, hf0, h0, Nat.testBit, stillAt, sameV_self]) ?_; focus (simp [tn, t0, t2, t4, t7, t8, t11, t12, t45, t46, t47, gk, h4m, h7k, hm1, hgf, hf0, h0]; done)))
              refine td_nil ?_
              repeat (first | refine dx_seq fit ?_ | refine dx_skip fit ?_ | refine dx_label fit ?_ | refine dx_inBlock fit ?_ | refine dx_block fit ?_)
              refine dx_cond fit (x := false) (by simp [tn]) ?_
              repeat (first | refine dx_seq fit ?_ | refine dx_skip fit ?_ | refine dx_label fit ?_ | refine dx_inBlock fit ?_ | refine dx_block fit ?_)
              refine dx_rg fit RecOk.none' List.toList_toArray ?_
              repeat (first
                | refine th_still (wanted_none rfl) rfl (by simp (disch := first | omega | decide) [tn, t0, t2, t4, t7, t8, t11, t12, t45, t46, t47, wrap_i64]; try rfl) ?_
                | (refine th_not (wanted_no rfl rfl ?_) ?_; focus (simp [tn, t0, t2, t4, t7, t8, t11, t12, t45, t46, t47, wrap_i64]; done))
                | (refine th_not (wanted_off rfl rfl ?_) ?_; focus (simp [tn, t0, t2, t4, t7, t8, t11, t12, t45, t46, t47, wrap_i64]; done))
                | (refine th_still (wanted_yes rfl rfl ?_) rfl (by simp (disch := first | omega | decide) [tn, t0, t2, t4, t7, t8, t11, t12, t45, t46, t47, wrap_i64]; try rfl) ?_; focus (simp [tn, t0, t2, t4, t7, t8, t11, t12, t45, t46, t47, wrap_i64]; done)))
              refine th_nil ?_
              repeat (first | refine dx_seq fit ?_ | refine dx_skip fit ?_ | refine dx_label fit ?_ | refine dx_inBlock fit ?_ | refine dx_block fit ?_)
              exact hrec (g - 1) _ _ (by omega) ⟨i + 1, 0, by simp [tn], by simp [tn, t0], by simp [tn, t2], by simp [tn, t4], by simp [tn, t7], by simp [tn, t8], by simp [tn, t11], by simp [tn, t12], by simp [tn, t45], by simp [tn, t46], by simp [tn], by omega, by omega, .inl ⟨rfl, hw⟩, kAk⟩
    · refine dx_cond fit (x := false) (by simp [tn, hlt]) ?_
      refine dx_exit fit rfl ?_
      have hwf : wantOf files places gs = w := by
        rw [List.drop_of_length_le (by omega)] at hw
        rcases hw with ⟨rfl, h⟩ | ⟨rfl, h⟩ | ⟨rfl, h⟩
        · rw [← h]; rfl
        · exact h
        · exact h
      have hWj : Within Aj := hW6.keep hk.1 fun b hb => hk.2 b (by have := hW6.le; omega)
      obtain ⟨d, B1, cs, B2, cN, cPr, hcl, hc1, m1, m2, mk1, mk2⟩ := prep_spec hWj
      obtain ⟨x1, x2, x3, rfl⟩ : ∃ x1 x2 x3, cs = [x1, x2, x3] := by
        match cs, hcl with
        | [a, b, c], _ => exact ⟨a, b, c, rfl⟩
      simp only [allOne, List.all_cons, List.all_nil, Bool.and_true, Bool.and_eq_true] at hc1
      obtain ⟨o1, o2, o3⟩ := hc1
      obtain ⟨B3, hB3⟩ : ∃ B3, B3 = (B2.new (.cells [.slice none 0 (some 0), .slice none 0 (some 0), .ptr none] 37 false)).put B2.next (.cells [x1, x2, x3] 37 false) := ⟨_, rfl⟩
      have kB : Keep Aj B3 := by
        rw [hB3]
        exact (Keep.trans (⟨by omega, mk2⟩ : Keep Aj B2) (.new _ _)).put (by omega) _
      have hE3 := hEj0.keep kB
      have hG3 := hG.keep ((kAi.trans hk).trans kB)
      obtain ⟨vC, A9, cC, hvC, kC⟩ := check_spec (o1 := .slice none 0 (some 0)) (o2 := .ptr none) hE3 hG3 (by omega) rfl rfl
      subst hvC
      rw [hwf] at cC
      have gslc : AV.cells gsl = [gsl] := by rw [hgl]; rfl
      have gslo : AV.oneCell gsl = true := by rw [hgl]; rfl
      repeat (first | refine dx_seq fit ?_ | refine dx_skip fit ?_ | refine dx_label fit ?_ | refine dx_inBlock fit ?_ | refine dx_block fit ?_)
      refine dx_rg fit ((RecOk.none'.add cN).add cPr) List.toList_toArray ?_
      repeat (first
        | refine th_still (wanted_none rfl) rfl (by simp (disch := first | omega | decide) [tn, t0, t2, t4, t7, t8, t11, t12, t45, t46, t47, o1, o2, o3, ← hB3]; try rfl) ?_
        | (refine th_not (wanted_no rfl rfl ?_) ?_; focus (simp [tn, t0, t2, t4, t7, t8, t11, t12, t45, t46, t47, o1, o2, o3, ← hB3]; done))
        | (refine th_not (wanted_off rfl rfl ?_) ?_; focus (simp [tn, t0, t2, t4, t7, t8, t11, t12, t45, t46, t47, o1, o2, o3, ← hB3]; done))
        | (refine th_still (wanted_yes rfl rfl ?_) rfl (by simp (disch := first | omega | decide) [tn, t0, t2, t4, t7, t8, t11, t12, t45, t46, t47, o1, o2, o3, ← hB3]; try rfl) ?_; focus (simp [tn, t0, t2, t4, t7, t8, t11, t12, t45, t46, t47, o1, o2, o3, ← hB3]; done))
        | refine th_make (wanted_none rfl) rfl (by simp (disch := first | omega | decide) [tn, t0, t2, t4, t7, t8, t11, t12, t45, t46, t47, o1, o2, o3, ← hB3, Rec.add_same, Rec.add_other_f]; first | done | rfl | exact ⟨rfl, rfl⟩) ?_
        | (refine th_make (wanted_yes rfl rfl ?_) rfl (by simp (disch := first | omega | decide) [tn, t0, t2, t4, t7, t8, t11, t12, t45, t46, t47, o1, o2, o3, ← hB3, Rec.add_same, Rec.add_other_f]; first | done | rfl | exact ⟨rfl, rfl⟩) ?_; focus (simp [tn, t0, t2, t4, t7, t8, t11, t12, t45, t46, t47, o1, o2, o3, ← hB3]; done))
        | refine th_eff (wanted_none rfl) rfl (by simp (disch := first | omega | decide) [tn, t0, t2, t4, t7, t8, t11, t12, t45, t46, t47, o1, o2, o3, ← hB3, Rec.add_same, Rec.add_other_f]; first | done | rfl | exact ⟨rfl, rfl⟩) ?_
        | (refine th_eff (wanted_yes rfl rfl ?_) rfl (by simp (disch := first | omega | decide) [tn, t0, t2, t4, t7, t8, t11, t12, t45, t46, t47, o1, o2, o3, ← hB3, Rec.add_same, Rec.add_other_f]; first | done | rfl | exact ⟨rfl, rfl⟩) ?_; focus (simp [tn, t0, t2, t4, t7, t8, t11, t12, t45, t46, t47, o1, o2, o3, ← hB3]; done))
        | refine th_call (wanted_none rfl) rfl (by simp (disch := first | omega | decide) [tn, t0, t2, t4, t7, t8, t11, t12, t45, t46, t47, o1, o2, o3, ← hB3, Rec.add_same, Rec.add_other_f]; first | done | rfl | exact ⟨rfl, rfl⟩) ?_
        | (refine th_call (wanted_yes rfl rfl ?_) rfl (by simp (disch := first | omega | decide) [tn, t0, t2, t4, t7, t8, t11, t12, t45, t46, t47, o1, o2, o3, ← hB3, Rec.add_same, Rec.add_other_f]; first | done | rfl | exact ⟨rfl, rfl⟩) ?_; focus (simp [tn, t0, t2, t4, t7, t8, t11, t12, t45, t46, t47, o1, o2, o3, ← hB3]; done)))
      refine th_nil ?_
      repeat (first | refine dx_seq fit ?_ | refine dx_skip fit ?_ | refine dx_label fit ?_ | refine dx_inBlock fit ?_ | refine dx_block fit ?_)
      repeat (first | refine dx_seq fit ?_ | refine dx_skip fit ?_ | refine dx_label fit ?_ | refine dx_inBlock fit ?_ | refine dx_block fit ?_)
      refine dx_rg fit (RecOk.none'.add cC) List.toList_toArray ?_
      repeat (first
        | refine th_still (wanted_none rfl) rfl (by simp (disch := first | omega | decide) [tn, t0, t2, t4, t7, t8, t11, t12, t45, t46, t47, gslc, gslo]; try rfl) ?_
        | (refine th_not (wanted_no rfl rfl ?_) ?_; focus (simp [tn, t0, t2, t4, t7, t8, t11, t12, t45, t46, t47, gslc, gslo]; done))
        | (refine th_not (wanted_off rfl rfl ?_) ?_; focus (simp [tn, t0, t2, t4, t7, t8, t11, t12, t45, t46, t47, gslc, gslo]; done))
        | (refine th_still (wanted_yes rfl rfl ?_) rfl (by simp (disch := first | omega | decide) [tn, t0, t2, t4, t7, t8, t11, t12, t45, t46, t47, gslc, gslo]; try rfl) ?_; focus (simp [tn, t0, t2, t4, t7, t8, t11, t12, t45, t46, t47, gslc, gslo]; done))
        | refine th_make (wanted_none rfl) rfl (by simp (disch := first | omega | decide) [tn, t0, t2, t4, t7, t8, t11, t12, t45, t46, t47, gslc, gslo, Rec.add_same, Rec.add_other_f]; first | done | rfl | exact ⟨rfl, rfl⟩) ?_
        | (refine th_make (wanted_yes rfl rfl ?_) rfl (by simp (disch := first | omega | decide) [tn, t0, t2, t4, t7, t8, t11, t12, t45, t46, t47, gslc, gslo, Rec.add_same, Rec.add_other_f]; first | done | rfl | exact ⟨rfl, rfl⟩) ?_; focus (simp [tn, t0, t2, t4, t7, t8, t11, t12, t45, t46, t47, gslc, gslo]; done))
        | refine th_call (wanted_none rfl) rfl (by simp (disch := first | omega | decide) [tn, t0, t2, t4, t7, t8, t11, t12, t45, t46, t47, gslc, gslo, Rec.add_same, Rec.add_other_f]; first | done | rfl | exact ⟨rfl, rfl⟩) ?_
        | (refine th_call (wanted_yes rfl rfl ?_) rfl (by simp (disch := first | omega | decide) [tn, t0, t2, t4, t7, t8, t11, t12, t45, t46, t47, gslc, gslo, Rec.add_same, Rec.add_other_f]; first | done | rfl | exact ⟨rfl, rfl⟩) ?_; focus (simp [tn, t0, t2, t4, t7, t8, t11, t12, t45, t46, t47, gslc, gslo]; done)))
      refine th_nil ?_
      repeat (first | refine dx_seq fit ?_ | refine dx_skip fit ?_ | refine dx_label fit ?_ | refine dx_inBlock fit ?_ | refine dx_block fit ?_)
      refine dx_ret fit ?_
      exact dx_out fit Tryz.func3 (rs := [.tmp 6]) rfl (by simp [tn]; first | done | rfl | exact ⟨rfl, rfl⟩) rfl

end Go.Proofs.YtebjajchdidnfaaGreatDoor

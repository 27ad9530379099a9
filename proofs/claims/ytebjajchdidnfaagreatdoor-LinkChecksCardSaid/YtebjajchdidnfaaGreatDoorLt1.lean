/-
  A part of the road: an evaluator over abstract memory with a proved simulation, and what is reckoned by it. Written by an AI agent; no person has read it.
-/
import Derived.Test.YtebjajchdidnfaaGreatDoorLf1
set_option linter.all false
set_option linter.all false
namespace Go.Proofs.YtebjajchdidnfaaGreatDoor
open Go Go.Fold Go.Shelf Go.Lib

/-- where a name stands in a row of names, or would, as the halving goes -/
def findAt (ks : List (List Nat)) (u : List Nat) : Nat × Bool :=
  let i := bsGo (fun j => bytesLt (ks.getD j []) u) ks.length 0 ks.length
  (i, if i < ks.length then bytesEq (ks.getD i []) u else false)

def insAt {α : Type} (l : List α) (i : Nat) (x : α) : List α := l.take i ++ x :: l.drop i

theorem insAt_length {α : Type} {l : List α} {i : Nat} {x : α} (h : i ≤ l.length) : (insAt l i x).length = l.length + 1 := by
  simp [insAt]; omega

theorem allOne_insAt {l : List AV} {i : Nat} {x : AV} (h : allOne l = true) (hx : x.oneCell = true) : allOne (insAt l i x) = true := by
  unfold allOne insAt at *
  rw [List.all_eq_true] at *
  intro y hy
  rcases List.mem_append.1 hy with hy | hy
  · exact h y (List.mem_of_mem_take hy)
  · rcases List.mem_cons.1 hy with rfl | hy
    · exact hx
    · exact h y (List.mem_of_mem_drop hy)

theorem allOne_set {l : List AV} {i : Nat} {x : AV} (h : allOne l = true) (hx : x.oneCell = true) : allOne (l.set i x) = true := by
  unfold allOne at *
  rw [List.all_eq_true] at *
  intro y hy
  rcases List.mem_or_eq_of_mem_set hy with hy | rfl
  · exact h y hy
  · exact hx

theorem bsGo_le (f : Nat → Bool) : ∀ (k lo hi : Nat), lo ≤ hi → bsGo f k lo hi ≤ hi
  | 0, lo, hi, h => h
  | k + 1, lo, hi, h => by
    simp only [bsGo]
    by_cases hl : lo < hi
    · rw [if_pos hl]
      by_cases hf : f ((lo + hi) / 2) = true
      · rw [if_pos hf]; exact bsGo_le f k _ _ (by omega)
      · rw [if_neg hf]; exact Nat.le_trans (bsGo_le f k lo _ (by omega)) (by omega)
    · rw [if_neg hl]; exact h

theorem findAt_le (ks : List (List Nat)) (u : List Nat) : (findAt ks u).1 ≤ ks.length := bsGo_le _ _ _ _ (Nat.zero_le _)
theorem findAt_lt {ks : List (List Nat)} {u : List Nat} (h : (findAt ks u).2 = true) : (findAt ks u).1 < ks.length := by
  unfold findAt at h ⊢
  simp only at h ⊢
  split at h
  · assumption
  · cases h

/-! ### path.Table[string, Bool] -/
structure TabBool (A : AH) (tb kb vb : Nat) (ks : List (List Nat)) (vs : List AV) : Prop where
  cell : ∃ sk sv, A.get tb = some (.cells [sk, sv] 29 false) ∧ Row A sk kb 9 (ks.map AV.str) ∧ Row A sv vb 4 vs
  len : vs.length = ks.length
  lt : tb < A.next ∧ (ks ≠ [] → kb < A.next ∧ vb < A.next)
  apart : ks ≠ [] → tb ≠ kb ∧ tb ≠ vb ∧ kb ≠ vb
  one : allOne vs = true

theorem TabBool.keep {A A' : AH} {tb kb vb : Nat} {ks : List (List Nat)} {vs : List AV} (h : TabBool A tb kb vb ks vs) (hn : A.next ≤ A'.next) (hk : ∀ c, c < A.next → A'.get c = A.get c) : TabBool A' tb kb vb ks vs := by
  obtain ⟨⟨sk, sv, h1, h2, h3⟩, h4, ⟨h5, h6⟩, h8, h9⟩ := h
  refine ⟨⟨sk, sv, by rw [hk _ h5]; exact h1, h2.keep' fun hne => hk _ (h6 (by simpa using hne)).1, h3.keep' fun hne => hk _ (h6 ?_).2⟩, h4, ⟨by omega, fun hne => ?_⟩, h8, h9⟩
  · intro e; subst e; exact hne (List.length_eq_zero_iff.1 h4)
  · have := h6 hne; omega

set_option maxHeartbeats 1000000 in
theorem findBool_spec {A : AH} {tb kb : Nat} {ks : List (List Nat)} {sk sv : AV} (hg : A.get tb = some (.cells [sk, sv] 29 false)) (hr : Row A sk kb 9 (ks.map AV.str)) (hn : ks.length < 4611686018427387904) (u : List Nat) :
    CallSpec Tryz.prog 28 [.ptr (some (tb, 0)), .str u] A (.tup [.int .i64 ((findAt ks u).1 : Nat), .bool (findAt ks u).2]) A := by
  have hc : CallSpec Tryz.prog 68 [sk, .str u] A (.tup [.int .i64 ((findAt ks u).1 : Nat), .bool (findAt ks u).2]) A := by
    rcases hr with ⟨h1, rfl⟩ | ⟨h1, rfl, h2⟩
    · obtain rfl : ks = [] := by simpa using h1
      exact bs_nil fit laysBs u A
    · have := bs_spec fit laysBs (o := 0) (n := (ks.map AV.str).length) (q := none) u A h2 (fun j => ks.getD j []) (fun j hj => by simp at hj; simp [List.getD, hj]) (by simpa using hn) z9
      rw [List.length_map] at this ⊢
      exact this
  refine (CallSpecD.of_body fit Tryz.func28 rfl (N := 14) (by kernel_rfl) ?_).call
  repeat (first | refine dn_seq fit ?_ | refine dn_skip fit ?_ | refine dn_label fit ?_ | refine dn_inBlock fit ?_ | refine dn_block fit ?_)
  refine dn_rg fit RecOk.none' List.toList_toArray ?_
  repeat (first
    | refine th_still (wanted_none rfl) rfl (by simp (disch := first | omega | decide) [hg]; try rfl) ?_
    | (refine th_not (wanted_no rfl rfl ?_) ?_; focus (simp [hg]; done))
    | (refine th_not (wanted_off rfl rfl ?_) ?_; focus (simp [hg]; done))
    | (refine th_still (wanted_yes rfl rfl ?_) rfl (by simp (disch := first | omega | decide) [hg]; try rfl) ?_; focus (simp [hg]; done)))
  refine th_nil ?_
  repeat (first | refine dn_seq fit ?_ | refine dn_skip fit ?_ | refine dn_label fit ?_ | refine dn_inBlock fit ?_ | refine dn_block fit ?_)
  refine dn_rg fit (RecOk.none'.add hc) List.toList_toArray ?_
  repeat (first
    | refine th_still (wanted_none rfl) rfl (by simp (disch := first | omega | decide) [hg]; try rfl) ?_
    | (refine th_not (wanted_no rfl rfl ?_) ?_; focus (simp [hg]; done))
    | (refine th_not (wanted_off rfl rfl ?_) ?_; focus (simp [hg]; done))
    | (refine th_still (wanted_yes rfl rfl ?_) rfl (by simp (disch := first | omega | decide) [hg]; try rfl) ?_; focus (simp [hg]; done))
    | refine th_call (wanted_none rfl) rfl (by simp (disch := first | omega | decide) [hg, Rec.add_same, Rec.add_other_f]; first | done | rfl | exact ⟨rfl, rfl⟩) ?_
    | (refine th_call (wanted_yes rfl rfl ?_) rfl (by simp (disch := first | omega | decide) [hg, Rec.add_same, Rec.add_other_f]; first | done | rfl | exact ⟨rfl, rfl⟩) ?_; focus (simp [hg]; done)))
  refine th_nil ?_
  refine dn_ret fit ?_
  exact dn_out fit Tryz.func28 (rs := [.tmp 4, .tmp 5]) rfl (by simp []; first | done | rfl | exact ⟨rfl, rfl⟩) rfl

set_option maxHeartbeats 1000000 in
theorem getBool_nil (A : AH) (u : List Nat) : CallSpec Tryz.prog 39 [.ptr none, .str u] A (.tup [(.bool false), .bool false]) A := by
  refine (CallSpecD.of_body fit Tryz.func39 rfl (N := 28) (by kernel_rfl) ?_).call
  repeat (first | refine dn_seq fit ?_ | refine dn_skip fit ?_ | refine dn_label fit ?_ | refine dn_inBlock fit ?_ | refine dn_block fit ?_)
  refine dn_rg fit RecOk.none' List.toList_toArray ?_
  repeat (first
    | refine th_still (wanted_none rfl) rfl (by simp (disch := first | omega | decide) [g9]; try rfl) ?_
    | (refine th_not (wanted_no rfl rfl ?_) ?_; focus (simp [g9]; done))
    | (refine th_not (wanted_off rfl rfl ?_) ?_; focus (simp [g9]; done))
    | (refine th_still (wanted_yes rfl rfl ?_) rfl (by simp (disch := first | omega | decide) [g9]; try rfl) ?_; focus (simp [g9]; done)))
  refine th_nil ?_
  repeat (first | refine dn_seq fit ?_ | refine dn_skip fit ?_ | refine dn_label fit ?_ | refine dn_inBlock fit ?_ | refine dn_block fit ?_)
  refine dn_rg fit RecOk.none' List.toList_toArray ?_
  repeat (first
    | refine th_still (wanted_none rfl) rfl (by simp (disch := first | omega | decide) [g9]; try rfl) ?_
    | (refine th_not (wanted_no rfl rfl ?_) ?_; focus (simp [g9]; done))
    | (refine th_not (wanted_off rfl rfl ?_) ?_; focus (simp [g9]; done))
    | (refine th_still (wanted_yes rfl rfl ?_) rfl (by simp (disch := first | omega | decide) [g9]; try rfl) ?_; focus (simp [g9]; done)))
  refine th_nil ?_
  repeat (first | refine dn_seq fit ?_ | refine dn_skip fit ?_ | refine dn_label fit ?_ | refine dn_inBlock fit ?_ | refine dn_block fit ?_)
  refine dn_rg fit RecOk.none' List.toList_toArray ?_
  repeat (first
    | refine th_still (wanted_none rfl) rfl (by simp (disch := first | omega | decide) [eqB_ptr0 Tryz.underlying26]; try rfl) ?_
    | (refine th_not (wanted_no rfl rfl ?_) ?_; focus (simp [eqB_ptr0 Tryz.underlying26]; done))
    | (refine th_not (wanted_off rfl rfl ?_) ?_; focus (simp [eqB_ptr0 Tryz.underlying26]; done))
    | (refine th_still (wanted_yes rfl rfl ?_) rfl (by simp (disch := first | omega | decide) [eqB_ptr0 Tryz.underlying26]; try rfl) ?_; focus (simp [eqB_ptr0 Tryz.underlying26]; done)))
  refine th_nil ?_
  refine dn_cond fit (x := true) (by simp) ?_
  repeat (first | refine dn_seq fit ?_ | refine dn_skip fit ?_ | refine dn_label fit ?_ | refine dn_inBlock fit ?_ | refine dn_block fit ?_)
  refine dn_rg fit RecOk.none' List.toList_toArray ?_
  repeat (first
    | refine th_still (wanted_none rfl) rfl (by simp (disch := first | omega | decide) [g9]; try rfl) ?_
    | (refine th_not (wanted_no rfl rfl ?_) ?_; focus (simp [g9]; done))
    | (refine th_not (wanted_off rfl rfl ?_) ?_; focus (simp [g9]; done))
    | (refine th_still (wanted_yes rfl rfl ?_) rfl (by simp (disch := first | omega | decide) [g9]; try rfl) ?_; focus (simp [g9]; done)))
  refine th_nil ?_
  refine dn_ret fit ?_
  exact dn_out fit Tryz.func39 (rs := [.tmp 4, .tmp 5]) rfl (by simp []; first | done | rfl | exact ⟨rfl, rfl⟩) rfl

set_option maxHeartbeats 2000000 in
theorem getBool_spec {A : AH} {tb kb vb : Nat} {ks : List (List Nat)} {vs : List AV} (h : TabBool A tb kb vb ks vs) (hn : ks.length < 4611686018427387904) (u : List Nat) :
    CallSpec Tryz.prog 39 [.ptr (some (tb, 0)), .str u] A (.tup [if (findAt ks u).2 then vs.getD (findAt ks u).1 (.bool false) else (.bool false), .bool (findAt ks u).2]) A := by
  obtain ⟨⟨sk, sv, hg, hrk, hrv⟩, hlen, ⟨hl1, hl⟩, ha, hone⟩ := h
  have hc := findBool_spec hg hrk hn u
  obtain ⟨I, hI⟩ : ∃ I, (findAt ks u).1 = I := ⟨_, rfl⟩
  obtain ⟨B, hB⟩ : ∃ B, (findAt ks u).2 = B := ⟨_, rfl⟩
  rw [hI, hB] at hc ⊢
  refine (CallSpecD.of_body fit Tryz.func39 rfl (N := 28) (by kernel_rfl) ?_).call
  repeat (first | refine dn_seq fit ?_ | refine dn_skip fit ?_ | refine dn_label fit ?_ | refine dn_inBlock fit ?_ | refine dn_block fit ?_)
  refine dn_rg fit RecOk.none' List.toList_toArray ?_
  repeat (first
    | refine th_still (wanted_none rfl) rfl (by simp (disch := first | omega | decide) [g9]; try rfl) ?_
    | (refine th_not (wanted_no rfl rfl ?_) ?_; focus (simp [g9]; done))
    | (refine th_not (wanted_off rfl rfl ?_) ?_; focus (simp [g9]; done))
    | (refine th_still (wanted_yes rfl rfl ?_) rfl (by simp (disch := first | omega | decide) [g9]; try rfl) ?_; focus (simp [g9]; done)))
  refine th_nil ?_
  repeat (first | refine dn_seq fit ?_ | refine dn_skip fit ?_ | refine dn_label fit ?_ | refine dn_inBlock fit ?_ | refine dn_block fit ?_)
  refine dn_rg fit RecOk.none' List.toList_toArray ?_
  repeat (first
    | refine th_still (wanted_none rfl) rfl (by simp (disch := first | omega | decide) [g9]; try rfl) ?_
    | (refine th_not (wanted_no rfl rfl ?_) ?_; focus (simp [g9]; done))
    | (refine th_not (wanted_off rfl rfl ?_) ?_; focus (simp [g9]; done))
    | (refine th_still (wanted_yes rfl rfl ?_) rfl (by simp (disch := first | omega | decide) [g9]; try rfl) ?_; focus (simp [g9]; done)))
  refine th_nil ?_
  repeat (first | refine dn_seq fit ?_ | refine dn_skip fit ?_ | refine dn_label fit ?_ | refine dn_inBlock fit ?_ | refine dn_block fit ?_)
  refine dn_rg fit RecOk.none' List.toList_toArray ?_
  repeat (first
    | refine th_still (wanted_none rfl) rfl (by simp (disch := first | omega | decide) [eqB_ptr0 Tryz.underlying26]; try rfl) ?_
    | (refine th_not (wanted_no rfl rfl ?_) ?_; focus (simp [eqB_ptr0 Tryz.underlying26]; done))
    | (refine th_not (wanted_off rfl rfl ?_) ?_; focus (simp [eqB_ptr0 Tryz.underlying26]; done))
    | (refine th_still (wanted_yes rfl rfl ?_) rfl (by simp (disch := first | omega | decide) [eqB_ptr0 Tryz.underlying26]; try rfl) ?_; focus (simp [eqB_ptr0 Tryz.underlying26]; done)))
  refine th_nil ?_
  refine dn_cond fit (x := false) (by simp) ?_
  repeat (first | refine dn_seq fit ?_ | refine dn_skip fit ?_ | refine dn_label fit ?_ | refine dn_inBlock fit ?_ | refine dn_block fit ?_)
  refine dn_rg fit (RecOk.none'.add hc) List.toList_toArray ?_
  repeat (first
    | refine th_still (wanted_none rfl) rfl (by simp (disch := first | omega | decide) [g9]; try rfl) ?_
    | (refine th_not (wanted_no rfl rfl ?_) ?_; focus (simp [g9]; done))
    | (refine th_not (wanted_off rfl rfl ?_) ?_; focus (simp [g9]; done))
    | (refine th_still (wanted_yes rfl rfl ?_) rfl (by simp (disch := first | omega | decide) [g9]; try rfl) ?_; focus (simp [g9]; done))
    | refine th_call (wanted_none rfl) rfl (by simp (disch := first | omega | decide) [g9, Rec.add_same, Rec.add_other_f]; first | done | rfl | exact ⟨rfl, rfl⟩) ?_
    | (refine th_call (wanted_yes rfl rfl ?_) rfl (by simp (disch := first | omega | decide) [g9, Rec.add_same, Rec.add_other_f]; first | done | rfl | exact ⟨rfl, rfl⟩) ?_; focus (simp [g9]; done)))
  refine th_nil ?_
  cases B with
  | false =>
    repeat (first | refine dn_seq fit ?_ | refine dn_skip fit ?_ | refine dn_label fit ?_ | refine dn_inBlock fit ?_ | refine dn_block fit ?_)
    refine dn_rg fit RecOk.none' List.toList_toArray ?_
    repeat (first
      | refine th_still (wanted_none rfl) rfl (by simp (disch := first | omega | decide) [g9]; try rfl) ?_
      | (refine th_not (wanted_no rfl rfl ?_) ?_; focus (simp [g9]; done))
      | (refine th_not (wanted_off rfl rfl ?_) ?_; focus (simp [g9]; done))
      | (refine th_still (wanted_yes rfl rfl ?_) rfl (by simp (disch := first | omega | decide) [g9]; try rfl) ?_; focus (simp [g9]; done)))
    refine th_nil ?_
    refine dn_cond fit (x := true) (by simp) ?_
    repeat (first | refine dn_seq fit ?_ | refine dn_skip fit ?_ | refine dn_label fit ?_ | refine dn_inBlock fit ?_ | refine dn_block fit ?_)
    refine dn_rg fit RecOk.none' List.toList_toArray ?_
    repeat (first
      | refine th_still (wanted_none rfl) rfl (by simp (disch := first | omega | decide) [g9]; try rfl) ?_
      | (refine th_not (wanted_no rfl rfl ?_) ?_; focus (simp [g9]; done))
      | (refine th_not (wanted_off rfl rfl ?_) ?_; focus (simp [g9]; done))
      | (refine th_still (wanted_yes rfl rfl ?_) rfl (by simp (disch := first | omega | decide) [g9]; try rfl) ?_; focus (simp [g9]; done)))
    refine th_nil ?_
    refine dn_ret fit ?_
    exact dn_out fit Tryz.func39 (rs := [.tmp 4, .tmp 5]) rfl (by simp []; first | done | rfl | exact ⟨rfl, rfl⟩) rfl
  | true =>
    have hlt : I < vs.length := by
      have := findAt_lt hB
      rw [hI] at this; omega
    rcases hrv with ⟨h1, _⟩ | ⟨_, rfl, hgv⟩
    · subst h1; simp at hlt
    obtain ⟨y, hy⟩ : ∃ y, vs.getD I (.bool false) = y := ⟨_, rfl⟩
    rw [if_pos rfl, hy]
    have hv : vs[I]'hlt = y := by rw [← hy]; simp [List.getD, List.getElem?_eq_getElem hlt]
    repeat (first | refine dn_seq fit ?_ | refine dn_skip fit ?_ | refine dn_label fit ?_ | refine dn_inBlock fit ?_ | refine dn_block fit ?_)
    refine dn_rg fit RecOk.none' List.toList_toArray ?_
    repeat (first
      | refine th_still (wanted_none rfl) rfl (by simp (disch := first | omega | decide) [g9]; try rfl) ?_
      | (refine th_not (wanted_no rfl rfl ?_) ?_; focus (simp [g9]; done))
      | (refine th_not (wanted_off rfl rfl ?_) ?_; focus (simp [g9]; done))
      | (refine th_still (wanted_yes rfl rfl ?_) rfl (by simp (disch := first | omega | decide) [g9]; try rfl) ?_; focus (simp [g9]; done)))
    refine th_nil ?_
    refine dn_cond fit (x := false) (by simp) ?_
    repeat (first | refine dn_seq fit ?_ | refine dn_skip fit ?_ | refine dn_label fit ?_ | refine dn_inBlock fit ?_ | refine dn_block fit ?_)
    refine dn_rg fit RecOk.none' List.toList_toArray ?_
    repeat (first
      | refine th_still (wanted_none rfl) rfl (by simp (disch := first | omega | decide) [hg, hgv, hlt, hv]; try rfl) ?_
      | (refine th_not (wanted_no rfl rfl ?_) ?_; focus (simp [hg, hgv, hlt, hv]; done))
      | (refine th_not (wanted_off rfl rfl ?_) ?_; focus (simp [hg, hgv, hlt, hv]; done))
      | (refine th_still (wanted_yes rfl rfl ?_) rfl (by simp (disch := first | omega | decide) [hg, hgv, hlt, hv]; try rfl) ?_; focus (simp [hg, hgv, hlt, hv]; done)))
    refine th_nil ?_
    refine dn_ret fit ?_
    exact dn_out fit Tryz.func39 (rs := [.tmp 4, .tmp 5]) rfl (by simp []; first | done | rfl | exact ⟨rfl, rfl⟩) rfl

set_option maxHeartbeats 4000000 in
theorem putBool_new {A : AH} {tb kb vb : Nat} {ks : List (List Nat)} {vs : List AV} (h : TabBool A tb kb vb ks vs) (hn : ks.length ≤ 1000000) (u : List Nat) {x : AV} (hx : x.oneCell = true) (hxc : x.cells = [x]) (hf : (findAt ks u).2 = false) :
    ∃ A', CallSpec Tryz.prog 8 [.ptr (some (tb, 0)), .str u, x] A (.bool true) A' ∧ TabBool A' tb (A.next + 1) (A.next + 3) (insAt ks (findAt ks u).1 u) (insAt vs (findAt ks u).1 x) ∧ A.next ≤ A'.next ∧ ∀ c, c < A.next → c ≠ tb → (ks ≠ [] → c ≠ kb ∧ c ≠ vb) → A'.get c = A.get c := by
  obtain ⟨⟨sk, sv, hg, hrk, hrv⟩, hlen, ⟨hl1, hl⟩, ha, hone⟩ := h
  have hc := findBool_spec hg hrk (by omega) u
  have hIle := findAt_le ks u
  obtain ⟨I, hI⟩ : ∃ I, (findAt ks u).1 = I := ⟨_, rfl⟩
  rw [hI] at hc hIle
  rw [hI]
  rw [hf] at hc
  -- the first word's block, and the row of names
  obtain ⟨Aa, hAa⟩ : ∃ Aa, Aa = A.new (.cells [.str u] 9 false) := ⟨_, rfl⟩
  have na : Aa.next = A.next + 1 := by rw [hAa]; rfl
  have ka : ∀ c, c < A.next → Aa.get c = A.get c := fun c hc => by rw [hAa]; exact AH.get_new_other _ _ _ (by omega)
  obtain ⟨A1, hc1, g1, n1, k1⟩ := ins_spec laysInsS (A := Aa) (s := sk) (b := kb) (i := I) (b2 := A.next) (x := .str u) (hrk.keep' fun hne => ka _ (hl (by simpa using hne)).1) (by simpa using hIle) (by rw [hAa]; exact AH.get_new_same _ _) (fun hne => by have := hl (by simpa using hne); omega)
    (by simp [allOne, AV.oneCell]) rfl (by simp; omega) (by simp; omega)
  rw [na] at hc1 g1 n1
  have hvk : vs ≠ [] → ks ≠ [] := fun h e => by subst e; exact h (List.length_eq_zero_iff.1 hlen)
  have hkv : ks ≠ [] → vs ≠ [] := fun h e => by subst e; exact h (List.length_eq_zero_iff.1 hlen.symm)
  have kk1 : ∀ c, c < A.next → (ks ≠ [] → c ≠ kb) → A1.get c = A.get c := fun c h1 h2 => by rw [k1 c (by omega) (fun hne => h2 (by simpa using hne)), ka c h1]
  -- the second
  obtain ⟨Ab, hAb⟩ : ∃ Ab, Ab = A1.new (.cells [x] 4 false) := ⟨_, rfl⟩
  have nb : Ab.next = A.next + 3 := by rw [hAb, AH.next_new, n1]
  have kb1 : ∀ c, c < A.next + 2 → Ab.get c = A1.get c := fun c hc => by rw [hAb]; exact AH.get_new_other _ _ _ (by omega)
  obtain ⟨A2, hc2, g2, n2, k2⟩ := ins_spec laysInsB (A := Ab) (s := sv) (b := vb) (i := I) (b2 := A.next + 2) (x := x) (hrv.keep' fun hne => by have := hl (hvk hne); rw [kb1 _ (by omega), kk1 _ this.2 (fun h => Ne.symm (ha h).2.2)]) (by omega) (by rw [hAb, ← n1]; exact AH.get_new_same _ _) (fun hne => by have := hl (hvk hne); omega)
    hone hx (by omega) (by omega)
  rw [nb] at hc2 g2 n2
  have kk2 : ∀ c, c < A.next → (ks ≠ [] → c ≠ kb ∧ c ≠ vb) → A2.get c = A.get c := fun c h1 h2 => by rw [k2 c (by omega) (fun hne => (h2 (hvk hne)).2), kb1 c (by omega), kk1 c h1 (fun h => (h2 h).1)]
  have hga : Aa.get tb = some (.cells [sk, sv] 29 false) := by rw [ka _ hl1]; exact hg
  have hg1 : A1.get tb = some (.cells [sk, sv] 29 false) := by rw [kk1 _ hl1 (fun h => (ha h).1)]; exact hg
  have hgb : Ab.get tb = some (.cells [sk, sv] 29 false) := by rw [kb1 _ (by omega)]; exact hg1
  have hg2 : A2.get tb = some (.cells [sk, sv] 29 false) := by rw [kk2 _ hl1 (fun h => ⟨(ha h).1, (ha h).2.1⟩)]; exact hg
  simp only [List.length_map] at hc1
  change CallSpec Tryz.prog 29 _ _ _ _ at hc1
  change CallSpec Tryz.prog 30 _ _ _ _ at hc2
  refine ⟨(A2.put tb (.cells [.slice (some (A.next + 1, 0)) (ks.length + 1) none, sv] 29 false)).put tb (.cells [.slice (some (A.next + 1, 0)) (ks.length + 1) none, .slice (some (A.next + 3, 0)) (vs.length + 1) none] 29 false), (CallSpecD.of_body fit Tryz.func8 rfl (N := 47) (by kernel_rfl) ?_).call, ?_⟩
  · refine dn_seq fit ?_
    repeat (first | refine dn_seq fit ?_ | refine dn_skip fit ?_ | refine dn_label fit ?_ | refine dn_inBlock fit ?_ | refine dn_block fit ?_)
    refine dn_rg fit RecOk.none' List.toList_toArray ?_
    repeat (first
      | refine th_still (wanted_none rfl) rfl (by simp (disch := first | omega | decide) [g9]; try rfl) ?_
      | (refine th_not (wanted_no rfl rfl ?_) ?_; focus (simp [g9]; done))
      | (refine th_not (wanted_off rfl rfl ?_) ?_; focus (simp [g9]; done))
      | (refine th_still (wanted_yes rfl rfl ?_) rfl (by simp (disch := first | omega | decide) [g9]; try rfl) ?_; focus (simp [g9]; done)))
    refine th_nil ?_
    repeat (first | refine dn_seq fit ?_ | refine dn_skip fit ?_ | refine dn_label fit ?_ | refine dn_inBlock fit ?_ | refine dn_block fit ?_)
    refine dn_rg fit RecOk.none' List.toList_toArray ?_
    repeat (first
      | refine th_still (wanted_none rfl) rfl (by simp (disch := first | omega | decide) [eqB_ptr0 Tryz.underlying26]; try rfl) ?_
      | (refine th_not (wanted_no rfl rfl ?_) ?_; focus (simp [eqB_ptr0 Tryz.underlying26]; done))
      | (refine th_not (wanted_off rfl rfl ?_) ?_; focus (simp [eqB_ptr0 Tryz.underlying26]; done))
      | (refine th_still (wanted_yes rfl rfl ?_) rfl (by simp (disch := first | omega | decide) [eqB_ptr0 Tryz.underlying26]; try rfl) ?_; focus (simp [eqB_ptr0 Tryz.underlying26]; done)))
    refine th_nil ?_
    refine dn_cond fit (x := false) (by simp) ?_
    repeat (first | refine dn_seq fit ?_ | refine dn_skip fit ?_ | refine dn_label fit ?_ | refine dn_inBlock fit ?_ | refine dn_block fit ?_)
    refine dn_rg fit (RecOk.none'.add hc) List.toList_toArray ?_
    repeat (first
      | refine th_still (wanted_none rfl) rfl (by simp (disch := first | omega | decide) [g9]; try rfl) ?_
      | (refine th_not (wanted_no rfl rfl ?_) ?_; focus (simp [g9]; done))
      | (refine th_not (wanted_off rfl rfl ?_) ?_; focus (simp [g9]; done))
      | (refine th_still (wanted_yes rfl rfl ?_) rfl (by simp (disch := first | omega | decide) [g9]; try rfl) ?_; focus (simp [g9]; done))
      | refine th_call (wanted_none rfl) rfl (by simp (disch := first | omega | decide) [g9, Rec.add_same, Rec.add_other_f]; first | done | rfl | exact ⟨rfl, rfl⟩) ?_
      | (refine th_call (wanted_yes rfl rfl ?_) rfl (by simp (disch := first | omega | decide) [g9, Rec.add_same, Rec.add_other_f]; first | done | rfl | exact ⟨rfl, rfl⟩) ?_; focus (simp [g9]; done)))
    refine th_nil ?_
    repeat (first | refine dn_seq fit ?_ | refine dn_skip fit ?_ | refine dn_label fit ?_ | refine dn_inBlock fit ?_ | refine dn_block fit ?_)
    refine dn_rg fit RecOk.none' List.toList_toArray ?_
    repeat (first
      | refine th_still (wanted_none rfl) rfl (by simp (disch := first | omega | decide) [g9]; try rfl) ?_
      | (refine th_not (wanted_no rfl rfl ?_) ?_; focus (simp [g9]; done))
      | (refine th_not (wanted_off rfl rfl ?_) ?_; focus (simp [g9]; done))
      | (refine th_still (wanted_yes rfl rfl ?_) rfl (by simp (disch := first | omega | decide) [g9]; try rfl) ?_; focus (simp [g9]; done)))
    refine th_nil ?_
    refine dn_cond fit (x := false) (by simp) ?_
    repeat (first | refine dn_seq fit ?_ | refine dn_skip fit ?_ | refine dn_label fit ?_ | refine dn_inBlock fit ?_ | refine dn_block fit ?_)
    refine dn_rgd fit ((RecOk.none'.add hc1).add hc2) List.toList_toArray (by kernel_rfl) (bs := [0, 0, 0, 4, 12, 28, 0, 0, 128, 508, 0, 1024, 3072, 7168, 0, 0, 32768, 131068, 262141, 524285, 1048573, 2097151, 4194303, 8388607]) (by kernel_rfl) ?_
    repeat (first
      | refine td_still (wanted_none rfl) rfl rfl rfl (by simp (disch := first | omega | decide) [hg, hga, hg1, hgb, hg2, ← hAa, ← hAb, n1, hxc, hx]; try rfl) ?_
      | (refine td_not (wanted_no rfl rfl ?_) ?_; focus (simp [hg, hga, hg1, hgb, hg2, ← hAa, ← hAb, n1, hxc, hx]; done))
      | (refine td_not (wanted_off rfl rfl ?_) ?_; focus (simp [hg, hga, hg1, hgb, hg2, ← hAa, ← hAb, n1, hxc, hx]; done))
      | (refine td_still (wanted_yes rfl rfl ?_) rfl rfl rfl (by simp (disch := first | omega | decide) [hg, hga, hg1, hgb, hg2, ← hAa, ← hAb, n1, hxc, hx]; try rfl) ?_; focus (simp [hg, hga, hg1, hgb, hg2, ← hAa, ← hAb, n1, hxc, hx]; done))
      | (refine td_look (wanted_none rfl) rfl rfl (by simp (disch := first | omega | decide) [hg, hga, hg1, hgb, hg2, ← hAa, ← hAb, n1, hxc, hx]; try rfl) ?_ ?_; focus (simp (disch := first | omega | decide) [hg, hga, hg1, hgb, hg2, ← hAa, ← hAb, n1, hxc, hx, Nat.testBit, stillAt, sameV_self]; done))
      | (refine td_look (wanted_yes rfl rfl ?_) rfl rfl (by simp (disch := first | omega | decide) [hg, hga, hg1, hgb, hg2, ← hAa, ← hAb, n1, hxc, hx]; try rfl) ?_ ?_; focus (simp [hg, hga, hg1, hgb, hg2, ← hAa, ← hAb, n1, hxc, hx]; done); focus (simp (disch := first | omega | decide) [hg, hga, hg1, hgb, hg2, ← hAa, ← hAb, n1, hxc, hx, Nat.testBit, stillAt, sameV_self]; done))
      | refine td_make (wanted_none rfl) rfl rfl (by simp (disch := first | omega | decide) [hg, hga, hg1, hgb, hg2, ← hAa, ← hAb, n1, hxc, hx, Rec.add_same, Rec.add_other_f]; first | done | rfl | exact ⟨rfl, rfl⟩) ?_
      | (refine td_turn (wanted_none rfl) rfl (by simp (disch := first | omega | decide) [hg, hga, hg1, hgb, hg2, ← hAa, ← hAb, n1, hxc, hx, Rec.add_same, Rec.add_other_f]; first | done | rfl | exact ⟨rfl, rfl⟩) ?_ ?_; focus (simp (disch := first | omega | decide) [hg, hga, hg1, hgb, hg2, ← hAa, ← hAb, n1, hxc, hx, Nat.testBit, stillAt, sameV_self]; done))
      | (refine td_turn (wanted_yes rfl rfl ?_) rfl (by simp (disch := first | omega | decide) [hg, hga, hg1, hgb, hg2, ← hAa, ← hAb, n1, hxc, hx, Rec.add_same, Rec.add_other_f]; first | done | rfl | exact ⟨rfl, rfl⟩) ?_ ?_; focus (simp [hg, hga, hg1, hgb, hg2, ← hAa, ← hAb, n1, hxc, hx]; done); focus (simp (disch := first | omega | decide) [hg, hga, hg1, hgb, hg2, ← hAa, ← hAb, n1, hxc, hx, Nat.testBit, stillAt, sameV_self]; done)))
    refine td_nil ?_
    repeat (first | refine dn_seq fit ?_ | refine dn_skip fit ?_ | refine dn_label fit ?_ | refine dn_inBlock fit ?_ | refine dn_block fit ?_)
    refine dn_rg fit RecOk.none' List.toList_toArray ?_
    repeat (first
      | refine th_still (wanted_none rfl) rfl (by simp (disch := first | omega | decide) [g9]; try rfl) ?_
      | (refine th_not (wanted_no rfl rfl ?_) ?_; focus (simp [g9]; done))
      | (refine th_not (wanted_off rfl rfl ?_) ?_; focus (simp [g9]; done))
      | (refine th_still (wanted_yes rfl rfl ?_) rfl (by simp (disch := first | omega | decide) [g9]; try rfl) ?_; focus (simp [g9]; done)))
    refine th_nil ?_
    refine dn_ret fit ?_
    exact dn_out fit Tryz.func8 (rs := [.tmp 6]) rfl (by simp []; first | done | rfl | exact ⟨rfl, rfl⟩) rfl
  · have hks := List.map_take (l := ks) (i := I) (f := AV.str)
    refine ⟨⟨⟨_, _, AH.get_put_same _ _ _, .inr ⟨by simp [insAt], ?_, ?_⟩, .inr ⟨by simp [insAt], ?_, ?_⟩⟩, ?_, ⟨?_, fun _ => ⟨?_, ?_⟩⟩, fun _ => ⟨by omega, by omega, by omega⟩, ?_⟩, ?_, ?_⟩
    · rw [List.length_map, insAt_length hIle]
    · rw [AH.get_put_other _ _ _ _ (by omega), AH.get_put_other _ _ _ _ (by omega), k2 _ (by omega) (fun hne => by have := hl (hvk hne); omega), kb1 _ (by omega), g1]
      simp [insAt]; rfl
    · rw [insAt_length (by omega)]
    · rw [AH.get_put_other _ _ _ _ (by omega), AH.get_put_other _ _ _ _ (by omega), g2]; rfl
    · rw [insAt_length (by omega), insAt_length hIle, hlen]
    · simp only [AH.next_put]; omega
    · simp only [AH.next_put]; omega
    · simp only [AH.next_put]; omega
    · exact allOne_insAt hone hx
    · simp only [AH.next_put]; omega
    · intro c h1 h2 h3
      rw [AH.get_put_other _ _ _ _ h2, AH.get_put_other _ _ _ _ h2]
      exact kk2 c h1 h3

set_option maxHeartbeats 4000000 in
theorem putBool_old {A : AH} {tb kb vb : Nat} {ks : List (List Nat)} {vs : List AV} (h : TabBool A tb kb vb ks vs) (hn : ks.length ≤ 1000000) (u : List Nat) {x : AV} (hx : x.oneCell = true) (hxc : x.cells = [x]) (hf : (findAt ks u).2 = true) :
    ∃ A', CallSpec Tryz.prog 8 [.ptr (some (tb, 0)), .str u, x] A (.bool false) A' ∧ TabBool A' tb kb vb ks (vs.set (findAt ks u).1 x) ∧ A.next ≤ A'.next ∧ ∀ c, c < A.next → c ≠ tb → (ks ≠ [] → c ≠ kb ∧ c ≠ vb) → A'.get c = A.get c := by
  obtain ⟨⟨sk, sv, hg, hrk, hrv⟩, hlen, ⟨hl1, hl⟩, ha, hone⟩ := h
  have hc := findBool_spec hg hrk (by omega) u
  have hlt : (findAt ks u).1 < vs.length := by rw [hlen]; exact findAt_lt hf
  obtain ⟨I, hI⟩ : ∃ I, (findAt ks u).1 = I := ⟨_, rfl⟩
  rw [hI] at hc hlt
  rw [hI]
  rw [hf] at hc
  rcases hrv with ⟨h1, _⟩ | ⟨hne, rfl, hgv⟩
  · subst h1; simp at hlt
  have hlt1 : I + 1 ≤ vs.length := hlt
  have hkn : ks ≠ [] := fun e => by rw [e, List.length_nil] at hlen; omega
  obtain ⟨ha1, ha2, ha3⟩ := ha hkn
  obtain ⟨hl2, hl3⟩ := hl hkn
  refine ⟨A.put vb (.cells (vs.set I x) 4 false), (CallSpecD.of_body fit Tryz.func8 rfl (N := 47) (by kernel_rfl) ?_).call, ?_⟩
  · repeat (first | refine dn_seq fit ?_ | refine dn_skip fit ?_ | refine dn_label fit ?_ | refine dn_inBlock fit ?_ | refine dn_block fit ?_)
    refine dn_rg fit RecOk.none' List.toList_toArray ?_
    repeat (first
      | refine th_still (wanted_none rfl) rfl (by simp (disch := first | omega | decide) [g9]; try rfl) ?_
      | (refine th_not (wanted_no rfl rfl ?_) ?_; focus (simp [g9]; done))
      | (refine th_not (wanted_off rfl rfl ?_) ?_; focus (simp [g9]; done))
      | (refine th_still (wanted_yes rfl rfl ?_) rfl (by simp (disch := first | omega | decide) [g9]; try rfl) ?_; focus (simp [g9]; done)))
    refine th_nil ?_
    repeat (first | refine dn_seq fit ?_ | refine dn_skip fit ?_ | refine dn_label fit ?_ | refine dn_inBlock fit ?_ | refine dn_block fit ?_)
    refine dn_rg fit RecOk.none' List.toList_toArray ?_
    repeat (first
      | refine th_still (wanted_none rfl) rfl (by simp (disch := first | omega | decide) [eqB_ptr0 Tryz.underlying26]; try rfl) ?_
      | (refine th_not (wanted_no rfl rfl ?_) ?_; focus (simp [eqB_ptr0 Tryz.underlying26]; done))
      | (refine th_not (wanted_off rfl rfl ?_) ?_; focus (simp [eqB_ptr0 Tryz.underlying26]; done))
      | (refine th_still (wanted_yes rfl rfl ?_) rfl (by simp (disch := first | omega | decide) [eqB_ptr0 Tryz.underlying26]; try rfl) ?_; focus (simp [eqB_ptr0 Tryz.underlying26]; done)))
    refine th_nil ?_
    refine dn_cond fit (x := false) (by simp) ?_
    repeat (first | refine dn_seq fit ?_ | refine dn_skip fit ?_ | refine dn_label fit ?_ | refine dn_inBlock fit ?_ | refine dn_block fit ?_)
    refine dn_rg fit (RecOk.none'.add hc) List.toList_toArray ?_
    repeat (first
      | refine th_still (wanted_none rfl) rfl (by simp (disch := first | omega | decide) [g9]; try rfl) ?_
      | (refine th_not (wanted_no rfl rfl ?_) ?_; focus (simp [g9]; done))
      | (refine th_not (wanted_off rfl rfl ?_) ?_; focus (simp [g9]; done))
      | (refine th_still (wanted_yes rfl rfl ?_) rfl (by simp (disch := first | omega | decide) [g9]; try rfl) ?_; focus (simp [g9]; done))
      | refine th_call (wanted_none rfl) rfl (by simp (disch := first | omega | decide) [g9, Rec.add_same, Rec.add_other_f]; first | done | rfl | exact ⟨rfl, rfl⟩) ?_
      | (refine th_call (wanted_yes rfl rfl ?_) rfl (by simp (disch := first | omega | decide) [g9, Rec.add_same, Rec.add_other_f]; first | done | rfl | exact ⟨rfl, rfl⟩) ?_; focus (simp [g9]; done)))
    refine th_nil ?_
    repeat (first | refine dn_seq fit ?_ | refine dn_skip fit ?_ | refine dn_label fit ?_ | refine dn_inBlock fit ?_ | refine dn_block fit ?_)
    refine dn_rg fit RecOk.none' List.toList_toArray ?_
    repeat (first
      | refine th_still (wanted_none rfl) rfl (by simp (disch := first | omega | decide) [g9]; try rfl) ?_
      | (refine th_not (wanted_no rfl rfl ?_) ?_; focus (simp [g9]; done))
      | (refine th_not (wanted_off rfl rfl ?_) ?_; focus (simp [g9]; done))
      | (refine th_still (wanted_yes rfl rfl ?_) rfl (by simp (disch := first | omega | decide) [g9]; try rfl) ?_; focus (simp [g9]; done)))
    refine th_nil ?_
    refine dn_cond fit (x := true) (by simp) ?_
    repeat (first | refine dn_seq fit ?_ | refine dn_skip fit ?_ | refine dn_label fit ?_ | refine dn_inBlock fit ?_ | refine dn_block fit ?_)
    refine dn_rg fit RecOk.none' List.toList_toArray ?_
    repeat (first
      | refine th_still (wanted_none rfl) rfl (by simp (disch := first | omega | decide) [hg, hgv, hlt, hlt1, hx, hxc]; try rfl) ?_
      | (refine th_not (wanted_no rfl rfl ?_) ?_; focus (simp [hg, hgv, hlt, hlt1, hx, hxc]; done))
      | (refine th_not (wanted_off rfl rfl ?_) ?_; focus (simp [hg, hgv, hlt, hlt1, hx, hxc]; done))
      | (refine th_still (wanted_yes rfl rfl ?_) rfl (by simp (disch := first | omega | decide) [hg, hgv, hlt, hlt1, hx, hxc]; try rfl) ?_; focus (simp [hg, hgv, hlt, hlt1, hx, hxc]; done))
      | refine th_eff (wanted_none rfl) rfl (by simp (disch := first | omega | decide) [hg, hgv, hlt, hlt1, hx, hxc, Rec.add_same, Rec.add_other_f]; first | done | rfl | exact ⟨rfl, rfl⟩) ?_
      | (refine th_eff (wanted_yes rfl rfl ?_) rfl (by simp (disch := first | omega | decide) [hg, hgv, hlt, hlt1, hx, hxc, Rec.add_same, Rec.add_other_f]; first | done | rfl | exact ⟨rfl, rfl⟩) ?_; focus (simp [hg, hgv, hlt, hlt1, hx, hxc]; done)))
    refine th_nil ?_
    repeat (first | refine dn_seq fit ?_ | refine dn_skip fit ?_ | refine dn_label fit ?_ | refine dn_inBlock fit ?_ | refine dn_block fit ?_)
    refine dn_rg fit RecOk.none' List.toList_toArray ?_
    repeat (first
      | refine th_still (wanted_none rfl) rfl (by simp (disch := first | omega | decide) [g9]; try rfl) ?_
      | (refine th_not (wanted_no rfl rfl ?_) ?_; focus (simp [g9]; done))
      | (refine th_not (wanted_off rfl rfl ?_) ?_; focus (simp [g9]; done))
      | (refine th_still (wanted_yes rfl rfl ?_) rfl (by simp (disch := first | omega | decide) [g9]; try rfl) ?_; focus (simp [g9]; done)))
    refine th_nil ?_
    refine dn_ret fit ?_
    exact dn_out fit Tryz.func8 (rs := [.tmp 6]) rfl (by simp []; first | done | rfl | exact ⟨rfl, rfl⟩) rfl
  · refine ⟨⟨⟨_, _, by rw [AH.get_put_other _ _ _ _ ha2]; exact hg, hrk.keep (AH.get_put_other _ _ _ _ ha3), .inr ⟨by simpa using hne, by simp, AH.get_put_same _ _ _⟩⟩, by simpa using hlen, ⟨hl1, hl⟩, ha, allOne_set hone hx⟩, Nat.le_refl _, ?_⟩
    intro c h1 h2 h3
    exact AH.get_put_other _ _ _ _ (h3 hkn).2

end Go.Proofs.YtebjajchdidnfaaGreatDoor

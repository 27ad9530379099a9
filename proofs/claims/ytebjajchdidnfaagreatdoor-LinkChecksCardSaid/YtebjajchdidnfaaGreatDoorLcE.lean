/-
  A part of the road: an evaluator over abstract memory with a proved simulation, and what is reckoned by it. Written by an AI agent; no person has read it.
-/
import Derived.Test.YtebjajchdidnfaaGreatDoorLcD
import Derived.Test.YtebjajchdidnfaaGreatDoorLtSort
set_option linter.all false
set_option linter.all false
set_option maxRecDepth 100000
namespace Go.Proofs.YtebjajchdidnfaaGreatDoor
open Go Go.Fold Go.Shelf Go.Lib

/-- a slice of words -/
def Strs (A : AH) (s : AV) (l : List (List Nat)) : Prop :=
  (l = [] ∧ s = .slice none 0 (some 0)) ∨ ∃ b c q e fz, s = .slice (some (b, 0)) l.length q ∧ A.get b = some (.cells c e fz) ∧ b < A.next ∧ ∀ j, j < l.length → c[j]? = some (.str (l.getD j []))

theorem Strs.keep {A A' : AH} {s : AV} {l : List (List Nat)} (h : Strs A s l) (hn : A.next ≤ A'.next) (hk : ∀ b, b < A.next → A'.get b = A.get b) : Strs A' s l := by
  rcases h with h | ⟨b, c, q, e, fz, h1, h2, h3, h4⟩
  · exact .inl h
  · exact .inr ⟨b, c, q, e, fz, h1, by rw [hk b h3]; exact h2, by omega, h4⟩

theorem hasWord_false {l : List (List Nat)} {s : List Nat} (h : ∀ j, j < l.length → bytesEq (l.getD j []) s = false) : hasWord l s = false := by
  unfold hasWord
  rw [List.any_eq_false]
  intro x hx
  obtain ⟨j, hj, rfl⟩ := List.getElem_of_mem hx
  have := h j hj
  rw [show l.getD j [] = l[j] by simp [List.getD, List.getElem?_eq_getElem hj]] at this
  simp [this]
theorem hasWord_true {l : List (List Nat)} {s : List Nat} {j : Nat} (hj : j < l.length) (h : bytesEq (l.getD j []) s = true) : hasWord l s = true := by
  unfold hasWord
  rw [List.any_eq_true]
  refine ⟨l[j], List.getElem_mem hj, ?_⟩
  rw [show l.getD j [] = l[j] by simp [List.getD, List.getElem?_eq_getElem hj]] at h
  exact h

/-- the law's own list -/
theorem list_spec {A : AH} {sl : AV} {l : List (List Nat)} (h : Strs A sl l) (hn : l.length ≤ 1000000) (s : List Nat) : CallSpec Tryz.prog 7 [.str s, sl] A (.bool (hasWord l s)) A := by
  have hlen : ∃ a q, sl = .slice a l.length q := by
    rcases h with ⟨rfl, rfl⟩ | ⟨b, c, q, e, fz, rfl, _⟩
    · exact ⟨_, _, rfl⟩
    · exact ⟨_, _, rfl⟩
  obtain ⟨a, q, hsl⟩ := hlen
  refine (CallSpecD.of_body fit Tryz.func7 rfl (N := 17) (by kernel_rfl) ?_).call
  repeat (first | refine dn_seq fit ?_ | refine dn_skip fit ?_ | refine dn_label fit ?_ | refine dn_inBlock fit ?_ | refine dn_block fit ?_)
  refine dn_rg fit RecOk.none' List.toList_toArray ?_
  repeat (first
    | refine th_still (wanted_none rfl) rfl (by simp (disch := first | omega | decide) [g9]; try rfl) ?_
    | (refine th_not (wanted_no rfl rfl ?_) ?_; focus (simp [g9]; done))
    | (refine th_not (wanted_off rfl rfl ?_) ?_; focus (simp [g9]; done))
    | (refine th_still (wanted_yes rfl rfl ?_) rfl (by simp (disch := first | omega | decide) [g9]; try rfl) ?_; focus (simp [g9]; done)))
  refine th_nil ?_
  repeat (first | refine dn_seq fit ?_ | refine dn_skip fit ?_ | refine dn_label fit ?_ | refine dn_inBlock fit ?_ | refine dn_block fit ?_)
  repeat (first | refine dn_seq fit ?_ | refine dn_skip fit ?_ | refine dn_label fit ?_ | refine dn_inBlock fit ?_ | refine dn_block fit ?_)
  refine dn_rg fit RecOk.none' List.toList_toArray ?_
  repeat (first
    | refine th_still (wanted_none rfl) rfl (by simp (disch := first | omega | decide) [hsl]; try rfl) ?_
    | (refine th_not (wanted_no rfl rfl ?_) ?_; focus (simp [hsl]; done))
    | (refine th_not (wanted_off rfl rfl ?_) ?_; focus (simp [hsl]; done))
    | (refine th_still (wanted_yes rfl rfl ?_) rfl (by simp (disch := first | omega | decide) [hsl]; try rfl) ?_; focus (simp [hsl]; done)))
  refine th_nil ?_
  repeat (first | refine dn_seq fit ?_ | refine dn_skip fit ?_ | refine dn_label fit ?_ | refine dn_inBlock fit ?_ | refine dn_block fit ?_)
  repeat (first | refine dn_seq fit ?_ | refine dn_skip fit ?_ | refine dn_label fit ?_ | refine dn_inBlock fit ?_ | refine dn_block fit ?_)
  refine dn_loop_ind fit (fun g t A' => A' = A ∧ ∃ i : Nat, t.n = 17 ∧ t.get 0 = .str s ∧ t.get 7 = sl ∧ t.get 8 = .int .i64 l.length ∧ t.get 9 = .int .i64 i ∧ i ≤ l.length ∧ l.length - i ≤ g ∧ ∀ j, j < i → bytesEq (l.getD j []) s = false) l.length
    ⟨rfl, 0, by simp, by simp, by simp [hsl], by simp [hsl], by simp, by omega, by omega, fun j hj => by omega⟩ ?_
  rintro g t A' ⟨rfl, i, tn, t0, t7, t8, t9, h1, h2, h3⟩ hrec
  repeat (first | refine dn_seq fit ?_ | refine dn_skip fit ?_ | refine dn_label fit ?_ | refine dn_inBlock fit ?_ | refine dn_block fit ?_)
  refine dn_rg fit RecOk.none' List.toList_toArray ?_
  repeat (first
    | refine th_still (wanted_none rfl) rfl (by simp (disch := first | omega | decide) [tn, t0, t7, t8, t9]; try rfl) ?_
    | (refine th_not (wanted_no rfl rfl ?_) ?_; focus (simp [tn, t0, t7, t8, t9]; done))
    | (refine th_not (wanted_off rfl rfl ?_) ?_; focus (simp [tn, t0, t7, t8, t9]; done))
    | (refine th_still (wanted_yes rfl rfl ?_) rfl (by simp (disch := first | omega | decide) [tn, t0, t7, t8, t9]; try rfl) ?_; focus (simp [tn, t0, t7, t8, t9]; done)))
  refine th_nil ?_
  repeat (first | refine dn_seq fit ?_ | refine dn_skip fit ?_ | refine dn_label fit ?_ | refine dn_inBlock fit ?_ | refine dn_block fit ?_)
  by_cases hlt : i < l.length
  · refine dn_cond fit (x := true) (by simp [tn, hlt]) ?_
    rcases h with ⟨rfl, _⟩ | ⟨b, c, q2, e, fz, hs2, hg, hbn, hc⟩
    · simp at hlt
    have hci := hc i hlt
    obtain ⟨y, hy⟩ : ∃ y, l.getD i [] = y := ⟨_, rfl⟩
    rw [hy] at hci
    subst hs2
    repeat (first | refine dn_seq fit ?_ | refine dn_skip fit ?_ | refine dn_label fit ?_ | refine dn_inBlock fit ?_ | refine dn_block fit ?_)
    refine dn_rg fit RecOk.none' List.toList_toArray ?_
    repeat (first
      | refine th_still (wanted_none rfl) rfl (by simp (disch := first | omega | decide) [tn, t0, t7, t8, t9, hlt, hg, hci]; try rfl) ?_
      | (refine th_not (wanted_no rfl rfl ?_) ?_; focus (simp [tn, t0, t7, t8, t9, hlt, hg, hci]; done))
      | (refine th_not (wanted_off rfl rfl ?_) ?_; focus (simp [tn, t0, t7, t8, t9, hlt, hg, hci]; done))
      | (refine th_still (wanted_yes rfl rfl ?_) rfl (by simp (disch := first | omega | decide) [tn, t0, t7, t8, t9, hlt, hg, hci]; try rfl) ?_; focus (simp [tn, t0, t7, t8, t9, hlt, hg, hci]; done)))
    refine th_nil ?_
    repeat (first | refine dn_seq fit ?_ | refine dn_skip fit ?_ | refine dn_label fit ?_ | refine dn_inBlock fit ?_ | refine dn_block fit ?_)
    repeat (first | refine dn_seq fit ?_ | refine dn_skip fit ?_ | refine dn_label fit ?_ | refine dn_inBlock fit ?_ | refine dn_block fit ?_)
    refine dn_rg fit RecOk.none' List.toList_toArray ?_
    repeat (first
      | refine th_still (wanted_none rfl) rfl (by simp (disch := first | omega | decide) [tn, t0, t7, t8, t9]; try rfl) ?_
      | (refine th_not (wanted_no rfl rfl ?_) ?_; focus (simp [tn, t0, t7, t8, t9]; done))
      | (refine th_not (wanted_off rfl rfl ?_) ?_; focus (simp [tn, t0, t7, t8, t9]; done))
      | (refine th_still (wanted_yes rfl rfl ?_) rfl (by simp (disch := first | omega | decide) [tn, t0, t7, t8, t9]; try rfl) ?_; focus (simp [tn, t0, t7, t8, t9]; done)))
    refine th_nil ?_
    repeat (first | refine dn_seq fit ?_ | refine dn_skip fit ?_ | refine dn_label fit ?_ | refine dn_inBlock fit ?_ | refine dn_block fit ?_)
    cases hb : bytesEq y s with
    | true =>
      rw [hasWord_true hlt (by rw [hy]; exact hb)]
      refine dn_cond fit (x := true) (by simp [tn, hb]) ?_
      repeat (first | refine dn_seq fit ?_ | refine dn_skip fit ?_ | refine dn_label fit ?_ | refine dn_inBlock fit ?_ | refine dn_block fit ?_)
      refine dn_rg fit RecOk.none' List.toList_toArray ?_
      repeat (first
        | refine th_still (wanted_none rfl) rfl (by simp (disch := first | omega | decide) [tn, t0]; try rfl) ?_
        | (refine th_not (wanted_no rfl rfl ?_) ?_; focus (simp [tn, t0]; done))
        | (refine th_not (wanted_off rfl rfl ?_) ?_; focus (simp [tn, t0]; done))
        | (refine th_still (wanted_yes rfl rfl ?_) rfl (by simp (disch := first | omega | decide) [tn, t0]; try rfl) ?_; focus (simp [tn, t0]; done)))
      refine th_nil ?_
      repeat (first | refine dn_seq fit ?_ | refine dn_skip fit ?_ | refine dn_label fit ?_ | refine dn_inBlock fit ?_ | refine dn_block fit ?_)
      refine dn_ret fit ?_
      exact dn_out fit Tryz.func7 (rs := [.tmp 4]) rfl (by simp [tn]; first | done | rfl | exact ⟨rfl, rfl⟩) rfl
    | false =>
      refine dn_cond fit (x := false) (by simp [tn, hb]) ?_
      repeat (first | refine dn_seq fit ?_ | refine dn_skip fit ?_ | refine dn_label fit ?_ | refine dn_inBlock fit ?_ | refine dn_block fit ?_)
      refine dn_rg fit RecOk.none' List.toList_toArray ?_
      repeat (first
        | refine th_still (wanted_none rfl) rfl (by simp (disch := first | omega | decide) [tn, t0, t7, t8, t9, wrap_i64]; try rfl) ?_
        | (refine th_not (wanted_no rfl rfl ?_) ?_; focus (simp [tn, t0, t7, t8, t9, wrap_i64]; done))
        | (refine th_not (wanted_off rfl rfl ?_) ?_; focus (simp [tn, t0, t7, t8, t9, wrap_i64]; done))
        | (refine th_still (wanted_yes rfl rfl ?_) rfl (by simp (disch := first | omega | decide) [tn, t0, t7, t8, t9, wrap_i64]; try rfl) ?_; focus (simp [tn, t0, t7, t8, t9, wrap_i64]; done)))
      refine th_nil ?_
      repeat (first | refine dn_seq fit ?_ | refine dn_skip fit ?_ | refine dn_label fit ?_ | refine dn_inBlock fit ?_ | refine dn_block fit ?_)
      refine hrec (g - 1) _ _ (by omega) ⟨rfl, i + 1, by simp [tn], by simp [tn, t0], by simp [tn, t7], by simp [tn, t8], by simp [tn], by omega, by omega, fun j hj => ?_⟩
      by_cases hji : j = i
      · subst hji; rw [hy]; exact hb
      · exact h3 j (by omega)
  · rw [hasWord_false (fun j hj => h3 j (by omega))]
    refine dn_cond fit (x := false) (by simp [tn, hlt]) ?_
    refine dn_exit fit rfl ?_
    repeat (first | refine dn_seq fit ?_ | refine dn_skip fit ?_ | refine dn_label fit ?_ | refine dn_inBlock fit ?_ | refine dn_block fit ?_)
    refine dn_rg fit RecOk.none' List.toList_toArray ?_
    repeat (first
      | refine th_still (wanted_none rfl) rfl (by simp (disch := first | omega | decide) [tn, t0]; try rfl) ?_
      | (refine th_not (wanted_no rfl rfl ?_) ?_; focus (simp [tn, t0]; done))
      | (refine th_not (wanted_off rfl rfl ?_) ?_; focus (simp [tn, t0]; done))
      | (refine th_still (wanted_yes rfl rfl ?_) rfl (by simp (disch := first | omega | decide) [tn, t0]; try rfl) ?_; focus (simp [tn, t0]; done)))
    refine th_nil ?_
    repeat (first | refine dn_seq fit ?_ | refine dn_skip fit ?_ | refine dn_label fit ?_ | refine dn_inBlock fit ?_ | refine dn_block fit ?_)
    refine dn_ret fit ?_
    exact dn_out fit Tryz.func7 (rs := [.tmp 4]) rfl (by simp [tn]; first | done | rfl | exact ⟨rfl, rfl⟩) rfl

/-- the places of a file: none of the first's -/
def noTable (files : List (List Nat)) (f : List Nat) : Bool := match files with
  | [] => false
  | x :: _ => bytesEq f x

theorem anchors_spec {A : AH} {sf : AV} {files : List (List Nat)} {p4 p8 tb : Nat} {f4 f8 : Bool} (h4 : A.get p4 = some (.cells [sf] 23 f4)) (hs : Strs A sf files) (h8 : A.get p8 = some (.cells [.ptr (some (tb, 0))] 26 f8)) (f : List Nat) :
    CallSpec Tryz.prog 9 [.str f, .ptr (some (p4, 0)), .ptr (some (p8, 0))] A (if noTable files f then .ptr none else .ptr (some (tb, 0))) A := by
  refine (CallSpecD.of_body fit Tryz.func9 rfl (N := 16) (by kernel_rfl) ?_).call
  repeat (first | refine dn_seq fit ?_ | refine dn_skip fit ?_ | refine dn_label fit ?_ | refine dn_inBlock fit ?_ | refine dn_block fit ?_)
  refine dn_rg fit RecOk.none' List.toList_toArray ?_
  repeat (first
    | refine th_still (wanted_none rfl) rfl (by simp (disch := first | omega | decide) [g9]; try rfl) ?_
    | (refine th_not (wanted_no rfl rfl ?_) ?_; focus (simp [g9]; done))
    | (refine th_not (wanted_off rfl rfl ?_) ?_; focus (simp [g9]; done))
    | (refine th_still (wanted_yes rfl rfl ?_) rfl (by simp (disch := first | omega | decide) [g9]; try rfl) ?_; focus (simp [g9]; done)))
  refine th_nil ?_
  repeat (first | refine dn_seq fit ?_ | refine dn_skip fit ?_ | refine dn_label fit ?_ | refine dn_inBlock fit ?_ | refine dn_block fit ?_)
  cases files with
  | nil =>
    have hl : ∃ a q, sf = .slice a 0 q := by
      rcases hs with ⟨_, rfl⟩ | ⟨b, c, q, e, fz, rfl, _⟩
      · exact ⟨_, _, rfl⟩
      · exact ⟨_, _, rfl⟩
    obtain ⟨a, q, rfl⟩ := hl
    repeat (first | refine dn_seq fit ?_ | refine dn_skip fit ?_ | refine dn_label fit ?_ | refine dn_inBlock fit ?_ | refine dn_block fit ?_)
    refine dn_rg fit RecOk.none' List.toList_toArray ?_
    repeat (first
      | refine th_still (wanted_none rfl) rfl (by simp (disch := first | omega | decide) [h4, h8]; try rfl) ?_
      | (refine th_not (wanted_no rfl rfl ?_) ?_; focus (simp [h4, h8]; done))
      | (refine th_not (wanted_off rfl rfl ?_) ?_; focus (simp [h4, h8]; done))
      | (refine th_still (wanted_yes rfl rfl ?_) rfl (by simp (disch := first | omega | decide) [h4, h8]; try rfl) ?_; focus (simp [h4, h8]; done)))
    refine th_nil ?_
    repeat (first | refine dn_seq fit ?_ | refine dn_skip fit ?_ | refine dn_label fit ?_ | refine dn_inBlock fit ?_ | refine dn_block fit ?_)
    refine dn_cond fit (x := false) (by simp) ?_
    repeat (first | refine dn_seq fit ?_ | refine dn_skip fit ?_ | refine dn_label fit ?_ | refine dn_inBlock fit ?_ | refine dn_block fit ?_)
    refine dn_rg fit RecOk.none' List.toList_toArray ?_
    repeat (first
      | refine th_still (wanted_none rfl) rfl (by simp (disch := first | omega | decide) [h4, h8]; try rfl) ?_
      | (refine th_not (wanted_no rfl rfl ?_) ?_; focus (simp [h4, h8]; done))
      | (refine th_not (wanted_off rfl rfl ?_) ?_; focus (simp [h4, h8]; done))
      | (refine th_still (wanted_yes rfl rfl ?_) rfl (by simp (disch := first | omega | decide) [h4, h8]; try rfl) ?_; focus (simp [h4, h8]; done)))
    refine th_nil ?_
    repeat (first | refine dn_seq fit ?_ | refine dn_skip fit ?_ | refine dn_label fit ?_ | refine dn_inBlock fit ?_ | refine dn_block fit ?_)
    refine dn_ret fit ?_
    exact dn_out fit Tryz.func9 (rs := [.tmp 4]) rfl (by simp []; first | done | rfl | exact ⟨rfl, rfl⟩) (by simp [noTable, packA])
  | cons x r =>
    rcases hs with ⟨hh, _⟩ | ⟨b, c, q, e, fz, rfl, hg, hbn, hc⟩
    · cases hh
    have hc0 := hc 0 (by simp)
    simp only [List.getD, List.getElem?_cons_zero, Option.getD_some] at hc0
    have hpos : 0 < (x :: r).length := by simp
    have hpos2 : (0 : Int) < ((x :: r).length : Int) := by omega
    obtain ⟨n, hn⟩ : ∃ n, (x :: r).length = n := ⟨_, rfl⟩
    rw [hn] at h4 hpos hpos2
    cases hb : bytesEq f x with
    | true =>
      repeat (first | refine dn_seq fit ?_ | refine dn_skip fit ?_ | refine dn_label fit ?_ | refine dn_inBlock fit ?_ | refine dn_block fit ?_)
      refine dn_rg fit RecOk.none' List.toList_toArray ?_
      repeat (first
        | refine th_still (wanted_none rfl) rfl (by simp (disch := first | omega | decide) [h4, h8, hpos, hpos2, hg, hc0, hb]; try rfl) ?_
        | (refine th_not (wanted_no rfl rfl ?_) ?_; focus (simp [h4, h8, hpos, hpos2, hg, hc0, hb]; done))
        | (refine th_not (wanted_off rfl rfl ?_) ?_; focus (simp [h4, h8, hpos, hpos2, hg, hc0, hb]; done))
        | (refine th_still (wanted_yes rfl rfl ?_) rfl (by simp (disch := first | omega | decide) [h4, h8, hpos, hpos2, hg, hc0, hb]; try rfl) ?_; focus (simp [h4, h8, hpos, hpos2, hg, hc0, hb]; done)))
      refine th_nil ?_
      repeat (first | refine dn_seq fit ?_ | refine dn_skip fit ?_ | refine dn_label fit ?_ | refine dn_inBlock fit ?_ | refine dn_block fit ?_)
      refine dn_cond fit (x := true) (by simp) ?_
      repeat (first | refine dn_seq fit ?_ | refine dn_skip fit ?_ | refine dn_label fit ?_ | refine dn_inBlock fit ?_ | refine dn_block fit ?_)
      refine dn_rg fit RecOk.none' List.toList_toArray ?_
      repeat (first
        | refine th_still (wanted_none rfl) rfl (by simp (disch := first | omega | decide) [h4, h8]; try rfl) ?_
        | (refine th_not (wanted_no rfl rfl ?_) ?_; focus (simp [h4, h8]; done))
        | (refine th_not (wanted_off rfl rfl ?_) ?_; focus (simp [h4, h8]; done))
        | (refine th_still (wanted_yes rfl rfl ?_) rfl (by simp (disch := first | omega | decide) [h4, h8]; try rfl) ?_; focus (simp [h4, h8]; done)))
      refine th_nil ?_
      repeat (first | refine dn_seq fit ?_ | refine dn_skip fit ?_ | refine dn_label fit ?_ | refine dn_inBlock fit ?_ | refine dn_block fit ?_)
      refine dn_ret fit ?_
      exact dn_out fit Tryz.func9 (rs := [.tmp 4]) rfl (by simp []; first | done | rfl | exact ⟨rfl, rfl⟩) (by simp [noTable, packA, hb])
    | false =>
      repeat (first | refine dn_seq fit ?_ | refine dn_skip fit ?_ | refine dn_label fit ?_ | refine dn_inBlock fit ?_ | refine dn_block fit ?_)
      refine dn_rg fit RecOk.none' List.toList_toArray ?_
      repeat (first
        | refine th_still (wanted_none rfl) rfl (by simp (disch := first | omega | decide) [h4, h8, hpos, hpos2, hg, hc0, hb]; try rfl) ?_
        | (refine th_not (wanted_no rfl rfl ?_) ?_; focus (simp [h4, h8, hpos, hpos2, hg, hc0, hb]; done))
        | (refine th_not (wanted_off rfl rfl ?_) ?_; focus (simp [h4, h8, hpos, hpos2, hg, hc0, hb]; done))
        | (refine th_still (wanted_yes rfl rfl ?_) rfl (by simp (disch := first | omega | decide) [h4, h8, hpos, hpos2, hg, hc0, hb]; try rfl) ?_; focus (simp [h4, h8, hpos, hpos2, hg, hc0, hb]; done)))
      refine th_nil ?_
      repeat (first | refine dn_seq fit ?_ | refine dn_skip fit ?_ | refine dn_label fit ?_ | refine dn_inBlock fit ?_ | refine dn_block fit ?_)
      refine dn_cond fit (x := false) (by simp) ?_
      repeat (first | refine dn_seq fit ?_ | refine dn_skip fit ?_ | refine dn_label fit ?_ | refine dn_inBlock fit ?_ | refine dn_block fit ?_)
      refine dn_rg fit RecOk.none' List.toList_toArray ?_
      repeat (first
        | refine th_still (wanted_none rfl) rfl (by simp (disch := first | omega | decide) [h4, h8]; try rfl) ?_
        | (refine th_not (wanted_no rfl rfl ?_) ?_; focus (simp [h4, h8]; done))
        | (refine th_not (wanted_off rfl rfl ?_) ?_; focus (simp [h4, h8]; done))
        | (refine th_still (wanted_yes rfl rfl ?_) rfl (by simp (disch := first | omega | decide) [h4, h8]; try rfl) ?_; focus (simp [h4, h8]; done)))
      refine th_nil ?_
      repeat (first | refine dn_seq fit ?_ | refine dn_skip fit ?_ | refine dn_label fit ?_ | refine dn_inBlock fit ?_ | refine dn_block fit ?_)
      refine dn_ret fit ?_
      exact dn_out fit Tryz.func9 (rs := [.tmp 4]) rfl (by simp []; first | done | rfl | exact ⟨rfl, rfl⟩) (by simp [noTable, packA, hb])

theorem has_spec {A : AH} {sf : AV} {files : List (List Nat)} {p4 p7 : Nat} {f4 f7 : Bool} (h4 : A.get p4 = some (.cells [sf] 23 f4)) (hs : Strs A sf files) (hn : files.length ≤ 1000000) (h7 : A.get p7 = some (.cells [.fn (.func 7) [] []] 25 f7)) (f : List Nat) :
    CallSpec Tryz.prog 13 [.str f, .ptr (some (p7, 0)), .ptr (some (p4, 0))] A (.bool (hasWord files f)) A := by
  have hc := list_spec hs hn f
  refine (CallSpecD.of_body fit Tryz.func13 rfl (N := 9) (by kernel_rfl) ?_).call
  repeat (first | refine dn_seq fit ?_ | refine dn_skip fit ?_ | refine dn_label fit ?_ | refine dn_inBlock fit ?_ | refine dn_block fit ?_)
  refine dn_rg fit RecOk.none' List.toList_toArray ?_
  repeat (first
    | refine th_still (wanted_none rfl) rfl (by simp (disch := first | omega | decide) [g9]; try rfl) ?_
    | (refine th_not (wanted_no rfl rfl ?_) ?_; focus (simp [g9]; done))
    | (refine th_not (wanted_off rfl rfl ?_) ?_; focus (simp [g9]; done))
    | (refine th_still (wanted_yes rfl rfl ?_) rfl (by simp (disch := first | omega | decide) [g9]; try rfl) ?_; focus (simp [g9]; done)))
  refine th_nil ?_
  repeat (first | refine dn_seq fit ?_ | refine dn_skip fit ?_ | refine dn_label fit ?_ | refine dn_inBlock fit ?_ | refine dn_block fit ?_)
  repeat (first | refine dn_seq fit ?_ | refine dn_skip fit ?_ | refine dn_label fit ?_ | refine dn_inBlock fit ?_ | refine dn_block fit ?_)
  refine dn_rg fit (RecOk.none'.add hc) List.toList_toArray ?_
  repeat (first
    | refine th_still (wanted_none rfl) rfl (by simp (disch := first | omega | decide) [h4, h7]; try rfl) ?_
    | (refine th_not (wanted_no rfl rfl ?_) ?_; focus (simp [h4, h7]; done))
    | (refine th_not (wanted_off rfl rfl ?_) ?_; focus (simp [h4, h7]; done))
    | (refine th_still (wanted_yes rfl rfl ?_) rfl (by simp (disch := first | omega | decide) [h4, h7]; try rfl) ?_; focus (simp [h4, h7]; done))
    | refine th_call (wanted_none rfl) rfl (by simp (disch := first | omega | decide) [h4, h7, Rec.add_same, Rec.add_other_f]; first | done | rfl | exact ⟨rfl, rfl⟩) ?_
    | (refine th_call (wanted_yes rfl rfl ?_) rfl (by simp (disch := first | omega | decide) [h4, h7, Rec.add_same, Rec.add_other_f]; first | done | rfl | exact ⟨rfl, rfl⟩) ?_; focus (simp [h4, h7]; done)))
  refine th_nil ?_
  repeat (first | refine dn_seq fit ?_ | refine dn_skip fit ?_ | refine dn_label fit ?_ | refine dn_inBlock fit ?_ | refine dn_block fit ?_)
  refine dn_ret fit ?_
  exact dn_out fit Tryz.func13 (rs := [.tmp 4]) rfl (by simp []; first | done | rfl | exact ⟨rfl, rfl⟩) rfl

end Go.Proofs.YtebjajchdidnfaaGreatDoor

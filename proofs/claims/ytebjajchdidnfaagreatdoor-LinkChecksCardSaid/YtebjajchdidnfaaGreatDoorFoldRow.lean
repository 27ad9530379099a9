/-
  A part of the road: an evaluator over abstract memory with a proved simulation, and what is reckoned by it. Written by an AI agent; no person has read it.
-/
import Derived.Test.YtebjajchdidnfaaGreatDoorFoldFind
set_option linter.all false
set_option linter.all false
namespace Go.Fold
open Go.Shelf Go.RowKit Go.Lib Go.Proofs
variable {P : Program} {ρ : Ren}

set_option maxHeartbeats 4000000 in
theorem bs_nil (F : Fit P) (L : Lays2.n26 P ρ) (u : List Nat) (A : AH) : CallSpec P (ρ.f 26) [.slice none 0 (some 0), .str u] A (.tup [.int .i64 0, .bool false]) A := by
  have u9 := L.t9; have u3 := L.t3; have u24 := L.t24; have u40 := L.t40
  refine (CallSpecD.of_body F L.f26 rfl (N := 54) (by kernel_rfl) ?_).call
  refine dn_seq F ?_
  repeat (first | refine dn_seq F ?_ | refine dn_skip F ?_ | refine dn_label F ?_ | refine dn_inBlock F ?_ | refine dn_block F ?_)
  refine dn_rg F RecOk.none' List.toList_toArray ?_
  repeat (first
    | refine th_still (wanted_none rfl) rfl (by simp (disch := first | omega | decide) [u9]; try rfl) ?_
    | (refine th_not (wanted_no rfl rfl ?_) ?_; focus (simp [u9]; done))
    | (refine th_not (wanted_off rfl rfl ?_) ?_; focus (simp [u9]; done))
    | (refine th_still (wanted_yes rfl rfl ?_) rfl (by simp (disch := first | omega | decide) [u9]; try rfl) ?_; focus (simp [u9]; done)))
  refine th_nil ?_
  refine dn_seq F ?_
  repeat (first | refine dn_seq F ?_ | refine dn_skip F ?_ | refine dn_label F ?_ | refine dn_inBlock F ?_ | refine dn_block F ?_)
  refine dn_rg F RecOk.none' List.toList_toArray ?_
  repeat (first
    | refine th_still (wanted_none rfl) rfl (by simp (disch := first | omega | decide) [u9, u24]; try rfl) ?_
    | (refine th_not (wanted_no rfl rfl ?_) ?_; focus (simp [u9, u24]; done))
    | (refine th_not (wanted_off rfl rfl ?_) ?_; focus (simp [u9, u24]; done))
    | (refine th_still (wanted_yes rfl rfl ?_) rfl (by simp (disch := first | omega | decide) [u9, u24]; try rfl) ?_; focus (simp [u9, u24]; done)))
  refine th_nil ?_
  refine dn_seq F ?_
  repeat (first | refine dn_seq F ?_ | refine dn_skip F ?_ | refine dn_label F ?_ | refine dn_inBlock F ?_ | refine dn_block F ?_)
  refine dn_rg F RecOk.none' List.toList_toArray ?_
  repeat (first
    | refine th_still (wanted_none rfl) rfl (by simp (disch := first | omega | decide) [u9, u24]; try rfl) ?_
    | (refine th_not (wanted_no rfl rfl ?_) ?_; focus (simp [u9, u24]; done))
    | (refine th_not (wanted_off rfl rfl ?_) ?_; focus (simp [u9, u24]; done))
    | (refine th_still (wanted_yes rfl rfl ?_) rfl (by simp (disch := first | omega | decide) [u9, u24]; try rfl) ?_; focus (simp [u9, u24]; done)))
  refine th_nil ?_
  refine dn_seq F ?_
  refine dn_block F ?_
  refine dn_loop F ?_
  refine dn_seq F ?_
  refine dn_seq F ?_
  repeat (first | refine dn_seq F ?_ | refine dn_skip F ?_ | refine dn_label F ?_ | refine dn_inBlock F ?_ | refine dn_block F ?_)
  refine dn_rg F RecOk.none' List.toList_toArray ?_
  repeat (first
    | refine th_still (wanted_none rfl) rfl (by simp (disch := first | omega | decide) [u3]; try rfl) ?_
    | (refine th_not (wanted_no rfl rfl ?_) ?_; focus (simp [u3]; done))
    | (refine th_not (wanted_off rfl rfl ?_) ?_; focus (simp [u3]; done))
    | (refine th_still (wanted_yes rfl rfl ?_) rfl (by simp (disch := first | omega | decide) [u3]; try rfl) ?_; focus (simp [u3]; done)))
  refine th_nil ?_
  refine dn_cond F (x := false) (by simp) ?_
  refine dn_exit F rfl ?_
  refine dn_seq F ?_
  repeat (first | refine dn_seq F ?_ | refine dn_skip F ?_ | refine dn_label F ?_ | refine dn_inBlock F ?_ | refine dn_block F ?_)
  refine dn_rg F RecOk.none' List.toList_toArray ?_
  repeat (first
    | refine th_still (wanted_none rfl) rfl (by simp (disch := first | omega | decide) [u3, u24]; try rfl) ?_
    | (refine th_not (wanted_no rfl rfl ?_) ?_; focus (simp [u3, u24]; done))
    | (refine th_not (wanted_off rfl rfl ?_) ?_; focus (simp [u3, u24]; done))
    | (refine th_still (wanted_yes rfl rfl ?_) rfl (by simp (disch := first | omega | decide) [u3, u24]; try rfl) ?_; focus (simp [u3, u24]; done)))
  refine th_nil ?_
  refine dn_ret F ?_
  exact dn_out F L.f26 (rs := [.tmp 4, .tmp 5]) rfl (by simp []; first | done | rfl | exact ⟨rfl, rfl⟩) rfl

/-! ### A row of memory that grows: nothing, or a block of its own -/

/-- what a slice that goes to the end of its memory holds -/
def Row (A : AH) (s : AV) (b : Nat) (e : TypeId) (cs : List AV) : Prop :=
  (cs = [] ∧ s = .slice none 0 (some 0)) ∨ (cs ≠ [] ∧ s = .slice (some (b, 0)) cs.length none ∧ A.get b = some (.cells cs e false))

theorem Row.keep {A A' : AH} {s : AV} {b : Nat} {e : TypeId} {cs : List AV} (h : Row A s b e cs) (hk : A'.get b = A.get b) : Row A' s b e cs := by
  rcases h with h | ⟨h1, h2, h3⟩
  · exact .inl h
  · exact .inr ⟨h1, h2, by rw [hk]; exact h3⟩

theorem Row.keep' {A A' : AH} {s : AV} {b : Nat} {e : TypeId} {cs : List AV} (h : Row A s b e cs) (hk : cs ≠ [] → A'.get b = A.get b) : Row A' s b e cs := by
  rcases h with h | ⟨h1, h2, h3⟩
  · exact .inl h
  · exact .inr ⟨h1, h2, by rw [hk h1]; exact h3⟩

theorem ins_spec {d : TypeDesc} {zv : Value} {by_ : Nat} (L : InsL P ρ d zv by_) {A : AH} {s : AV} {b i b2 : Nat} {cs : List AV} {x : AV} (hrow : Row A s b (ρ.t 9) cs) (hi : i ≤ cs.length) (h2 : A.get b2 = some (.cells [x] (ρ.t 9) false)) (hb : cs ≠ [] → b ≠ b2 ∧ b < A.next)
    (h1 : allOne cs = true) (h1x : x.oneCell = true) (hbig : (cs.length + 1) * by_ ≤ 140737488355328) (hbig2 : cs.length + 1 ≤ 140737488355328) :
    ∃ A', CallSpec P (ρ.f 22) [s, .int .i64 (i : Int), .slice (some (b2, 0)) 1 (some 1)] A (.slice (some (A.next, 0)) (cs.length + 1) none) A' ∧ A'.get A.next = some (.cells (cs.take i ++ x :: cs.drop i) (ρ.t 9) false) ∧ A'.next = A.next + 1 ∧
      ∀ c, c < A.next → (cs ≠ [] → c ≠ b) → A'.get c = A.get c := by
  rcases hrow with ⟨rfl, rfl⟩ | ⟨hne, rfl, hg⟩
  · obtain rfl : i = 0 := by simpa using hi
    refine ⟨A.new (.cells [x] (ρ.t 9) false), insertH_ok L ?_, by simp, rfl, fun c hc _ => AH.get_new_other _ _ _ (by omega)⟩
    simp only [List.length_nil] at hbig hbig2
    have hii : (Int.ofNat 0) = ((0 : Nat) : Int) := rfl
    rw [← hii]
    have b1 := Nat.ble_eq_true_of_le hbig
    have b2 := Nat.ble_eq_true_of_le hbig2
    simp only [insertH, h2, List.length_nil, List.getElem?_cons_zero, h1x, nbeq_true rfl, b1, b2, Nat.ble_eq_true_of_le (Nat.le_refl 0), Bool.and_self, cond_true]
  · refine ⟨(A.put b .dead).new (.cells (cs.take i ++ x :: cs.drop i) (ρ.t 9) false), insertH_ok L ?_, AH.get_new_same _ _, rfl, fun c hc hcb => ?_⟩
    · have hsub : sub cs 0 cs.length = some cs := by simp [sub]
      have hbb : b.beq b2 = false := nbeq_false (hb hne).1
      have hii : (Int.ofNat i) = (i : Int) := rfl
      rw [← hii]
      simp only [insertH, h2, hg, hsub, List.getElem?_cons_zero, h1x, h1, nbeq_true rfl, hbb, Nat.ble_eq_true_of_le hbig, Nat.ble_eq_true_of_le hbig2, Nat.ble_eq_true_of_le hi, Bool.and_self, Bool.not_false, cond_true]
    · have hcb := hcb hne
      rw [AH.get_new_other _ _ _ (by rw [AH.next_put]; omega), AH.get_put_other _ _ _ _ hcb]

end Go.Fold

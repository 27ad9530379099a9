/-
  A part of the road: an evaluator over abstract memory with a proved simulation, and what is reckoned by it. Written by an AI agent; no person has read it.
-/
import Derived.Test.YtebjajchdidnfaaGreatDoorFoldFind
set_option linter.all false
set_option linter.all false
namespace Go.Fold
open Go.Lib

theorem bytesLt_irrefl : ∀ a : List Nat, bytesLt a a = false
  | [] => by simp [bytesLt]
  | x :: l => by simp [bytesLt, bytesLt_irrefl l]

theorem bytesEq_true : ∀ {a b : List Nat}, bytesEq a b = true → a = b
  | [], [], _ => rfl
  | [], _ :: _, h => by simp [bytesEq] at h
  | _ :: _, [], h => by simp [bytesEq] at h
  | x :: a, y :: b, h => by
    simp only [bytesEq] at h
    by_cases hxy : x = y
    · rw [nbeq_true hxy, cond_true] at h
      rw [hxy, bytesEq_true h]
    · rw [nbeq_false hxy] at h; cases h

theorem bytesLt_cons (x y : Nat) (a b : List Nat) : bytesLt (x :: a) (y :: b) = true ↔ x < y ∨ (x = y ∧ bytesLt a b = true) := by
  simp only [bytesLt]
  by_cases h : x < y
  · simp [nblt_true h, h]
  · rw [nblt_false h, cond_false]
    by_cases h2 : x = y
    · simp [nbeq_true h2, h2]
    · simp [nbeq_false h2, h, h2]

theorem bytesLt_trans : ∀ {a b c : List Nat}, bytesLt a b = true → bytesLt b c = true → bytesLt a c = true
  | _, _, [], _, h => by simp [bytesLt] at h
  | [], _, _ :: _, _, _ => by simp [bytesLt]
  | _ :: _, [], _, h, _ => by simp [bytesLt] at h
  | x :: a, y :: b, z :: c, h, k => by
    rw [bytesLt_cons] at h k ⊢
    rcases h with h | ⟨rfl, h⟩
    · rcases k with k | ⟨rfl, k⟩
      · exact .inl (by omega)
      · exact .inl h
    · rcases k with k | ⟨rfl, k⟩
      · exact .inl k
      · exact .inr ⟨rfl, bytesLt_trans h k⟩

theorem bytesLt_total : ∀ (a b : List Nat), bytesLt a b = true ∨ a = b ∨ bytesLt b a = true
  | [], [] => .inr (.inl rfl)
  | [], _ :: _ => .inl (by simp [bytesLt])
  | _ :: _, [] => .inr (.inr (by simp [bytesLt]))
  | x :: a, y :: b => by
    rw [bytesLt_cons, bytesLt_cons]
    rcases Nat.lt_trichotomy x y with h | h | h
    · exact .inl (.inl h)
    · subst h
      rcases bytesLt_total a b with h | h | h
      · exact .inl (.inr ⟨rfl, h⟩)
      · subst h; exact .inr (.inl rfl)
      · exact .inr (.inr (.inr ⟨rfl, h⟩))
    · exact .inr (.inr (.inl h))

/-- in order, each once -/
def Asc (ks : List (List Nat)) : Prop := ks.Pairwise fun a b => bytesLt a b = true

theorem Asc.parts (u : List Nat) : ∀ {ks : List (List Nat)}, Asc ks → ∃ a b, ks = a ++ b ∧ (∀ x ∈ a, bytesLt x u = true) ∧ ∀ x ∈ b, bytesLt x u = false
  | [], _ => ⟨[], [], rfl, by simp, by simp⟩
  | k :: ks, h => by
    rw [Asc, List.pairwise_cons] at h
    cases hk : bytesLt k u with
    | true =>
      obtain ⟨a, b, rfl, ha, hb⟩ := Asc.parts u h.2
      exact ⟨k :: a, b, rfl, by simpa [hk] using ha, hb⟩
    | false =>
      refine ⟨[], k :: ks, rfl, by simp, fun x hx => ?_⟩
      rcases List.mem_cons.1 hx with rfl | hx
      · exact hk
      · cases hxu : bytesLt x u with
        | false => rfl
        | true => rw [bytesLt_trans (h.1 x hx) hxu] at hk; cases hk

def hasWord (ks : List (List Nat)) (u : List Nat) : Bool := ks.any fun x => bytesEq x u

theorem bs_parts {a b : List (List Nat)} {u : List Nat} (ha : ∀ x ∈ a, bytesLt x u = true) (hb : ∀ x ∈ b, bytesLt x u = false) :
    bsGo (fun j => bytesLt ((a ++ b).getD j []) u) (a ++ b).length 0 (a ++ b).length = a.length := by
  have h1 : bsGo (fun j => bytesLt ((a ++ b).getD j []) u) (a ++ b).length 0 (a ++ b).length = bsGo (fun j => decide (j < a.length)) (a ++ b).length 0 (a ++ b).length := by
    refine bsGo_congr (n := (a ++ b).length) (fun j hj => ?_) _ _ _ (Nat.le_refl _)
    by_cases hja : j < a.length
    · rw [decide_eq_true hja]
      have : (a ++ b).getD j [] = a[j] := by simp [List.getD, List.getElem?_append_left hja, List.getElem?_eq_getElem hja]
      rw [this]; exact ha _ (List.getElem_mem hja)
    · rw [decide_eq_false hja]
      have hjb : j - a.length < b.length := by simp at hj; omega
      have : (a ++ b).getD j [] = b[j - a.length] := by simp [List.getD, List.getElem?_append_right (Nat.not_lt.1 hja), List.getElem?_eq_getElem hjb]
      rw [this]; exact hb _ (List.getElem_mem hjb)
  rw [h1]
  exact bsGo_spec _ a.length (fun t ht => by simp [ht]) (fun t ht => by simp; omega) _ 0 _ (by omega) (Nat.zero_le _) (by simp)

theorem Asc.insert {a b : List (List Nat)} {u : List Nat} (h : Asc (a ++ b)) (ha : ∀ x ∈ a, bytesLt x u = true) (hb : ∀ x ∈ b, bytesLt x u = false) (hn : u ∉ b) : Asc (a ++ u :: b) := by
  rw [Asc, List.pairwise_append] at h ⊢
  refine ⟨h.1, ?_, fun x hx y hy => ?_⟩
  · rw [List.pairwise_cons]
    refine ⟨fun y hy => ?_, h.2.1⟩
    rcases bytesLt_total u y with k | k | k
    · exact k
    · subst k; exact absurd hy hn
    · rw [hb y hy] at k; cases k
  · rcases List.mem_cons.1 hy with rfl | hy
    · exact ha x hx
    · exact h.2.2 x hx y hy

theorem hasWord_parts {a b : List (List Nat)} {u : List Nat} (h : Asc (a ++ b)) (ha : ∀ x ∈ a, bytesLt x u = true) (hb : ∀ x ∈ b, bytesLt x u = false) :
    hasWord (a ++ b) u = (if a.length < (a ++ b).length then bytesEq ((a ++ b).getD a.length []) u else false) := by
  have hna : a.any (fun x => bytesEq x u) = false := by
    rw [List.any_eq_false]
    intro x hx he
    have := bytesEq_true he
    subst this
    have := ha _ hx
    rw [bytesLt_irrefl] at this; cases this
  unfold hasWord
  rw [List.any_append, hna, Bool.false_or]
  cases b with
  | nil => simp
  | cons y r =>
    rw [if_pos (by simp)]
    have : (a ++ y :: r).getD a.length [] = y := by simp [List.getD]
    rw [this, List.any_cons]
    cases hy : bytesEq y u with
    | true => rfl
    | false =>
      rw [Bool.false_or, List.any_eq_false]
      intro z hz he
      have := bytesEq_true he
      subst this
      have h2 := (List.pairwise_append.1 h).2.1
      rw [List.pairwise_cons] at h2
      have := h2.1 _ hz
      rw [hb y (List.mem_cons_self ..)] at this; cases this

end Go.Fold

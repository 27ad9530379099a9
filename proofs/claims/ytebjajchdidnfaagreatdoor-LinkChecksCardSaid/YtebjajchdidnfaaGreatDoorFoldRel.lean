/-
  A part of the road: an evaluator over abstract memory with a proved simulation, and what is reckoned by it. Written by an AI agent; no person has read it.
-/
import Derived.Test.YtebjajchdidnfaaGreatDoorFoldSem
import Derived.Calls
import Derived.AtR
import Derived.RangeFuncIn
import Derived.Laws.Sem
set_option linter.all false
namespace Go.Fold

/-! ### The trie -/
theorem nbeq_false {a b : Nat} (h : a ≠ b) : a.beq b = false := by
  cases hb : a.beq b
  · rfl
  · exact absurd (Nat.eq_of_beq_eq_true hb) h
theorem nbeq_true {a b : Nat} (h : a = b) : a.beq b = true := by subst h; exact Nat.beq_refl a
theorem nblt_false {a b : Nat} (h : ¬ a < b) : Nat.blt a b = false := by
  cases hb : Nat.blt a b
  · rfl
  · exact absurd (by simpa [Nat.blt_eq] using hb) h
theorem nblt_true {a b : Nat} (h : a < b) : Nat.blt a b = true := by simpa [Nat.blt_eq] using h
theorem of_nblt {a b : Nat} (h : Nat.blt a b = true) : a < b := by simpa [Nat.blt_eq] using h
theorem of_nble {a b : Nat} (h : Nat.ble a b = true) : a ≤ b := Nat.le_of_ble_eq_true h
namespace T
variable {α : Type}

theorem get_nil (n : Nat) : (T.nil : T α).get n = none := rfl

theorem set_get_same : ∀ (f : Nat) (t : T α) (n : Nat) (x : α), n < f → (set f t n x).get n = some x
  | 0, _, n, _, h => absurd h (Nat.not_lt_zero n)
  | f + 1, .nil, n, x, h => by
    unfold set
    by_cases h0 : n = 0
    · subst h0; simp [get]
    · have hb : n.beq 0 = false := nbeq_false h0
      by_cases h1 : n % 2 = 1
      · have hb1 : (n % 2).beq 1 = true := nbeq_true h1
        simp only [hb, hb1, cond_false, cond_true, get]
        exact set_get_same f .nil (n / 2) x (by omega)
      · have hb1 : (n % 2).beq 1 = false := nbeq_false h1
        simp only [hb, hb1, cond_false, get]
        exact set_get_same f .nil (n / 2 - 1) x (by omega)
  | f + 1, .node v l r, n, x, h => by
    unfold set
    by_cases h0 : n = 0
    · subst h0; simp [get]
    · have hb : n.beq 0 = false := nbeq_false h0
      by_cases h1 : n % 2 = 1
      · have hb1 : (n % 2).beq 1 = true := nbeq_true h1
        simp only [hb, hb1, cond_false, cond_true, get]
        exact set_get_same f l (n / 2) x (by omega)
      · have hb1 : (n % 2).beq 1 = false := nbeq_false h1
        simp only [hb, hb1, cond_false, get]
        exact set_get_same f r (n / 2 - 1) x (by omega)

theorem set_get_other : ∀ (f : Nat) (t : T α) (n m : Nat) (x : α), m ≠ n → (set f t n x).get m = t.get m
  | 0, _, _, _, _, _ => by simp [set]
  | f + 1, .nil, n, m, x, h => by
    unfold set
    by_cases h0 : n = 0
    · subst h0
      have hm : m.beq 0 = false := nbeq_false h
      simp [get, hm]
    · have hb : n.beq 0 = false := nbeq_false h0
      by_cases h1 : n % 2 = 1
      · have hb1 : (n % 2).beq 1 = true := nbeq_true h1
        simp only [hb, hb1, cond_false, cond_true, get]
        by_cases hm0 : m = 0
        · subst hm0; simp
        · have hmb : m.beq 0 = false := nbeq_false hm0
          by_cases hm1 : m % 2 = 1
          · have hmb1 : (m % 2).beq 1 = true := nbeq_true hm1
            simp only [hmb, hmb1, cond_false, cond_true]
            rw [set_get_other f .nil (n / 2) (m / 2) x (by omega)]; rfl
          · have hmb1 : (m % 2).beq 1 = false := nbeq_false hm1
            simp [hmb, hmb1]
      · have hb1 : (n % 2).beq 1 = false := nbeq_false h1
        simp only [hb, hb1, cond_false, get]
        by_cases hm0 : m = 0
        · subst hm0; simp
        · have hmb : m.beq 0 = false := nbeq_false hm0
          by_cases hm1 : m % 2 = 1
          · have hmb1 : (m % 2).beq 1 = true := nbeq_true hm1
            simp [hmb, hmb1]
          · have hmb1 : (m % 2).beq 1 = false := nbeq_false hm1
            simp only [hmb, hmb1, cond_false]
            rw [set_get_other f .nil (n / 2 - 1) (m / 2 - 1) x (by omega)]; rfl
  | f + 1, .node v l r, n, m, x, h => by
    unfold set
    by_cases h0 : n = 0
    · subst h0
      have hm : m.beq 0 = false := nbeq_false h
      simp [get, hm]
    · have hb : n.beq 0 = false := nbeq_false h0
      by_cases h1 : n % 2 = 1
      · have hb1 : (n % 2).beq 1 = true := nbeq_true h1
        simp only [hb, hb1, cond_false, cond_true, get]
        by_cases hm0 : m = 0
        · subst hm0; simp
        · have hmb : m.beq 0 = false := nbeq_false hm0
          by_cases hm1 : m % 2 = 1
          · have hmb1 : (m % 2).beq 1 = true := nbeq_true hm1
            simp only [hmb, hmb1, cond_false, cond_true]
            rw [set_get_other f l (n / 2) (m / 2) x (by omega)]
          · have hmb1 : (m % 2).beq 1 = false := nbeq_false hm1
            simp [hmb, hmb1]
      · have hb1 : (n % 2).beq 1 = false := nbeq_false h1
        simp only [hb, hb1, cond_false, get]
        by_cases hm0 : m = 0
        · subst hm0; simp
        · have hmb : m.beq 0 = false := nbeq_false hm0
          by_cases hm1 : m % 2 = 1
          · have hmb1 : (m % 2).beq 1 = true := nbeq_true hm1
            simp [hmb, hmb1]
          · have hmb1 : (m % 2).beq 1 = false := nbeq_false hm1
            simp only [hmb, hmb1, cond_false]
            rw [set_get_other f r (n / 2 - 1) (m / 2 - 1) x (by omega)]

theorem get_put_same (t : T α) (n : Nat) (x : α) : (t.put n x).get n = some x := set_get_same _ _ _ _ (by omega)
theorem get_put_other (t : T α) (n m : Nat) (x : α) (h : m ≠ n) : (t.put n x).get m = t.get m := set_get_other _ _ _ _ _ h
end T

theorem AH.get_put_same (A : AH) (b : Nat) (x : AB) : (A.put b x).get b = some x := T.get_put_same _ _ _
theorem AH.get_put_other (A : AH) (b c : Nat) (x : AB) (h : c ≠ b) : (A.put b x).get c = A.get c := T.get_put_other _ _ _ _ h
theorem AH.get_new_same (A : AH) (x : AB) : (A.new x).get A.next = some x := T.get_put_same _ _ _
theorem AH.get_new_other (A : AH) (c : Nat) (x : AB) (h : c ≠ A.next) : (A.new x).get c = A.get c := T.get_put_other _ _ _ _ h
theorem AH.next_put (A : AH) (b : Nat) (x : AB) : (A.put b x).next = A.next := rfl
theorem AH.next_new (A : AH) (x : AB) : (A.new x).next = A.next + 1 := rfl

/-! ### How a value of the evaluator stands to one of the model -/

/-- where an abstract block lies: the block, how many cells lie ahead, how many cells there are, the size of an element -/
structure Img where
  blk : Nat
  sh : Nat
  tot : Nat
  sz : Nat

abbrev Map := Nat → Option Img

def Map.le (m m' : Map) : Prop := ∀ b x, m b = some x → m' b = some x
theorem Map.le.refl (m : Map) : m.le m := fun _ _ h => h
theorem Map.le.trans {m m' m'' : Map} (h : m.le m') (h' : m'.le m'') : m.le m'' := fun b x hb => h' b x (h b x hb)

def bytes (b : ByteArray) : List Nat := b.data.toList.map (·.toNat)

def FR (m : Map) (f : Fn) (g : Fn) : Prop :=
  match f with
  | .func n => g = .func n
  | .yield l => ∃ x, m l = some x ∧ g = .yield x.blk
  | _ => False

def PR (m : Map) (a : Nat × Nat) (p : Addr) : Prop := ∃ x, m a.1 = some x ∧ p = ⟨x.blk, x.sh + a.2, none⟩

mutual
def VR (m : Map) : AV → Value → Prop
  | .bool b, v => v = .bool b
  | .int k n, v => v = .int k n
  | .str s, v => ∃ b, v = .string b ∧ bytes b = s
  | .ptr none, v => v = .pointer none
  | .ptr (some a), v => ∃ p, PR m a p ∧ v = .pointer (some p)
  | .slice none n c, v => ∃ k, c = some k ∧ v = .slice none n k ∧ n ≤ k
  | .slice (some a) n (some c), v => ∃ p, v = .slice (some p) n c ∧ n ≤ c ∧ (c = 0 ∨ PR m a p)
  | .slice (some a) n none, v => ∃ x c p, m a.1 = some x ∧ v = .slice (some p) n c ∧ x.sh + a.2 + c * x.sz = x.tot ∧ n ≤ c ∧ (c = 0 ∨ p = ⟨x.blk, x.sh + a.2, none⟩)
  | .mapv none, v => v = .map none
  | .mapv (some r), v => ∃ x, m r = some x ∧ v = .map (some x.blk)
  | .fn f a b, v => ∃ f' a' b', v = .func f' a' b' ∧ FR m f f' ∧ LR m a a'.toList ∧ LR m b b'.toList
  | .nilFn, v => v = .nilFunc
  | .nilIface, v => v = .nilIface
  | .agg cs, v => ∃ a : Array Value, v = .agg a ∧ LR m cs a.toList
  | .tup cs, v => ∃ a : Array Value, v = .tuple a ∧ LR m cs a.toList
def LR (m : Map) : List AV → List Value → Prop
  | [], vs => vs = []
  | c :: cs, vs => ∃ v vs', vs = v :: vs' ∧ VR m c v ∧ LR m cs vs'
end

theorem FR.mono {m m' : Map} (h : m.le m') {f g : Fn} (hf : FR m f g) : FR m' f g := by
  cases f <;> simp only [FR] at hf ⊢
  · exact hf
  · obtain ⟨x, hx, he⟩ := hf; exact ⟨x, h _ _ hx, he⟩

theorem PR.mono {m m' : Map} (h : m.le m') {a : Nat × Nat} {p : Addr} (hp : PR m a p) : PR m' a p := by
  obtain ⟨x, hx, he⟩ := hp; exact ⟨x, h _ _ hx, he⟩

mutual
theorem VR.mono {m m' : Map} (h : m.le m') : ∀ {a : AV} {v : Value}, VR m a v → VR m' a v
  | .bool _, _, hv => by simpa only [VR] using hv
  | .int _ _, _, hv => by simpa only [VR] using hv
  | .str _, _, hv => by simpa only [VR] using hv
  | .ptr none, _, hv => by simpa only [VR] using hv
  | .ptr (some a), _, hv => by
    simp only [VR] at hv ⊢; obtain ⟨p, hp, he⟩ := hv; exact ⟨p, hp.mono h, he⟩
  | .slice none _ _, _, hv => by simpa only [VR] using hv
  | .slice (some a) _ (some _), _, hv => by
    simp only [VR] at hv ⊢; obtain ⟨p, he, hn, hp⟩ := hv; exact ⟨p, he, hn, hp.imp id (·.mono h)⟩
  | .slice (some a) _ none, _, hv => by
    simp only [VR] at hv ⊢; obtain ⟨x, c, p, hx, r⟩ := hv; exact ⟨x, c, p, h _ _ hx, r⟩
  | .mapv none, _, hv => by simpa only [VR] using hv
  | .mapv (some r), _, hv => by
    simp only [VR] at hv ⊢; obtain ⟨x, hx, he⟩ := hv; exact ⟨x, h _ _ hx, he⟩
  | .fn f a b, _, hv => by
    simp only [VR] at hv ⊢; obtain ⟨f', a', b', he, hf, ha, hb⟩ := hv
    exact ⟨f', a', b', he, hf.mono h, LR.mono h ha, LR.mono h hb⟩
  | .nilFn, _, hv => by simpa only [VR] using hv
  | .nilIface, _, hv => by simpa only [VR] using hv
  | .agg cs, _, hv => by
    simp only [VR] at hv ⊢; obtain ⟨a, he, ha⟩ := hv; exact ⟨a, he, LR.mono h ha⟩
  | .tup cs, _, hv => by
    simp only [VR] at hv ⊢; obtain ⟨a, he, ha⟩ := hv; exact ⟨a, he, LR.mono h ha⟩
theorem LR.mono {m m' : Map} (h : m.le m') : ∀ {a : List AV} {v : List Value}, LR m a v → LR m' a v
  | [], _, hv => by simpa only [LR] using hv
  | c :: cs, _, hv => by
    simp only [LR] at hv ⊢; obtain ⟨v, vs, he, hc, hs⟩ := hv
    exact ⟨v, vs, he, VR.mono h hc, LR.mono h hs⟩
end

theorem LR.nil {m : Map} : LR m [] [] := by simp [LR]
theorem LR.cons {m : Map} {c : AV} {cs : List AV} {v : Value} {vs : List Value} (h : VR m c v) (hs : LR m cs vs) : LR m (c :: cs) (v :: vs) := by
  simp only [LR]; exact ⟨v, vs, rfl, h, hs⟩
theorem LR.cons_inv {m : Map} {c : AV} {cs : List AV} {v : Value} {vs : List Value} (h : LR m (c :: cs) (v :: vs)) : VR m c v ∧ LR m cs vs := by
  simp only [LR] at h
  obtain ⟨v', vs', he, h1, h2⟩ := h
  cases he
  exact ⟨h1, h2⟩
theorem LR.length {m : Map} : ∀ {a : List AV} {v : List Value}, LR m a v → v.length = a.length
  | [], _, h => by simp only [LR] at h; simp [h]
  | _ :: _, _, h => by
    simp only [LR] at h
    obtain ⟨v', vs', he, _, h2⟩ := h
    simp [he, LR.length h2]
theorem LR.append {m : Map} : ∀ {a b : List AV} {v w : List Value}, LR m a v → LR m b w → LR m (a ++ b) (v ++ w)
  | [], _, _, _, h, hb => by simp only [LR] at h; simpa [h] using hb
  | _ :: _, _, _, _, h, hb => by
    simp only [LR] at h
    obtain ⟨v', vs', he, h1, h2⟩ := h
    subst he
    exact LR.cons h1 (LR.append h2 hb)
theorem LR.take {m : Map} : ∀ (n : Nat) {a : List AV} {v : List Value}, LR m a v → LR m (a.take n) (v.take n)
  | 0, _, _, _ => by simp [LR]
  | _ + 1, [], _, h => by simp only [LR] at h; simp [h, LR]
  | n + 1, _ :: _, _, h => by
    simp only [LR] at h
    obtain ⟨v', vs', he, h1, h2⟩ := h
    subst he
    exact LR.cons h1 (LR.take n h2)
theorem LR.drop {m : Map} : ∀ (n : Nat) {a : List AV} {v : List Value}, LR m a v → LR m (a.drop n) (v.drop n)
  | 0, _, _, h => by simpa using h
  | _ + 1, [], _, h => by simp only [LR] at h; simp [h, LR]
  | n + 1, _ :: _, _, h => by
    simp only [LR] at h
    obtain ⟨v', vs', he, h1, h2⟩ := h
    subst he
    exact LR.drop n h2
theorem LR.get? {m : Map} : ∀ {a : List AV} {v : List Value}, LR m a v → ∀ (i : Nat) (x : AV), a[i]? = some x → ∃ y, v[i]? = some y ∧ VR m x y
  | [], _, _, i, x, hx => by simp at hx
  | _ :: _, _, h, i, x, hx => by
    simp only [LR] at h
    obtain ⟨v', vs', he, h1, h2⟩ := h
    subst he
    cases i with
    | zero => simp at hx; subst hx; exact ⟨v', by simp, h1⟩
    | succ i => simp at hx; simpa using LR.get? h2 i x hx
theorem LR.of_get {m : Map} : ∀ {a : List AV} {v : List Value}, v.length = a.length → (∀ (i : Nat) x y, a[i]? = some x → v[i]? = some y → VR m x y) → LR m a v
  | [], v, hl, _ => by
    have : v = [] := List.length_eq_zero_iff.1 (by simpa using hl)
    simp [LR, this]
  | c :: cs, [], hl, _ => by simp at hl
  | c :: cs, w :: ws, hl, h => LR.cons (h 0 c w (by simp) (by simp)) (LR.of_get (by simpa using hl) fun i x y hx hy => h (i + 1) x y (by simpa using hx) (by simpa using hy))

theorem VR.undef {m : Map} : VR m .undef Go.undef := by
  simp only [AV.undef, VR, Go.undef]
  exact ⟨#[], rfl, by simp [LR]⟩

mutual
theorem ofValue_rel {m : Map} : ∀ {v : Value} {a : AV}, ofValue v = some a → VR m a v
  | .bool b, a, h => by simp only [ofValue, Option.some.injEq] at h; subst h; simp [VR]
  | .int k n, a, h => by simp only [ofValue, Option.some.injEq] at h; subst h; simp [VR]
  | .string s, a, h => by simp only [ofValue, Option.some.injEq] at h; subst h; simp [VR, bytes]
  | .pointer none, a, h => by simp only [ofValue, Option.some.injEq] at h; subst h; simp [VR]
  | .pointer (some _), a, h => by simp [ofValue] at h
  | .slice none 0 0, a, h => by simp only [ofValue, Option.some.injEq] at h; subst h; simp [VR]
  | .slice none 0 (_ + 1), a, h => by simp [ofValue] at h
  | .slice none (_ + 1) _, a, h => by simp [ofValue] at h
  | .slice (some _) _ _, a, h => by simp [ofValue] at h
  | .map none, a, h => by simp only [ofValue, Option.some.injEq] at h; subst h; simp [VR]
  | .map (some _), a, h => by simp [ofValue] at h
  | .func (.func f) ⟨x⟩ ⟨y⟩, a, h => by
    simp only [ofValue] at h
    split at h
    · rename_i a' b' hx hy
      simp only [Option.some.injEq] at h; subst h
      simp only [VR]
      exact ⟨.func f, ⟨x⟩, ⟨y⟩, rfl, rfl, ofValues_rel hx, ofValues_rel hy⟩
    · simp at h
  | .func (.method _) _ _, a, h => by simp [ofValue] at h
  | .func (.methodOf _ _) _ _, a, h => by simp [ofValue] at h
  | .func (.via _ _ _ _) _ _, a, h => by simp [ofValue] at h
  | .func (.yield _) _ _, a, h => by simp [ofValue] at h
  | .nilFunc, a, h => by simp only [ofValue, Option.some.injEq] at h; subst h; simp [VR]
  | .nilIface, a, h => by simp only [ofValue, Option.some.injEq] at h; subst h; simp [VR]
  | .agg ⟨cs⟩, a, h => by
    simp only [ofValue] at h
    split at h
    · rename_i cs' hx
      simp only [Option.some.injEq] at h; subst h
      simp only [VR]
      exact ⟨⟨cs⟩, rfl, ofValues_rel hx⟩
    · simp at h
  | .tuple ⟨cs⟩, a, h => by
    simp only [ofValue] at h
    split at h
    · rename_i cs' hx
      simp only [Option.some.injEq] at h; subst h
      simp only [VR]
      exact ⟨⟨cs⟩, rfl, ofValues_rel hx⟩
    · simp at h
  | .float _ _, a, h => by simp [ofValue] at h
  | .complex _ _ _, a, h => by simp [ofValue] at h
  | .chan _, a, h => by simp [ofValue] at h
  | .iface _ _, a, h => by simp [ofValue] at h
theorem ofValues_rel {m : Map} : ∀ {v : List Value} {a : List AV}, ofValues v = some a → LR m a v
  | [], a, h => by simp only [ofValues, Option.some.injEq] at h; subst h; simp [LR]
  | v :: vs, a, h => by
    simp only [ofValues] at h
    split at h
    · rename_i a' b' hx hy
      simp only [Option.some.injEq] at h; subst h
      exact LR.cons (ofValue_rel hx) (ofValues_rel hy)
    · simp at h
end

/-! ### Temporaries -/

structure TR (m : Map) (t : AT) (a : Array Value) : Prop where
  size : a.size = t.n
  at_ : ∀ i, VR m (t.get i) (a.getD i Go.undef)

theorem TR.mono {m m' : Map} (h : m.le m') {t : AT} {a : Array Value} (ht : TR m t a) : TR m' t a := ⟨ht.size, fun i => (ht.at_ i).mono h⟩

theorem AT.get_put (t : AT) (i j : Nat) (v : AV) : (t.put i v).get j = if j = i ∧ i < t.n then v else t.get j := by
  unfold AT.put AT.get
  by_cases hi : i < t.n
  · have : Nat.blt i t.n = true := by simpa [Nat.blt_eq] using hi
    simp only [this, cond_true]
    by_cases hj : j = i
    · subst hj; simp [T.get_put_same, hi]
    · simp [T.get_put_other _ _ _ _ hj, hj]
  · have : Nat.blt i t.n = false := by
      cases hb : Nat.blt i t.n
      · rfl
      · exact absurd (by simpa [Nat.blt_eq] using hb) hi
    simp [this, hi]

theorem AT.n_put (t : AT) (i : Nat) (v : AV) : (t.put i v).n = t.n := by
  unfold AT.put; cases Nat.blt i t.n <;> rfl

theorem TR.put {m : Map} {t : AT} {a : Array Value} (h : TR m t a) (i : Nat) {v : AV} {u : Value} (hv : VR m v u) : TR m (t.put i v) (a.setIfInBounds i u) := by
  refine ⟨by simp [h.size, AT.n_put], fun j => ?_⟩
  rw [AT.get_put]
  by_cases hj : j = i ∧ i < t.n
  · obtain ⟨rfl, hlt⟩ := hj
    rw [if_pos ⟨rfl, hlt⟩]
    have : j < a.size := by rw [h.size]; exact hlt
    simpa [Array.getD, this] using hv
  · rw [if_neg hj]
    have := h.at_ j
    by_cases hji : j = i
    · subst hji
      have hn : ¬ j < t.n := fun hlt => hj ⟨rfl, hlt⟩
      have hs : ¬ j < a.size := by rw [h.size]; exact hn
      simpa [Array.getD, hs] using this
    · simpa [Array.getD_eq_getD_getElem?, Array.getElem?_setIfInBounds_ne (Ne.symm hji)] using this

theorem TR.putA {m : Map} {t : AT} {a : Act} (h : TR m t a.tmps) (dst : Option Tmp) {v : AV} {u : Value} (hv : VR m v u) : TR m (putA t dst v) (a.put dst u).tmps := by
  cases dst with
  | none => exact h
  | some d => exact h.put d hv

/-- the globals stand where they stand -/
def Glob (P : Program) (m : Map) : Prop := ∀ g, g < P.globals.size → ∃ x, m g = some x ∧ x.blk = g ∧ x.sh = 0

theorem Glob.mono {P : Program} {m m' : Map} (h : m.le m') (hg : Glob P m) : Glob P m' := fun g hlt => by
  obtain ⟨x, hx, r⟩ := hg g hlt; exact ⟨x, h _ _ hx, r⟩

theorem evalO_rel {P : Program} {m : Map} {t : AT} {a : Act} (hg : Glob P m) (ht : TR m t a.tmps) {x : Operand} {v : AV} (h : evalO P t x = some v) : VR m v (a.eval x) := by
  cases x with
  | tmp i => simp only [evalO, Option.some.injEq] at h; subst h; exact ht.at_ i
  | const c => exact ofValue_rel h
  | global g =>
    simp only [evalO] at h
    cases hb : Nat.blt g P.globals.size with
    | false => simp [hb] at h
    | true =>
      simp only [hb, cond_true, Option.some.injEq] at h; subst h
      obtain ⟨x, hx, h1, h2⟩ := hg g (by simpa [Nat.blt_eq] using hb)
      simp only [VR, Act.eval]
      exact ⟨⟨g, 0, none⟩, ⟨x, hx, by simp [h1, h2]⟩, rfl⟩
  | func f =>
    simp only [evalO, Option.some.injEq] at h; subst h
    simp only [VR, Act.eval]
    exact ⟨.func f, #[], #[], rfl, rfl, by simp [LR], by simp [LR]⟩

theorem evalOs_rel {P : Program} {m : Map} {t : AT} {a : Act} (hg : Glob P m) (ht : TR m t a.tmps) : ∀ {xs : List Operand} {vs : List AV}, evalOs P t xs = some vs → LR m vs (xs.map a.eval)
  | [], vs, h => by simp only [evalOs, Option.some.injEq] at h; subst h; simp [LR]
  | x :: xs, vs, h => by
    simp only [evalOs] at h
    split at h
    · rename_i v hv
      split at h
      · rename_i us hus
        simp only [Option.some.injEq] at h; subst h
        exact LR.cons (evalO_rel hg ht hv) (evalOs_rel hg ht hus)
      · simp at h
    · simp at h

end Go.Fold

/-
  A part of the road: an evaluator over abstract memory with a proved simulation, and what is reckoned by it. Written by an AI agent; no person has read it.
-/
import Derived.Test.YtebjajchdidnfaaGreatDoorFoldSymX
import Derived.Shelf.Spec.SearchS
set_option linter.all false
set_option linter.all false
namespace Go.Fold
open Go.Shelf Go.RowKit Go.Lib Go.Proofs
variable {P : Program} {ρ : Ren}

def strsOf : List AV → Option (List (List Nat))
  | [] => some []
  | .str s :: l => match strsOf l with | some r => some (s :: r) | none => none
  | _ :: _ => none

/-- slices.BinarySearch over words -/
def bsearchH (args : List AV) (A : AH) : Option (AV × AH) :=
  match args with
  | [.slice none n (some _), .str _] => bif n.beq 0 then some (.tup [.int .i64 0, .bool false], A) else none
  | [.slice (some (b, o)) n _, .str t] => match cellsAt A b with
    | some (c, _, _) => match sub c o n with
      | some cs => match strsOf cs with
        | some ss => bif Nat.blt n 4611686018427387904 && Nat.blt 0 n then
            some (.tup [.int .i64 (.ofNat (bsGo (fun j => bytesLt (ss.getD j []) t) n 0 n)), .bool (match ss[bsGo (fun j => bytesLt (ss.getD j []) t) n 0 n]? with | some s => bytesEq s t | none => false)], A) else none
        | none => none
      | none => none
    | none => none
  | _ => none

set_option maxHeartbeats 2000000 in
set_option maxRecDepth 1000000 in
theorem bs_empty (L : Lays2.n26 P ρ) (a : Option Addr) (c : Nat) (x : ByteArray) (w : World) :
    Calls P (ρ.f 26) #[.slice a 0 c, .string x] w fun e w' => e = .returned (.tuple #[.int .i64 0, .bool false]) ∧ w' = w := by
  have mixed := L.mixed
  have t0 := L.t0; have a0 := L.a0; have z0 := L.z0; have v0 := L.v0; have t3 := L.t3; have a3 := L.a3; have z3 := L.z3; have v3 := L.v3; have t4 := L.t4; have a4 := L.a4; have z4 := L.z4; have v4 := L.v4
  have t9 := L.t9; have a9 := L.a9; have z9 := L.z9; have v9 := L.v9; have t24 := L.t24; have a24 := L.a24; have z24 := L.z24; have v24 := L.v24; have t40 := L.t40; have a40 := L.a40; have z40 := L.z40; have v40 := L.v40
  have e33 : ∀ args w, (callFunc (ρ.f 33) args).run P w = .ok (.enter (ρ.f 33) args) w := enters_of L.f33 (by kernel_rfl) rfl
  have e34 : ∀ args w, (callFunc (ρ.f 34) args).run P w = .ok (.enter (ρ.f 34) args) w := enters_of L.f34 (by kernel_rfl) rfl
  go_enter L.f26, Body2.n26_ntmps ρ
  go_wp2
  go_loopg [7, 8] 0 (fun _ s7 s8 wr => s7 = .int .i64 0 ∧ s8 = .int .i64 0 ∧ wr = w)
  case atStart => exact ⟨rfl, rfl, rfl⟩
  case round =>
    obtain ⟨rfl, rfl, rfl⟩ := hrel
    go_wp2
    go_ret2
    exact ⟨rfl, rfl⟩

theorem strsOf_eq : ∀ {l : List AV} {ss : List (List Nat)}, strsOf l = some ss → l = ss.map AV.str
  | [], _, h => by simp only [strsOf, Option.some.injEq] at h; subst h; rfl
  | .str s :: l, ss, h => by
    simp only [strsOf] at h
    split at h
    · rename_i r hr
      simp only [Option.some.injEq] at h; subst h
      rw [strsOf_eq hr]; rfl
    · cases h
  | .bool _ :: _, _, h => by simp [strsOf] at h
  | .int _ _ :: _, _, h => by simp [strsOf] at h
  | .ptr _ :: _, _, h => by simp [strsOf] at h
  | .slice _ _ _ :: _, _, h => by simp [strsOf] at h
  | .mapv _ :: _, _, h => by simp [strsOf] at h
  | .fn _ _ _ :: _, _, h => by simp [strsOf] at h
  | .nilFn :: _, _, h => by simp [strsOf] at h
  | .nilIface :: _, _, h => by simp [strsOf] at h
  | .agg _ :: _, _, h => by simp [strsOf] at h
  | .tup _ :: _, _, h => by simp [strsOf] at h

theorem bsGo_congr {f g : Nat → Bool} {n : Nat} (h : ∀ j, j < n → f j = g j) : ∀ (k lo hi : Nat), hi ≤ n → bsGo f k lo hi = bsGo g k lo hi
  | 0, _, _, _ => rfl
  | k + 1, lo, hi, hn => by
    simp only [bsGo]
    by_cases hl : lo < hi
    · rw [if_pos hl, if_pos hl, h _ (by omega), bsGo_congr h k _ hi hn, bsGo_congr h k lo _ (by omega)]
    · rw [if_neg hl, if_neg hl]

theorem isNaN_spec (F : Fit P) (L : Lays2.n34 P ρ) (s : List Nat) (A : AH) : CallSpec P (ρ.f 34) [.str s] A (.bool false) A := by
  have u9 := L.t9
  refine (CallSpecD.of_body F L.f34 rfl (N := 6) (by kernel_rfl) ?_).call
  refine dn_seq F ?_
  repeat (first | refine dn_seq F ?_ | refine dn_skip F ?_ | refine dn_label F ?_ | refine dn_inBlock F ?_ | refine dn_block F ?_)
  refine dn_rg F RecOk.none' List.toList_toArray ?_
  repeat (first
    | refine th_still (wanted_none rfl) rfl (by simp (disch := first | omega | decide) [u9]; try rfl) ?_
    | (refine th_not (wanted_no rfl rfl ?_) ?_; focus (simp [u9]; done))
    | (refine th_not (wanted_off rfl rfl ?_) ?_; focus (simp [u9]; done))
    | (refine th_still (wanted_yes rfl rfl ?_) rfl (by simp (disch := first | omega | decide) [u9]; try rfl) ?_; focus (simp [u9]; done)))
  refine th_nil ?_
  refine dn_seq F ?_
  repeat (first | refine dn_seq F ?_ | refine dn_skip F ?_ | refine dn_label F ?_ | refine dn_inBlock F ?_ | refine dn_block F ?_)
  refine dn_rg F RecOk.none' List.toList_toArray ?_
  repeat (first
    | refine th_still (wanted_none rfl) rfl (by simp (disch := first | omega | decide) [u9]; try rfl) ?_
    | (refine th_not (wanted_no rfl rfl ?_) ?_; focus (simp [u9]; done))
    | (refine th_not (wanted_off rfl rfl ?_) ?_; focus (simp [u9]; done))
    | (refine th_still (wanted_yes rfl rfl ?_) rfl (by simp (disch := first | omega | decide) [u9]; try rfl) ?_; focus (simp [u9]; done)))
  refine th_nil ?_
  refine dn_ret F ?_
  exact dn_out F L.f34 (rs := [.tmp 2]) rfl (by simp []; first | done | rfl | exact ⟨rfl, rfl⟩) rfl

theorem isNaN2_spec (F : Fit P) (L : Lays2.n38 P ρ) (s : List Nat) (A : AH) : CallSpec P (ρ.f 38) [.str s] A (.bool false) A := by
  have u9 := L.t9
  refine (CallSpecD.of_body F L.f38 rfl (N := 6) (by kernel_rfl) ?_).call
  refine dn_seq F ?_
  repeat (first | refine dn_seq F ?_ | refine dn_skip F ?_ | refine dn_label F ?_ | refine dn_inBlock F ?_ | refine dn_block F ?_)
  refine dn_rg F RecOk.none' List.toList_toArray ?_
  repeat (first
    | refine th_still (wanted_none rfl) rfl (by simp (disch := first | omega | decide) [u9]; try rfl) ?_
    | (refine th_not (wanted_no rfl rfl ?_) ?_; focus (simp [u9]; done))
    | (refine th_not (wanted_off rfl rfl ?_) ?_; focus (simp [u9]; done))
    | (refine th_still (wanted_yes rfl rfl ?_) rfl (by simp (disch := first | omega | decide) [u9]; try rfl) ?_; focus (simp [u9]; done)))
  refine th_nil ?_
  refine dn_seq F ?_
  repeat (first | refine dn_seq F ?_ | refine dn_skip F ?_ | refine dn_label F ?_ | refine dn_inBlock F ?_ | refine dn_block F ?_)
  refine dn_rg F RecOk.none' List.toList_toArray ?_
  repeat (first
    | refine th_still (wanted_none rfl) rfl (by simp (disch := first | omega | decide) [u9]; try rfl) ?_
    | (refine th_not (wanted_no rfl rfl ?_) ?_; focus (simp [u9]; done))
    | (refine th_not (wanted_off rfl rfl ?_) ?_; focus (simp [u9]; done))
    | (refine th_still (wanted_yes rfl rfl ?_) rfl (by simp (disch := first | omega | decide) [u9]; try rfl) ?_; focus (simp [u9]; done)))
  refine th_nil ?_
  refine dn_ret F ?_
  exact dn_out F L.f38 (rs := [.tmp 2]) rfl (by simp []; first | done | rfl | exact ⟨rfl, rfl⟩) rfl

theorem Less_spec (F : Fit P) (L : Lays2.n33 P ρ) (s u : List Nat) (A : AH) : CallSpec P (ρ.f 33) [.str s, .str u] A (.bool (bytesLt s u)) A := by
  have u9 := L.t9
  have h1 := isNaN2_spec F { L with } s A
  refine (CallSpecD.of_body F L.f33 rfl (N := 17) (by kernel_rfl) ?_).call
  refine dn_seq F ?_
  repeat (first | refine dn_seq F ?_ | refine dn_skip F ?_ | refine dn_label F ?_ | refine dn_inBlock F ?_ | refine dn_block F ?_)
  refine dn_rg F RecOk.none' List.toList_toArray ?_
  repeat (first
    | refine th_still (wanted_none rfl) rfl (by simp (disch := first | omega | decide) [u9]; try rfl) ?_
    | (refine th_not (wanted_no rfl rfl ?_) ?_; focus (simp [u9]; done))
    | (refine th_not (wanted_off rfl rfl ?_) ?_; focus (simp [u9]; done))
    | (refine th_still (wanted_yes rfl rfl ?_) rfl (by simp (disch := first | omega | decide) [u9]; try rfl) ?_; focus (simp [u9]; done)))
  refine th_nil ?_
  refine dn_seq F ?_
  repeat (first | refine dn_seq F ?_ | refine dn_skip F ?_ | refine dn_label F ?_ | refine dn_inBlock F ?_ | refine dn_block F ?_)
  refine dn_rg F (RecOk.none'.add h1) List.toList_toArray ?_
  repeat (first
    | refine th_still (wanted_none rfl) rfl (by simp (disch := first | omega | decide) [u9]; try rfl) ?_
    | (refine th_not (wanted_no rfl rfl ?_) ?_; focus (simp [u9]; done))
    | (refine th_not (wanted_off rfl rfl ?_) ?_; focus (simp [u9]; done))
    | (refine th_still (wanted_yes rfl rfl ?_) rfl (by simp (disch := first | omega | decide) [u9]; try rfl) ?_; focus (simp [u9]; done))
    | refine th_call (wanted_none rfl) rfl (by simp (disch := first | omega | decide) [u9, Rec.add_same, Rec.add_other_f]; first | done | rfl | exact ⟨rfl, rfl⟩) ?_
    | (refine th_call (wanted_yes rfl rfl ?_) rfl (by simp (disch := first | omega | decide) [u9, Rec.add_same, Rec.add_other_f]; first | done | rfl | exact ⟨rfl, rfl⟩) ?_; focus (simp [u9]; done)))
  refine th_nil ?_
  refine dn_ret F ?_
  exact dn_out F L.f33 (rs := [.tmp 4]) rfl (by simp []; first | done | rfl | exact ⟨rfl, rfl⟩) rfl

set_option maxHeartbeats 4000000 in
theorem bs_spec (F : Fit P) (L : Lays2.n26 P ρ) {b o n : Nat} {q : Option Nat} {c : List AV} {e : TypeId} {fz : Bool} (u : List Nat) (A : AH) (hg : A.get b = some (.cells c e fz)) (S : Nat → List Nat) (hS : ∀ j, j < n → c[o + j]? = some (.str (S j))) (hn : n < 4611686018427387904) (hs9 : sizeA P (ρ.t 9) = some 1) :
    CallSpec P (ρ.f 26) [.slice (some (b, o)) n q, .str u] A (.tup [.int .i64 (bsGo (fun j => bytesLt (S j) u) n 0 n : Nat), .bool (if bsGo (fun j => bytesLt (S j) u) n 0 n < n then bytesEq (S (bsGo (fun j => bytesLt (S j) u) n 0 n)) u else false)]) A := by
  have u9 := L.t9; have u3 := L.t3; have u24 := L.t24; have u40 := L.t40
  have g9 : Fold.isAgg P (ρ.t 9) = some false := by simp [Fold.isAgg, u9]
  refine (CallSpecD.of_body F L.f26 rfl (N := 54) (by kernel_rfl) ?_).call
  refine dn_seq F ?_
  repeat (first | refine dn_seq F ?_ | refine dn_skip F ?_ | refine dn_label F ?_ | refine dn_inBlock F ?_ | refine dn_block F ?_)
  refine dn_rg F RecOk.none' List.toList_toArray ?_
  repeat (first
    | refine th_still (wanted_none rfl) rfl (by simp (disch := first | omega | decide) [u9]; try rfl) ?_
    | (refine th_not (wanted_no rfl rfl ?_) ?_; focus (simp [u9]; done))
    | (refine th_not (wanted_off rfl rfl ?_) ?_; focus (simp [u9]; done))
    | (refine th_still (wanted_yes rfl rfl ?_) rfl (by simp (disch := first | omega | decide) [u9]; try rfl) ?_; focus (simp [u9]; done)))
  refine th_nil ?_
  refine dn_seq F ?_
  repeat (first | refine dn_seq F ?_ | refine dn_skip F ?_ | refine dn_label F ?_ | refine dn_inBlock F ?_ | refine dn_block F ?_)
  refine dn_rg F RecOk.none' List.toList_toArray ?_
  repeat (first
    | refine th_still (wanted_none rfl) rfl (by simp (disch := first | omega | decide) [u9, u24]; try rfl) ?_
    | (refine th_not (wanted_no rfl rfl ?_) ?_; focus (simp [u9, u24]; done))
    | (refine th_not (wanted_off rfl rfl ?_) ?_; focus (simp [u9, u24]; done))
    | (refine th_still (wanted_yes rfl rfl ?_) rfl (by simp (disch := first | omega | decide) [u9, u24]; try rfl) ?_; focus (simp [u9, u24]; done)))
  refine th_nil ?_
  refine dn_seq F ?_
  repeat (first | refine dn_seq F ?_ | refine dn_skip F ?_ | refine dn_label F ?_ | refine dn_inBlock F ?_ | refine dn_block F ?_)
  refine dn_rg F RecOk.none' List.toList_toArray ?_
  repeat (first
    | refine th_still (wanted_none rfl) rfl (by simp (disch := first | omega | decide) [u9, u24]; try rfl) ?_
    | (refine th_not (wanted_no rfl rfl ?_) ?_; focus (simp [u9, u24]; done))
    | (refine th_not (wanted_off rfl rfl ?_) ?_; focus (simp [u9, u24]; done))
    | (refine th_still (wanted_yes rfl rfl ?_) rfl (by simp (disch := first | omega | decide) [u9, u24]; try rfl) ?_; focus (simp [u9, u24]; done)))
  refine th_nil ?_
  refine dn_seq F ?_
  refine dn_block F ?_
  obtain ⟨less, hless⟩ : ∃ less, less = fun j => bytesLt (S j) u := ⟨_, rfl⟩
  rw [← hless]
  obtain ⟨I, hI⟩ : ∃ I, bsGo less n 0 n = I := ⟨_, rfl⟩
  rw [hI]
  refine dn_loop_ind F (fun g t A' => A' = A ∧ ∃ lo hi : Nat, t.n = 54 ∧ t.get 0 = .slice (some (b, o)) n q ∧ t.get 1 = .str u ∧ t.get 6 = .int .i64 n ∧ t.get 7 = .int .i64 lo ∧ t.get 8 = .int .i64 hi ∧ lo ≤ hi ∧ hi ≤ n ∧ hi - lo ≤ g ∧ bsGo less g lo hi = I) n
    ⟨rfl, 0, n, by simp, by simp, by simp, by simp, by simp, by simp, by omega, by omega, by omega, hI⟩ ?_
  rintro g t A' ⟨rfl, lo, hi, tn, t0, t1, t6, t7, t8, h1, h2, h3, hb⟩ hrec
  refine dn_seq F ?_
  refine dn_seq F ?_
  repeat (first | refine dn_seq F ?_ | refine dn_skip F ?_ | refine dn_label F ?_ | refine dn_inBlock F ?_ | refine dn_block F ?_)
  refine dn_rg F RecOk.none' List.toList_toArray ?_
  repeat (first
    | refine th_still (wanted_none rfl) rfl (by simp (disch := first | omega | decide) [tn, t0, t1, t6, t7, t8, u3]; try rfl) ?_
    | (refine th_not (wanted_no rfl rfl ?_) ?_; focus (simp [tn, t0, t1, t6, t7, t8, u3]; done))
    | (refine th_not (wanted_off rfl rfl ?_) ?_; focus (simp [tn, t0, t1, t6, t7, t8, u3]; done))
    | (refine th_still (wanted_yes rfl rfl ?_) rfl (by simp (disch := first | omega | decide) [tn, t0, t1, t6, t7, t8, u3]; try rfl) ?_; focus (simp [tn, t0, t1, t6, t7, t8, u3]; done)))
  refine th_nil ?_
  by_cases hlt : lo < hi
  · refine dn_cond F (x := true) (by simp [tn, hlt]) ?_
    refine dn_skip F ?_
    refine dn_block F ?_
    refine dn_seq F ?_
    obtain ⟨mid, hmid⟩ : ∃ mid, (lo + hi) / 2 = mid := ⟨_, rfl⟩
    have hm : mid < n := by omega
    have hmi : ((lo : Int) + (hi : Int)) / 2 = (mid : Int) := by omega
    have hld : c[o + mid]? = some (.str (S mid)) := hS _ hm
    have hc := Less_spec F { L with } (S mid) u A'
    repeat (first | refine dn_seq F ?_ | refine dn_skip F ?_ | refine dn_label F ?_ | refine dn_inBlock F ?_ | refine dn_block F ?_)
    refine dn_rg F RecOk.none' List.toList_toArray ?_
    repeat (first
      | refine th_still (wanted_none rfl) rfl (by simp (disch := first | omega | decide) [tn, t0, t1, t6, t7, t8, u3, u40, wrap_i64, wrap_u64, shr_u64, hmi]; try rfl) ?_
      | (refine th_not (wanted_no rfl rfl ?_) ?_; focus (simp [tn, t0, t1, t6, t7, t8, u3, u40, wrap_i64, wrap_u64, shr_u64, hmi]; done))
      | (refine th_not (wanted_off rfl rfl ?_) ?_; focus (simp [tn, t0, t1, t6, t7, t8, u3, u40, wrap_i64, wrap_u64, shr_u64, hmi]; done))
      | (refine th_still (wanted_yes rfl rfl ?_) rfl (by simp (disch := first | omega | decide) [tn, t0, t1, t6, t7, t8, u3, u40, wrap_i64, wrap_u64, shr_u64, hmi]; try rfl) ?_; focus (simp [tn, t0, t1, t6, t7, t8, u3, u40, wrap_i64, wrap_u64, shr_u64, hmi]; done))
      | (refine th_still (wanted_none rfl) ?_ (by simp (disch := first | omega | decide) [tn, t0, t1, t6, t7, t8, u3, u40, wrap_i64, wrap_u64, shr_u64, hmi]; try rfl) ?_; focus (simp [tn, t0, t1, t6, t7, t8, u3, u40, wrap_i64, wrap_u64, shr_u64, hmi]; done)))
    refine th_nil ?_
    refine dn_seq F ?_
    repeat (first | refine dn_seq F ?_ | refine dn_skip F ?_ | refine dn_label F ?_ | refine dn_inBlock F ?_ | refine dn_block F ?_)
    refine dn_rg F (RecOk.none'.add hc) List.toList_toArray ?_
    repeat (first
      | refine th_still (wanted_none rfl) rfl (by simp (disch := first | omega | decide) [tn, t0, t1, t6, t7, t8, u24, g9, hs9, u9, hg, hm, hld]; try rfl) ?_
      | (refine th_not (wanted_no rfl rfl ?_) ?_; focus (simp [tn, t0, t1, t6, t7, t8, u24, g9, hs9, u9, hg, hm, hld]; done))
      | (refine th_not (wanted_off rfl rfl ?_) ?_; focus (simp [tn, t0, t1, t6, t7, t8, u24, g9, hs9, u9, hg, hm, hld]; done))
      | (refine th_still (wanted_yes rfl rfl ?_) rfl (by simp (disch := first | omega | decide) [tn, t0, t1, t6, t7, t8, u24, g9, hs9, u9, hg, hm, hld]; try rfl) ?_; focus (simp [tn, t0, t1, t6, t7, t8, u24, g9, hs9, u9, hg, hm, hld]; done))
      | refine th_call (wanted_none rfl) rfl (by simp (disch := first | omega | decide) [tn, t0, t1, t6, t7, t8, u24, g9, hs9, u9, hg, hm, hld, Rec.add_same, Rec.add_other_f]; first | done | rfl | exact ⟨rfl, rfl⟩) ?_
      | (refine th_call (wanted_yes rfl rfl ?_) rfl (by simp (disch := first | omega | decide) [tn, t0, t1, t6, t7, t8, u24, g9, hs9, u9, hg, hm, hld, Rec.add_same, Rec.add_other_f]; first | done | rfl | exact ⟨rfl, rfl⟩) ?_; focus (simp [tn, t0, t1, t6, t7, t8, u24, g9, hs9, u9, hg, hm, hld]; done)))
    refine th_nil ?_
    refine dn_cond F (x := less mid) (by simp [tn, hless]) ?_
    obtain ⟨g', rfl⟩ : ∃ g', g = g' + 1 := ⟨g - 1, by omega⟩
    simp only [bsGo, if_pos hlt, hmid] at hb
    cases hl : less mid with
    | true =>
      rw [hl, if_pos rfl] at hb
      repeat (first | refine dn_seq F ?_ | refine dn_skip F ?_ | refine dn_label F ?_ | refine dn_inBlock F ?_ | refine dn_block F ?_)
      refine dn_rg F RecOk.none' List.toList_toArray ?_
      repeat (first
        | refine th_still (wanted_none rfl) rfl (by simp (disch := first | omega | decide) [tn, t0, t1, t6, t7, t8, wrap_i64]; try rfl) ?_
        | (refine th_not (wanted_no rfl rfl ?_) ?_; focus (simp [tn, t0, t1, t6, t7, t8, wrap_i64]; done))
        | (refine th_not (wanted_off rfl rfl ?_) ?_; focus (simp [tn, t0, t1, t6, t7, t8, wrap_i64]; done))
        | (refine th_still (wanted_yes rfl rfl ?_) rfl (by simp (disch := first | omega | decide) [tn, t0, t1, t6, t7, t8, wrap_i64]; try rfl) ?_; focus (simp [tn, t0, t1, t6, t7, t8, wrap_i64]; done)))
      refine th_nil ?_
      refine dn_inBlock F ?_
      refine hrec g' _ _ (by omega) ⟨rfl, mid + 1, hi, by simp [tn], by simp [tn, t0], by simp [tn, t1], by simp [tn, t6], by simp [tn], by simp [tn, t8], by omega, by omega, by omega, hb⟩
    | false =>
      rw [hl, if_neg (by simp)] at hb
      repeat (first | refine dn_seq F ?_ | refine dn_skip F ?_ | refine dn_label F ?_ | refine dn_inBlock F ?_ | refine dn_block F ?_)
      refine dn_rg F RecOk.none' List.toList_toArray ?_
      repeat (first
        | refine th_still (wanted_none rfl) rfl (by simp (disch := first | omega | decide) [tn, t0, t1, t6, t7, t8, wrap_i64]; try rfl) ?_
        | (refine th_not (wanted_no rfl rfl ?_) ?_; focus (simp [tn, t0, t1, t6, t7, t8, wrap_i64]; done))
        | (refine th_not (wanted_off rfl rfl ?_) ?_; focus (simp [tn, t0, t1, t6, t7, t8, wrap_i64]; done))
        | (refine th_still (wanted_yes rfl rfl ?_) rfl (by simp (disch := first | omega | decide) [tn, t0, t1, t6, t7, t8, wrap_i64]; try rfl) ?_; focus (simp [tn, t0, t1, t6, t7, t8, wrap_i64]; done)))
      refine th_nil ?_
      refine dn_inBlock F ?_
      refine hrec g' _ _ (by omega) ⟨rfl, lo, mid, by simp [tn], by simp [tn, t0], by simp [tn, t1], by simp [tn, t6], by simp [tn, t7], by simp [tn], by omega, by omega, by omega, hb⟩
  · have hlo : hi = lo := by omega
    subst hlo
    have hI2 : I = hi := by
      rw [← hb]; cases g <;> simp [bsGo]
    rw [hI2]
    clear hb hI
    refine dn_cond F (x := false) (by simp [tn]) ?_
    refine dn_exit F rfl ?_
    refine dn_seq F ?_
    by_cases hn2 : hi < n
    · have hld : c[o + hi]? = some (.str (S hi)) := hS _ hn2
      rw [if_pos hn2]
      have hc := isNaN_spec F { L with } (S hi) A'
      cases hbe : bytesEq (S hi) u with
      | true =>
        repeat (first | refine dn_seq F ?_ | refine dn_skip F ?_ | refine dn_label F ?_ | refine dn_inBlock F ?_ | refine dn_block F ?_)
        refine dn_rg F (RecOk.none'.add hc) List.toList_toArray ?_
        repeat (first
          | refine th_still (wanted_none rfl) rfl (by simp (disch := first | omega | decide) [tn, t0, t1, t6, t7, t8, u24, g9, hs9, u9, hg, hld, hn2, hbe]; try rfl) ?_
          | (refine th_not (wanted_no rfl rfl ?_) ?_; focus (simp [tn, t0, t1, t6, t7, t8, u24, g9, hs9, u9, hg, hld, hn2, hbe]; done))
          | (refine th_not (wanted_off rfl rfl ?_) ?_; focus (simp [tn, t0, t1, t6, t7, t8, u24, g9, hs9, u9, hg, hld, hn2, hbe]; done))
          | (refine th_still (wanted_yes rfl rfl ?_) rfl (by simp (disch := first | omega | decide) [tn, t0, t1, t6, t7, t8, u24, g9, hs9, u9, hg, hld, hn2, hbe]; try rfl) ?_; focus (simp [tn, t0, t1, t6, t7, t8, u24, g9, hs9, u9, hg, hld, hn2, hbe]; done))
          | refine th_call (wanted_none rfl) rfl (by simp (disch := first | omega | decide) [tn, t0, t1, t6, t7, t8, u24, g9, hs9, u9, hg, hld, hn2, hbe, Rec.add_same, Rec.add_other_f]; first | done | rfl | exact ⟨rfl, rfl⟩) ?_
          | (refine th_call (wanted_yes rfl rfl ?_) rfl (by simp (disch := first | omega | decide) [tn, t0, t1, t6, t7, t8, u24, g9, hs9, u9, hg, hld, hn2, hbe, Rec.add_same, Rec.add_other_f]; first | done | rfl | exact ⟨rfl, rfl⟩) ?_; focus (simp [tn, t0, t1, t6, t7, t8, u24, g9, hs9, u9, hg, hld, hn2, hbe]; done)))
        refine th_nil ?_
        refine dn_ret F ?_
        exact dn_out F L.f26 (rs := [.tmp 4, .tmp 5]) rfl (by simp [tn]; first | done | rfl | exact ⟨rfl, rfl⟩) rfl
      | false =>
        repeat (first | refine dn_seq F ?_ | refine dn_skip F ?_ | refine dn_label F ?_ | refine dn_inBlock F ?_ | refine dn_block F ?_)
        refine dn_rg F (RecOk.none'.add hc) List.toList_toArray ?_
        repeat (first
          | refine th_still (wanted_none rfl) rfl (by simp (disch := first | omega | decide) [tn, t0, t1, t6, t7, t8, u24, g9, hs9, u9, hg, hld, hn2, hbe]; try rfl) ?_
          | (refine th_not (wanted_no rfl rfl ?_) ?_; focus (simp [tn, t0, t1, t6, t7, t8, u24, g9, hs9, u9, hg, hld, hn2, hbe]; done))
          | (refine th_not (wanted_off rfl rfl ?_) ?_; focus (simp [tn, t0, t1, t6, t7, t8, u24, g9, hs9, u9, hg, hld, hn2, hbe]; done))
          | (refine th_still (wanted_yes rfl rfl ?_) rfl (by simp (disch := first | omega | decide) [tn, t0, t1, t6, t7, t8, u24, g9, hs9, u9, hg, hld, hn2, hbe]; try rfl) ?_; focus (simp [tn, t0, t1, t6, t7, t8, u24, g9, hs9, u9, hg, hld, hn2, hbe]; done))
          | refine th_call (wanted_none rfl) rfl (by simp (disch := first | omega | decide) [tn, t0, t1, t6, t7, t8, u24, g9, hs9, u9, hg, hld, hn2, hbe, Rec.add_same, Rec.add_other_f]; first | done | rfl | exact ⟨rfl, rfl⟩) ?_
          | (refine th_call (wanted_yes rfl rfl ?_) rfl (by simp (disch := first | omega | decide) [tn, t0, t1, t6, t7, t8, u24, g9, hs9, u9, hg, hld, hn2, hbe, Rec.add_same, Rec.add_other_f]; first | done | rfl | exact ⟨rfl, rfl⟩) ?_; focus (simp [tn, t0, t1, t6, t7, t8, u24, g9, hs9, u9, hg, hld, hn2, hbe]; done)))
        refine th_nil ?_
        refine dn_ret F ?_
        exact dn_out F L.f26 (rs := [.tmp 4, .tmp 5]) rfl (by simp [tn]; first | done | rfl | exact ⟨rfl, rfl⟩) rfl
    · rw [if_neg hn2]
      repeat (first | refine dn_seq F ?_ | refine dn_skip F ?_ | refine dn_label F ?_ | refine dn_inBlock F ?_ | refine dn_block F ?_)
      refine dn_rg F RecOk.none' List.toList_toArray ?_
      repeat (first
        | refine th_still (wanted_none rfl) rfl (by simp (disch := first | omega | decide) [tn, t0, t1, t6, t7, t8, u24, g9, hs9, u9, hg, hn2]; try rfl) ?_
        | (refine th_not (wanted_no rfl rfl ?_) ?_; focus (simp [tn, t0, t1, t6, t7, t8, u24, g9, hs9, u9, hg, hn2]; done))
        | (refine th_not (wanted_off rfl rfl ?_) ?_; focus (simp [tn, t0, t1, t6, t7, t8, u24, g9, hs9, u9, hg, hn2]; done))
        | (refine th_still (wanted_yes rfl rfl ?_) rfl (by simp (disch := first | omega | decide) [tn, t0, t1, t6, t7, t8, u24, g9, hs9, u9, hg, hn2]; try rfl) ?_; focus (simp [tn, t0, t1, t6, t7, t8, u24, g9, hs9, u9, hg, hn2]; done)))
      refine th_nil ?_
      refine dn_ret F ?_
      exact dn_out F L.f26 (rs := [.tmp 4, .tmp 5]) rfl (by simp [tn]; first | done | rfl | exact ⟨rfl, rfl⟩) rfl

end Go.Fold

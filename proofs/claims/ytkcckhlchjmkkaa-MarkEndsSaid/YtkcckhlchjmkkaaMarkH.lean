/-
  LAYER 22: who ends is open no more (plain).
-/
import Derived.Test.YtkcckhlchjmkkaaMarkY
set_option linter.unusedVariables false
set_option linter.unusedSimpArgs false
namespace Go.Proofs.Ytkcckhlchjmkkaa
open Go.RowKit Go.Maps Go.Proofs.YtkcckhlchjmkkaaW.PrintWords Go.Proofs.YtkcckhlchjmkkaaW.PrintMore Go.Proofs.Ytkcckhlchjmkkaa.PMark

def kOf (a : Int) : Nat := ((IntKind.u64.wrap a).tmod 5).toNat
theorem kOf_spec (a : Int) : (IntKind.u64.wrap a).tmod 5 = (kOf a : Int) ∧ kOf a < 5 := by
  have h0 : 0 ≤ IntKind.u64.wrap a := by simp [IntKind.wrap, IntKind.signed, IntKind.bits]; omega
  unfold kOf
  generalize IntKind.u64.wrap a = b at *
  have h1 : 0 ≤ b.tmod 5 := Int.tmod_nonneg _ h0
  have h2 : b.tmod 5 < 5 := Int.tmod_lt_of_pos _ (by omega)
  omega
def upd (f : Nat → Int) (k : Nat) (v : Int) : Nat → Int := fun j => if j = k then v else f j
def opt (d v : Int) : List Opn := if v = 0 then [] else [⟨d, v⟩]
def openF (f : Nat → Int) : List Opn := opt 1 (f 0) ++ (opt 2 (f 1) ++ (opt 3 (f 2) ++ (opt 4 (f 3) ++ opt 5 (f 4))))
theorem put_openF (f : Nat → Int) (k : Nat) (hk : k < 5) (v : Int) (hv : v ≠ 0) : putO (openF f) ⟨(k : Int) + 1, v⟩ = openF (upd f k v) := by
  unfold openF
  obtain rfl | rfl | rfl | rfl | rfl : k = 0 ∨ k = 1 ∨ k = 2 ∨ k = 3 ∨ k = 4 := by omega
  all_goals
    simp only [upd, reduceIte, opt, if_neg hv]
    by_cases h0 : f 0 = 0 <;> by_cases h1 : f 1 = 0 <;> by_cases h2 : f 2 = 0 <;> by_cases h3 : f 3 = 0 <;> by_cases h4 : f 4 = 0 <;> simp [h0, h1, h2, h3, h4, putO, insO, List.filter]
theorem del_openF (f : Nat → Int) (k : Nat) (hk : k < 5) : delO (openF f) ((k : Int) + 1) = openF (upd f k 0) := by
  unfold openF
  obtain rfl | rfl | rfl | rfl | rfl : k = 0 ∨ k = 1 ∨ k = 2 ∨ k = 3 ∨ k = 4 := by omega
  all_goals
    simp only [upd, reduceIte, opt]
    by_cases h0 : f 0 = 0 <;> by_cases h1 : f 1 = 0 <;> by_cases h2 : f 2 = 0 <;> by_cases h3 : f 3 = 0 <;> by_cases h4 : f 4 = 0 <;> simp [h0, h1, h2, h3, h4, delO, List.filter]
def cnt (f : Nat → Int) : Nat → Nat
  | 0 => 0
  | k + 1 => cnt f k + if f k = 0 then 0 else 1
theorem cnt_all (f : Nat → Int) : cnt f 5 = (openF f).length := by
  unfold openF
  by_cases h0 : f 0 = 0 <;> by_cases h1 : f 1 = 0 <;> by_cases h2 : f 2 = 0 <;> by_cases h3 : f 3 = 0 <;> by_cases h4 : f 4 = 0 <;> simp [cnt, h0, h1, h2, h3, h4, opt]
theorem cnt_at (f : Nat → Int) (k : Nat) (hk : k < 5) (h : f k ≠ 0) : cnt f k < (openF f).length ∧ (openF f).getD (cnt f k) z55 = ⟨(k : Int) + 1, f k⟩ := by
  unfold openF
  obtain rfl | rfl | rfl | rfl | rfl : k = 0 ∨ k = 1 ∨ k = 2 ∨ k = 3 ∨ k = 4 := by omega
  all_goals
    by_cases h0 : f 0 = 0 <;> by_cases h1 : f 1 = 0 <;> by_cases h2 : f 2 = 0 <;> by_cases h3 : f 3 = 0 <;> by_cases h4 : f 4 = 0 <;> simp_all [cnt, opt]
/-- The records, and what they tell. -/
def Tells (L : List Rec) (f : Nat → Int) (c : Nat) : Prop :=
  stepAll [] (stampN L L.length) = openF f ∧ (commN (stampN L L.length) L.length).length = c ∧ (∀ x ∈ L, ∃ k d, x = rc k d ∧ 1 ≤ k ∧ k ≤ 4 ∧ 1 ≤ d ∧ d ≤ 5)
theorem stampN_app (L : List Rec) (x : Rec) : stampN (L ++ [x]) (L ++ [x]).length = stampN L L.length ++ [⟨1 + 10 * (L.length : Int), x⟩] := by
  rw [List.length_append, List.length_singleton, stampN_snoc]
  congr 1
  · unfold stampN
    apply List.map_congr_left
    intro i hi
    have := List.mem_range.1 hi
    rw [List.getD_eq_getElem?_getD, List.getD_eq_getElem?_getD, List.getElem?_append_left this]
  · rw [List.getD_eq_getElem?_getD, List.getElem?_append_right (Nat.le_refl _)]
    simp
theorem comm_app (L : List Rec) (x : Rec) : (commN (stampN (L ++ [x]) (L ++ [x]).length) (L ++ [x]).length).length = (commN (stampN L L.length) L.length).length + if x.f0 = 3 then 1 else 0 := by
  unfold commN
  rw [List.take_of_length_le (by rw [stampN_len]; exact Nat.le_refl _), List.take_of_length_le (by rw [stampN_len]; exact Nat.le_refl _), stampN_app, List.filter_append, List.map_append, List.length_append]
  congr 1
  by_cases h : x.f0 = 3 <;> simp [List.filter_cons, h]
theorem tells_nil : Tells [] (fun _ => 0) 0 := ⟨rfl, rfl, fun x hx => by cases hx⟩
theorem tells_do {L : List Rec} {f : Nat → Int} {c : Nat} (h : Tells L f c) (k : Nat) (hk : k < 5) : Tells (L ++ [rc 1 ((k : Int) + 1)]) (upd f k (1 + 10 * (L.length : Int))) c := by
  obtain ⟨h1, h2, h3⟩ := h
  refine ⟨?_, ?_, ?_⟩
  · rw [stampN_app, stepAll_app, h1]
    show stepO (openF f) (1 + 10 * (L.length : Int)) 1 ((k : Int) + 1) = _
    unfold stepO
    rw [if_pos (Or.inl rfl), put_openF f k hk _ (by omega)]
  · rw [comm_app, h2]
    simp [rc]
  · intro x hx
    rcases List.mem_append.1 hx with hx | hx
    · exact h3 x hx
    · rw [List.mem_singleton.1 hx]
      exact ⟨_, _, rfl, by omega, by omega, by omega, by omega⟩
theorem tells_end {L : List Rec} {f : Nat → Int} {c : Nat} (h : Tells L f c) (k : Nat) (hk : k < 5) (kind : Int) (hkd : kind = 3 ∨ kind = 4) : Tells (L ++ [rc kind ((k : Int) + 1)]) (upd f k 0) (c + if kind = 3 then 1 else 0) := by
  obtain ⟨h1, h2, h3⟩ := h
  refine ⟨?_, ?_, ?_⟩
  · rw [stampN_app, stepAll_app, h1]
    show stepO (openF f) (1 + 10 * (L.length : Int)) kind ((k : Int) + 1) = _
    unfold stepO
    rw [if_neg (by omega), if_pos hkd, del_openF f k hk]
  · rw [comm_app, h2]
    rfl
  · intro x hx
    rcases List.mem_append.1 hx with hx | hx
    · exact h3 x hx
    · rw [List.mem_singleton.1 hx]
      exact ⟨_, _, rfl, by omega, by omega, by omega, by omega⟩
theorem tells_ok {L : List Rec} {f : Nat → Int} {c : Nat} (h : Tells L f c) (hl : L.length ≤ 50) : OkS (stampN L L.length) ∧ (∀ x ∈ stampN L L.length, x.f1.f0 ≠ 6) := by
  have hm : ∀ x ∈ stampN L L.length, ∃ i : Nat, i < L.length ∧ x.f0 = 1 + 10 * (i : Int) ∧ x.f1 ∈ L := by
    intro x hx
    obtain ⟨i, hi, rfl⟩ := List.mem_map.1 hx
    have hi := List.mem_range.1 hi
    refine ⟨i, hi, rfl, ?_⟩
    show L.getD i _ ∈ L
    rw [List.getD_eq_getElem?_getD, List.getElem?_eq_getElem hi]
    exact List.getElem_mem _
  refine ⟨⟨by rw [stampN_len]; omega, fun x hx => ?_⟩, fun x hx => ?_⟩
  · obtain ⟨i, hi, h0, hL⟩ := hm x hx
    obtain ⟨k, d, he, _⟩ := h.2.2 _ hL
    rw [h0, he]
    refine ⟨by simp [rc], by simp [rc], ⟨by omega, by omega⟩, ⟨?_, ?_⟩, fun o ho => by simp [rc] at ho⟩
    · show -9223372036854775808 ≤ d; omega
    · show d ≤ 9223372036854775807; omega
  · obtain ⟨i, hi, h0, hL⟩ := hm x hx
    obtain ⟨k, d, he, _⟩ := h.2.2 _ hL
    rw [he]
    show k ≠ 6
    omega
/-- The array of five. -/
def arr5 (f : Nat → Int) : Array Value := #[.int .i64 (f 0), .int .i64 (f 1), .int .i64 (f 2), .int .i64 (f 3), .int .i64 (f 4)]
theorem arr5_set (f : Nat → Int) (k : Nat) (hk : k < 5) (v : Int) : (arr5 f).setIfInBounds k (.int .i64 v) = arr5 (upd f k v) := by
  obtain rfl | rfl | rfl | rfl | rfl : k = 0 ∨ k = 1 ∨ k = 2 ∨ k = 3 ∨ k = 4 := by omega
  all_goals rfl
theorem arr5_get (f : Nat → Int) (k : Nat) (hk : k < 5) : (arr5 f)[k]? = some (.int .i64 (f k)) := by
  obtain rfl | rfl | rfl | rfl | rfl : k = 0 ∨ k = 1 ∨ k = 2 ∨ k = 3 ∨ k = 4 := by omega
  all_goals rfl
end Go.Proofs.Ytkcckhlchjmkkaa

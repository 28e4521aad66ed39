/-
  LAYER 22: what records tell, as the specification of both sides; the printed contracts of mark.last and mark.start at it.
-/
import Derived.Test.YtkcckhlchjmkkaaMarkP
set_option linter.unusedVariables false
set_option linter.unusedSimpArgs false
namespace Go.Proofs.Ytkcckhlchjmkkaa
open Go.RowKit Go.Maps Go.Proofs.YtkcckhlchjmkkaaW.PrintWords Go.Proofs.YtkcckhlchjmkkaaW.PrintMore Go.Proofs.Ytkcckhlchjmkkaa.PMark

def stpAt (S : List Stp) (i : Nat) : Stp := S.getD i z70
theorem rd_stp (S : List Stp) (i : Nat) : rd_T70 S (i : Int) = stpAt S i := rfl
/-- The last checkpoint among the first n. -/
def lastS (S : List Stp) : Nat → Int
  | 0 => -1
  | n + 1 => if (stpAt S n).f1.f0 = 6 then n else lastS S n
theorem lastS_range (S : List Stp) : ∀ n, lastS S n = -1 ∨ (0 ≤ lastS S n ∧ lastS S n < n)
  | 0 => Or.inl rfl
  | n + 1 => by
    unfold lastS
    split
    · exact Or.inr ⟨by omega, by omega⟩
    · rcases lastS_range S n with h | h <;> omega
theorem last_pure (S : List Stp) (hS : S.length ≤ 1000000) : ∀ n, n ≤ S.length → mark_last.l0 (n + 1) S ((n : Int) - 1) = some (lastS S n)
  | 0, _ => by simp [mark_last.l0, lastS]
  | n + 1, h => by
    have ih := last_pure S hS n (by omega)
    have e : ((n + 1 : Nat) : Int) - 1 = (n : Int) := by omega
    rw [e]
    unfold mark_last.l0 lastS
    rw [if_pos (by omega), if_pos (by omega), if_pos (by omega), rd_stp]
    split
    · rfl
    · rw [show wrap64 ((n : Int) - 1) = n - 1 from by unfold wrap64; omega]
      exact ih
theorem c_last (S : List Stp) (A : Option Addr) (c : Nat) (hS : S.length ≤ 1000000) (w : World) (h : kStp.C w A S.length S) (hc : S.length ≤ c) :
    Calls Try.prog 64 #[.slice A S.length c] w fun e w' => e = .returned (.int .i64 (lastS S S.length)) ∧ Below w.heap.size w w' := by
  refine (mark_last.calls (S.length + 1) A c S _ w h hc ?_).mono (fun e w' h => ⟨h.1, h.2.below⟩)
  unfold mark_last.f
  rw [show wrap64 ((S.length : Int) - 1) = S.length - 1 from by unfold wrap64; omega]
  exact last_pure S hS _ (Nat.le_refl _)

abbrev Dty := S72
theorem rd_dty (D : List Dty) (i : Nat) : rd_T72 D (i : Int) = D.getD i z72 := rfl
/-- The least of a stamp and of what pages lack. -/
def leastD (a : Int) (D : List Dty) : Int := D.foldl (fun a d => mn a d.f1) a
def startS (S : List Stp) (at' : Int) : Int := if S = [] then 0 else if at' < 0 then (stpAt S 0).f0 else leastD (stpAt S at'.toNat).f0 (stpAt S at'.toNat).f1.f7
theorem getD_drop {α : Type} (l : List α) (i : Nat) (z : α) (h : i < l.length) : l.drop i = l.getD i z :: l.drop (i + 1) := by
  rw [List.drop_eq_getElem_cons h, List.getD_eq_getElem?_getD, List.getElem?_eq_getElem h]
  rfl
theorem start_pure (D : List Dty) (hD : D.length ≤ 1000000) : ∀ (d i : Nat) (a : Int), i + d = D.length → mark_start.l0 (d + 1) a D (D.length : Int) (i : Int) = some (leastD a (D.drop i))
  | 0, i, a, h => by
    unfold mark_start.l0
    rw [if_neg (by omega), List.drop_eq_nil_of_le (by omega)]
    rfl
  | d + 1, i, a, h => by
    unfold mark_start.l0
    rw [if_pos (by omega), if_pos (by omega), if_pos (by omega), rd_dty, show wrap64 ((i : Int) + 1) = ((i + 1 : Nat) : Int) from by unfold wrap64; omega, start_pure D hD d (i + 1) _ (by omega), getD_drop D i z72 (by omega)]
    rfl
theorem c_start (S : List Stp) (A : Option Addr) (c : Nat) (hS : S.length ≤ 1000000) (hD : ∀ x ∈ S, x.f1.f7.length ≤ 1000000) (a : Int) (ha : a = -1 ∨ (0 ≤ a ∧ a < S.length)) (w : World) (h : kStp.C w A S.length S) (hc : S.length ≤ c) :
    Calls Try.prog 65 #[.slice A S.length c, .int .i64 a] w fun e w' => e = .returned (.int .i64 (startS S a)) ∧ Below w.heap.size w w' := by
  refine mark_start.calls ((stpAt S a.toNat).f1.f7.length + 1) A c S a _ w h hc ?_
  unfold mark_start.f startS
  rcases Nat.eq_zero_or_pos S.length with h0 | h0
  · rw [if_pos (by omega), if_pos (List.length_eq_zero_iff.1 h0)]
  · have hne : ¬ S = [] := fun e => by rw [e] at h0; simp at h0
    rw [if_neg (by omega), if_neg hne]
    rcases ha with rfl | ⟨h1, h2⟩
    · rw [if_pos (by omega), if_pos (by omega), if_pos (by omega)]
      rfl
    · obtain ⟨n, rfl⟩ := Int.eq_ofNat_of_zero_le h1
      rw [if_neg (by omega), if_pos (by omega), if_pos (by omega), if_neg (by omega), rd_stp]
      have hm : (stpAt S n).f1.f7.length ≤ 1000000 := by
        refine hD _ ?_
        unfold stpAt
        rw [List.getD_eq_getElem?_getD, List.getElem?_eq_getElem (by omega)]
        exact List.getElem_mem _
      simp only [Int.toNat_natCast]
      exact start_pure _ hm _ 0 _ (by omega)
end Go.Proofs.Ytkcckhlchjmkkaa

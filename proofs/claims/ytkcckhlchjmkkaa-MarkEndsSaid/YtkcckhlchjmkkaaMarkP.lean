/-
  LAYER 22: what records tell, in plain Lean (no program in sight).
-/
import Derived.Test.YtkcckhlchjmkkaaMarkK
set_option linter.unusedVariables false
set_option linter.unusedSimpArgs false
namespace Go.Proofs.Ytkcckhlchjmkkaa
open Go.RowKit Go.Maps Go.Proofs.YtkcckhlchjmkkaaW.PrintWords Go.Proofs.Ytkcckhlchjmkkaa.PMark

/-! Rising lists. -/
def Ris (l : List Opn) : Prop := l.Pairwise fun a b => a.f0 < b.f0
theorem ris_filter {l : List Opn} (h : Ris l) (p : Opn → Bool) : Ris (l.filter p) := List.Pairwise.filter _ h
theorem ins_mem (x y : Opn) : ∀ l : List Opn, y ∈ insO x l ↔ y = x ∨ y ∈ l
  | [] => by simp [insO]
  | z :: r => by
    unfold insO
    split
    · simp
    · simp [ins_mem x y r, or_left_comm]
theorem ris_ins (x : Opn) : ∀ {l : List Opn}, Ris l → (∀ y ∈ l, y.f0 ≠ x.f0) → Ris (insO x l)
  | [], _, _ => by simp [insO, Ris]
  | z :: r, h, hn => by
    unfold insO
    have hz := List.pairwise_cons.1 h
    split
    · rename_i hlt
      refine List.pairwise_cons.2 ⟨fun y hy => ?_, h⟩
      rcases List.mem_cons.1 hy with rfl | hy
      · exact hlt
      · have := hz.1 y hy; omega
    · rename_i hlt
      refine List.pairwise_cons.2 ⟨fun y hy => ?_, ris_ins x hz.2 (fun y hy => hn y (List.mem_cons_of_mem _ hy))⟩
      rcases (ins_mem x y r).1 hy with rfl | hy
      · have := hn z (List.mem_cons_self ..); omega
      · exact hz.1 y hy
theorem ris_put {l : List Opn} (h : Ris l) (x : Opn) : Ris (putO l x) := by
  refine ris_ins x (ris_filter h _) (fun y hy => ?_)
  have := (List.mem_filter.1 hy).2
  simpa using this
theorem ris_del {l : List Opn} (h : Ris l) (k : Int) : Ris (delO l k) := ris_filter h _
theorem ris_step {l : List Opn} (h : Ris l) (s kind deal : Int) : Ris (stepO l s kind deal) := by
  unfold stepO
  split
  · exact ris_put h _
  · split
    · exact ris_del h _
    · exact h

theorem intKeys_AM {H : Type} (l : List Opn) : intKeys (AM l : DataW H) = l.map (·.f0) := by
  unfold AM intKeys
  simp
  exact fun _ _ => rfl
theorem size_AM {H : Type} (l : List Opn) : Maps.size (AM l : DataW H) = l.length := by
  unfold AM
  simp [Maps.size]
/-- A permutation of rising numbers, sorted, is these numbers. -/
theorem sort_keys {ss ks : List Int} (hp : ss.Perm ks) (hs : ks.Pairwise (· < ·)) : ss.mergeSort (fun x y => decide (x ≤ y)) = ks := by
  have h1 : (ss.mergeSort (fun x y => decide (x ≤ y))).Perm ks := (List.mergeSort_perm _ _).trans hp
  have h2 : (ss.mergeSort (fun x y => decide (x ≤ y))).Pairwise (fun x y => decide (x ≤ y) = true) :=
    List.pairwise_mergeSort (fun a b c h1 h2 => by simp at *; omega) (fun a b => by simp; omega) ss
  refine h1.eq_of_pairwise (le := fun x y => decide (x ≤ y) = true) (fun a b _ _ h1 h2 => by simp at *; omega) h2 (hs.imp (fun h => by simp; omega))
theorem ris_keys {l : List Opn} (h : Ris l) : (l.map (·.f0)).Pairwise (· < ·) := by
  rw [List.pairwise_map]
  exact h
theorem atKey_AM {H : Type} {l : List Opn} (h : Ris l) {o : Opn} (ho : o ∈ l) (z : DataW H) : (AM l : DataW H).atKey (.int .i64 o.f0) z = .lit (.int .i64 o.f1) := by
  induction l with
  | nil => cases ho
  | cons y r ih =>
    have hz := List.pairwise_cons.1 h
    unfold AM DataW.atKey
    simp only [List.map_cons, List.find?_cons]
    by_cases he : y.f0 = o.f0
    · have : o = y := by
        rcases List.mem_cons.1 ho with rfl | ho
        · rfl
        · have := hz.1 o ho; omega
      subst this
      simp [Lit.sameKey]
    · have hr : o ∈ r := by
        rcases List.mem_cons.1 ho with rfl | ho
        · exact absurd rfl he
        · exact ho
      have := ih hz.2 hr
      unfold AM DataW.atKey at this
      simpa [Lit.sameKey, he] using this
end Go.Proofs.Ytkcckhlchjmkkaa

/-
  LAYER 22: the reference's set and Read, as printed, come to the specification of MarkR (plain: no walk).
-/
import Derived.Test.YtkcckhlchjmkkaaMarkQ
set_option linter.unusedVariables false
set_option linter.unusedSimpArgs false
namespace Go.Proofs.Ytkcckhlchjmkkaa
open Go.RowKit Go.Maps Go.Proofs.YtkcckhlchjmkkaaW.PrintWords Go.Proofs.YtkcckhlchjmkkaaW.PrintMore Go.Proofs.Ytkcckhlchjmkkaa.PMark

theorem Ev.one {α : Type} {g : Nat → Option α} {r : α} (h : ∀ k, g (k + 1) = some r) : Ev g r := Ev.step h (Ev.now r)
theorem rd_opn (D : List Opn) (i : Nat) : rd_T55 D (i : Int) = D.getD i z55 := rfl
/-- The rounds of set. -/
def setG (x : Opn) : List Opn → List Opn → Bool → List Opn
  | [], acc, d => if d = true then acc else acc ++ [x]
  | y :: r, acc, d => if y.f0 ≥ x.f0 ∧ d = false then setG x r (if y.f0 = x.f0 then acc ++ [x] else acc ++ [x] ++ [y]) true else setG x r (if y.f0 = x.f0 then acc else acc ++ [y]) d
theorem set_pure (l : List Opn) (x : Opn) (hl : l.length ≤ 100000000) : ∀ (d i : Nat) (acc : List Opn) (b : Bool), i + d = l.length → acc.length + (if b = true then 0 else 1) ≤ i + 1 → Ev (fun k => gaugerref22_set.l0 k l acc b (i : Int) x.f0 x.f1) (setG x (l.drop i) acc b)
  | 0, i, acc, b, h, ha => by
    refine Ev.one fun k => ?_
    rw [gaugerref22_set.l0, if_neg (by omega), List.drop_eq_nil_of_le (by omega), setG]
    by_cases hb : b = true
    · rw [if_pos hb, if_pos hb]
    · rw [if_neg hb, if_neg hb, if_pos (by omega)]
  | d + 1, i, acc, b, h, ha => by
    have hw : wrap64 ((i : Int) + 1) = ((i + 1 : Nat) : Int) := by unfold wrap64; omega
    rw [getD_drop l i z55 (by omega)]
    refine Ev.step (f := fun k => gaugerref22_set.j1 k l acc b (i : Int) (if (l.getD i z55).f0 ≥ x.f0 then !b else false) x.f0 x.f1) (fun k => ?_) ?_
    · rw [gaugerref22_set.l0, if_pos (by omega), if_pos (by omega), rd_opn]
      split <;> rfl
    · by_cases hc : (l.getD i z55).f0 ≥ x.f0 ∧ b = false
      · rw [setG, if_pos hc, if_pos hc.1, hc.2]
        rw [hc.2] at ha
        simp only [Bool.false_eq_true, if_false] at ha
        by_cases he : (l.getD i z55).f0 = x.f0
        · rw [if_pos he]
          refine Ev.step (fun k => ?_) (set_pure l x hl d (i + 1) (acc ++ [x]) true (by omega) (by simp; omega))
          rw [gaugerref22_set.j1, if_pos (by rfl), if_pos (by omega), Option.bind_some, if_pos (by omega), if_pos (by omega), rd_opn, if_pos he, hw]
        · rw [if_neg he]
          refine Ev.step (fun k => ?_) (set_pure l x hl d (i + 1) (acc ++ [x] ++ [l.getD i z55]) true (by omega) (by simp; omega))
          rw [gaugerref22_set.j1, if_pos (by rfl), if_pos (by omega), Option.bind_some, if_pos (by omega), if_pos (by omega), rd_opn, if_neg he, if_pos (by simp; omega), hw]
      · have hb : (if (l.getD i z55).f0 ≥ x.f0 then !b else false) = false := by
          split
          · rename_i h1
            cases b
            · exact absurd ⟨h1, rfl⟩ hc
            · rfl
          · rfl
        rw [setG, if_neg hc, hb]
        by_cases he : (l.getD i z55).f0 = x.f0
        · rw [if_pos he]
          refine Ev.step (fun k => ?_) (set_pure l x hl d (i + 1) acc b (by omega) (by omega))
          rw [gaugerref22_set.j1, if_neg (by simp), if_pos (by omega), if_pos (by omega), rd_opn, if_pos he, hw]
        · rw [if_neg he]
          refine Ev.step (fun k => ?_) (set_pure l x hl d (i + 1) (acc ++ [l.getD i z55]) b (by omega) (by simp only [List.length_append, List.length_cons, List.length_nil]; omega))
          rw [gaugerref22_set.j1, if_neg (by simp), if_pos (by omega), if_pos (by omega), rd_opn, if_neg he, if_pos (by split at ha <;> omega), hw]
theorem setG_true (x : Opn) : ∀ (l acc : List Opn), setG x l acc true = acc ++ l.filter fun o => !(o.f0 == x.f0)
  | [], acc => by simp [setG]
  | y :: r, acc => by
    rw [setG, if_neg (by simp), setG_true x r]
    by_cases he : y.f0 = x.f0 <;> simp [List.filter_cons, he]
theorem setG_false (x : Opn) : ∀ (l acc : List Opn), Ris l → setG x l acc false = acc ++ putO l x
  | [], acc, _ => by simp [setG, putO, insO]
  | y :: r, acc, h => by
    have hz := List.pairwise_cons.1 h
    have hgt : y.f0 ≥ x.f0 → (r.filter fun o => !(o.f0 == x.f0)) = r := fun hge => List.filter_eq_self.2 (fun o ho => by have := hz.1 o ho; simp; omega)
    by_cases hge : y.f0 ≥ x.f0
    · rw [setG, if_pos ⟨hge, rfl⟩, setG_true, hgt hge]
      by_cases he : y.f0 = x.f0
      · have : putO (y :: r) x = x :: r := by
          unfold putO
          rw [List.filter_cons, if_neg (by simp [he]), hgt hge]
          cases r with
          | nil => rfl
          | cons z r => rw [insO, if_pos (by have := hz.1 z (List.mem_cons_self ..); omega)]
        rw [if_pos he, this]
        simp
      · have : putO (y :: r) x = x :: y :: r := by
          unfold putO
          rw [List.filter_cons, if_pos (by simp [he]), hgt hge, insO, if_pos (by omega)]
        rw [if_neg he, this]
        simp
    · have : putO (y :: r) x = y :: putO r x := by
        unfold putO
        rw [List.filter_cons, if_pos (by simp; omega), insO, if_neg (by omega)]
      rw [setG, if_neg (by simp; omega), if_neg (by omega), setG_false x r _ hz.2, this]
      simp
theorem ev_set (l : List Opn) (a b : Int) (hl : l.length ≤ 100000000) (h : Ris l) : Ev (fun k => gaugerref22_set.f k l a b) (putO l ⟨a, b⟩) := by
  have := set_pure l ⟨a, b⟩ hl l.length 0 [] false (by omega) (by simp)
  rw [List.drop_zero, setG_false _ _ _ h, List.nil_append] at this
  exact this
theorem putO_len (l : List Opn) (x : Opn) : (putO l x).length ≤ l.length + 1 := by
  have hi : ∀ l : List Opn, (insO x l).length = l.length + 1 := by
    intro l
    induction l with
    | nil => rfl
    | cons y r ih => unfold insO; split <;> simp [ih]
  unfold putO
  rw [hi]
  have := List.length_filter_le (fun o : Opn => !(o.f0 == x.f0)) l
  omega
theorem stepO_len (l : List Opn) (s kind deal : Int) : (stepO l s kind deal).length ≤ l.length + 1 := by
  unfold stepO
  split
  · exact putO_len _ _
  · split
    · have := List.length_filter_le (fun o : Opn => !(o.f0 == deal)) l
      unfold delO
      omega
    · omega
end Go.Proofs.Ytkcckhlchjmkkaa

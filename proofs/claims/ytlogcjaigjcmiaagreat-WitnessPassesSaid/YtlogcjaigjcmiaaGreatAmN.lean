/-
  THE ABSTRACT MACHINE: append and copy; all operations that make or write memory, at once: 'wOp_sound'.
-/
import Derived.Test.YtlogcjaigjcmiaaGreatAmM
set_option linter.unusedVariables false
set_option linter.unusedSimpArgs false
namespace Go.Proofs.YtlogcjaigjcmiaaGreat.AM
open Go

section
variable {P : Program} {S : Nat → Prop} {m : Emb} {h : List Blk} {w : World} {ρ : Operand → Value} {ev : AO → AV}

/-- A slice's (a string's) first elements, read. -/
theorem first_sound (r : Rep S m h w) {st : Nat} {a : AV} {cs : List AV} {x : Value} (he : elems h st a = some cs) (hx : VRel S m w a x) (hst : 0 < st) :
    ∃ vs n, LRel S m w cs vs ∧ lenOf a = some n ∧ vs.length = n * st ∧ (Builtin.lenOf x).run P w = .ok n w ∧ ∀ k, k ≤ n → (Builtin.firstCells st k x).run P w = .ok (vs.take (k * st)).toArray w := by
  obtain ⟨vs, h1, h2, h3, h4⟩ := elems_sound r he hx hst
  refine ⟨vs, vs.length / st, h1, h2, (Nat.div_mul_cancel (Nat.dvd_of_mod_eq_zero h3)).symm, ?_⟩
  rcases h4 with ⟨ad, n, c, rfl, h5, h6⟩ | ⟨c, rfl, rfl⟩ | ⟨s, rfl, rfl, rfl⟩
  · have hn : vs.length / st = n := by rw [← h5]; exact Nat.mul_div_cancel _ hst
    rw [hn]
    refine ⟨rfl, fun k hk => ?_⟩
    have hl : (vs.take (k * st)).length = k * st := by
      have : k * st ≤ n * st := Nat.mul_le_mul_right _ hk
      simp; omega
    have := run_loadCells_list (P := P) w ad (vs.take (k * st)) (fun j u hj => h6 j u (by
      rw [List.getElem?_take] at hj
      split at hj
      · exact hj
      · cases hj))
    rw [hl] at this
    exact this
  · simp only [List.length_nil, Nat.zero_div]
    refine ⟨rfl, fun k hk => ?_⟩
    simp [Builtin.firstCells]
  · have hn : (s.data.toList.map fun b => Value.int .u8 b.toNat).length / 1 = s.size := by simp [ByteArray.size_data]
    rw [hn]
    refine ⟨rfl, fun k hk => ?_⟩
    simp only [Builtin.firstCells, Sem.run_pure, Nat.mul_one]
    congr 1
    apply Array.ext'
    simp [ByteArray.data_extract, Array.toList_extract, List.extract, List.map_take]
theorem zeroCells_size (z : Array Value) (n : Nat) : (Builtin.zeroCells z n).size = n * z.size := by simp [Builtin.zeroCells]

/-- What append comes to, by what is there and what comes. -/
theorem append_run {ats : Array TypeId} {ty t u e : TypeId} {sv xv : Value} {base : Option Addr} {sLen sCap n st : Nat} {i : TypeInfo} {zv : Value} {new : List Value} (ht0 : ats[0]? = some t) (hu0 : ats[1]? = some u) (ht : P.underlying t = some (.slice e))
    (hu : (∃ d, P.underlying u = some (.slice d)) ∨ P.underlying u = some .string) (hi : P.info? e = some i) (hsz : i.size = st) (hby : 0 < i.bytes) (hz : i.zero = some zv) (hsv : sv = .slice base sLen sCap) (hn : (Builtin.lenOf xv).run P w = .ok n w) (hnew : (Builtin.firstCells st n xv).run P w = .ok new.toArray w) :
    (sLen + n ≤ sCap → ∀ w', (∀ a, base = some a → (storeCells (a.add (sLen * st)) new).run P w = .ok () w') → (base = none → w' = w) → (Builtin.append_ ats ty #[sv, xv]).run P w = .ok (.slice base (sLen + n) sCap) w') ∧
    (sCap < sLen + n → (sLen + n) * i.bytes ≤ 140737488355328 → ∀ old : List Value, (Builtin.firstCells st sLen sv).run P w.drew = .ok old.toArray w.drew → (Builtin.firstCells st n xv).run P w.drew = .ok new.toArray w.drew → ∃ nc, sLen + n ≤ nc ∧
      (Builtin.append_ ats ty #[sv, xv]).run P w = .ok (.slice (some ⟨w.heap.size, 0, none⟩) (sLen + n) nc) (w.drew.alloc (.cells (old.toArray ++ new.toArray ++ Builtin.zeroCells zv.cells (nc - (sLen + n))) e))) := by
  subst hsv
  have hsr : (sizeOf e).run P w = .ok st w := by simp [sizeOf, info_run hi, hsz]
  have hzu : (underlying u).run P w = .ok (match P.underlying u with | some d => d | none => .invalid) w := by
    rcases hu with ⟨d, hu⟩ | hu <;> simp [und_run hu, hu]
  have a0 : (#[Value.slice base sLen sCap, xv] : Array Value)[0]? = some (.slice base sLen sCap) := rfl
  have a1 : (#[Value.slice base sLen sCap, xv] : Array Value)[1]? = some xv := rfl
  constructor
  · intro hle w' hw' hw0
    unfold Builtin.append_
    simp only [ht0, hu0, a0, a1, Sem.run_bind, und_run ht, Result.andThen_ok, hsr]
    rcases hu with ⟨d, hu⟩ | hu
    all_goals
      simp only [Sem.run_bind, und_run hu, Result.andThen_ok, Sem.run_pure, Bool.false_eq_true, if_false, hn]
      rw [if_pos hle]
      simp only [Sem.run_bind, Bool.not_false, if_true, hnew, Result.andThen_ok]
      cases base with
      | none => rw [hw0 rfl]; rfl
      | some a => simp only [Sem.run_bind, hw' a rfl, Result.andThen_ok, Sem.run_pure]
  · intro hlt hfit old hold hnew'
    have hq : (Question.appendCap (sLen + n) sCap e).forced = false := rfl
    refine ⟨(Question.appendCap (sLen + n) sCap e).cut (w.tape w.drawn (.appendCap (sLen + n) sCap e)), by simp only [Question.cut]; omega, ?_⟩
    have c1 : ¬ (Builtin.nextslicecap (sLen + n) sCap * i.bytes > 2 ^ 48) := by
      have := growslice_fits (bytes := i.bytes) hlt hfit
      omega
    have hzr : ∀ W : World, (zeroValue e).run P W = .ok zv W := fun W => zero_run hi hz
    have hty : ∀ W : World, (typeInfo e).run P W = .ok i W := fun W => info_run hi
    unfold Builtin.append_
    simp only [ht0, hu0, a0, a1, Sem.run_bind, und_run ht, Result.andThen_ok, hsr]
    rcases hu with ⟨d, hu⟩ | hu
    all_goals
      simp only [Sem.run_bind, und_run hu, Result.andThen_ok, Sem.run_pure, Bool.false_eq_true, if_false, hn]
      rw [if_neg (by omega)]
      simp only [Sem.run_bind, hty, Result.andThen_ok, false_or]
      rw [if_neg (by omega)]
      simp only [Sem.run_bind, hty, Result.andThen_ok]
      rw [if_neg c1]
      simp only [Sem.run_bind, run_choose, hq, Bool.false_eq_true, if_false, Result.andThen_ok, hty, run_askRoom]
      have ho : (Builtin.firstCells st sLen (.slice base sLen sCap)).run P { w with drawn := w.drawn + 1 } = .ok old.toArray { w with drawn := w.drawn + 1 } := hold
      have hw2 : (Builtin.firstCells st n xv).run P { w with drawn := w.drawn + 1 } = .ok new.toArray { w with drawn := w.drawn + 1 } := hnew'
      simp only [ho, Bool.not_false, if_true, hw2, Result.andThen_ok, hzr, newRow_run, Sem.run_pure]
      rfl
end
end Go.Proofs.YtlogcjaigjcmiaaGreat.AM

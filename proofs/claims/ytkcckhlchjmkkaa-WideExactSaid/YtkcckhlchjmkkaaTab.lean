/-
  TABLES OF 128 BOOLS: plain lists, no program.
-/
set_option linter.unusedVariables false
set_option linter.unusedSimpArgs false
namespace Go.Proofs.Ytkcckhlchjmkkaa
def tab (f : Nat → Bool) : List Bool := (List.range 128).map f
theorem tab_len (f : Nat → Bool) : (tab f).length = 128 := by simp [tab]
theorem tab_getD (f : Nat → Bool) (i : Nat) (h : i < 128) : (tab f).getD i false = f i := by
  simp [tab, List.getD_eq_getElem?_getD, h]
theorem tab_congr {f g : Nat → Bool} (h : ∀ j, j < 128 → f j = g j) : tab f = tab g := by
  unfold tab
  apply List.map_congr_left
  intro j hj
  exact h j (by simpa using hj)
theorem tab_set (f : Nat → Bool) (i : Nat) (b : Bool) : (tab f).set i b = tab (fun j => if j = i then b else f j) := by
  apply List.ext_getElem
  · simp [tab]
  · intro j h1 h2
    rw [List.getElem_set]
    simp only [tab, List.getElem_map, List.getElem_range]
    by_cases h : i = j
    · subst h; simp
    · rw [if_neg h, if_neg (fun e => h e.symm)]
theorem tab_inj {f g : Nat → Bool} (h : tab f = tab g) (j : Nat) (hj : j < 128) : f j = g j := by
  have := congrArg (fun l => l.getD j false) h
  simp only [tab_getD _ j hj] at this
  exact this
theorem tab_false : tab (fun _ => false) = List.replicate 128 false := by
  apply List.ext_getElem
  · simp [tab]
  · intro i h1 h2
    simp only [tab, List.getElem_map, List.getElem_replicate]
end Go.Proofs.Ytkcckhlchjmkkaa

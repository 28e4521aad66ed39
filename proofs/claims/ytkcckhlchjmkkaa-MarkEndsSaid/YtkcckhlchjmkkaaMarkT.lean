/-
  LAYER 22: kinds and small lemmas for the walks (the types and some walks are PRINTED by the kit's print.py: group PMark).
-/
import Derived.Test.YtkcckhlchjmkkaaPMarkx4
import Derived.Test.YtkcckhlchjmkkaaUtil
import Derived.Lib.Hide
set_option linter.unusedVariables false
set_option linter.unusedSimpArgs false
namespace Go.Proofs.Ytkcckhlchjmkkaa
open Go.RowKit Go.Proofs.YtkcckhlchjmkkaaW.PrintWords

/-- Elements that lead to what lay there at world W0. -/
def ro {α : Type} (W0 : World) (d : Kd α) : Kd α where
  sz := d.sz
  E := []
  K := fun _ x cs => d.K W0 x cs
  M := fun _ _ _ x cs => d.K W0 x cs
  K_len := fun h => d.K_len h
  K_one := fun h => d.K_one h
  K_below := fun _ h => h
  K_of_M := fun h => h
  M_mono := fun _ h => h
  M_bound := fun h => h
  M_move := fun _ h => h
  M_lower := fun _ h => h
theorem ro_C {α : Type} {W0 w : World} {d : Kd α} {A : Option Addr} {n : Nat} {xs : List α} (h : (ro W0 d).C w A n xs) (hb : Below W0.heap.size W0 w) : d.C w A n xs :=
  ReadsRow.imp_ (R := (ro W0 d).K w) h (Below.refl _ _) (fun _ _ hp => d.K_below hb hp)
/-- A row beside another one, of another type of elements, that grew. -/
theorem R_beside {α : Type} {d : Kd α} {e base base' e' s' n' : Nat} {ok : Nat → Prop} {W w1 : World} {v v' : Value} {xs : List α} {ys : List Value} (h : d.R e W base ok v xs) (h' : W.ownsRow base' e' s' v' n' ys) (hg : W.grownBy w1 v'.ownBlock) (ht : ∀ q, q ∈ e :: d.E → q ≠ e') : d.R e w1 base ok v xs := by
  rcases hv : v'.ownBlock with _ | g
  · rw [hv] at hg
    exact Kd.R_grown h hg (by simp)
  · rw [hv] at hg
    obtain ⟨cs, hc⟩ := own_typed h' g hv
    refine Kd.R_mono (Kd.R_grown (Kd.R_types h hc ht) hg ?_) (fun _ hk => hk.1)
    rintro k ⟨_, hk⟩
    simpa using hk
theorem nums_beside {base base' e e' s s' n n' : Nat} {W w1 : World} {v v' : Value} {xs ys : List Value} (h : W.ownsRow base e s v n xs) (h' : W.ownsRow base' e' s' v' n' ys) (hg : W.grownBy w1 v'.ownBlock) (ht : e ≠ e') : w1.ownsRow base e s v n xs :=
  own_other h hg (own_type_ne h h' ht)
/-- An empty literal '[]T{}'. -/
theorem R_empty {α : Type} (d : Kd α) (e : Nat) (W : World) (base : Nat) (hb : base ≤ W.heap.size) : d.R e (W.alloc (.cells #[] e)) base (fun _ => True) (.slice (some ⟨W.heap.size, 0, none⟩) 0 0) [] :=
  ⟨fun _ _ => trivial, [], by
    have h := World.ownsRow_lit (base := base) (e := e) (size := d.sz) W #[] 0 hb (by decide) (by simp)
    simpa using h, Reps.none _ _⟩
theorem own_empty (e : Nat) (k : IntKind) (W : World) (base : Nat) (hb : base ≤ W.heap.size) : (W.alloc (.cells #[] e)).ownsRow base e 1 (.slice (some ⟨W.heap.size, 0, none⟩) 0 0) 0 (nums k []) := by
  have h := own_lit W base e k [] hb (by decide)
  simpa [nums] using h
end Go.Proofs.Ytkcckhlchjmkkaa

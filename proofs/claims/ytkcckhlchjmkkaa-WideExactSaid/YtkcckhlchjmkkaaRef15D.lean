/-
  THE WALKS OF package gaugerref15.
-/
import Derived.Test.YtkcckhlchjmkkaaUtil
import Derived.Test.YtkcckhlchjmkkaaArrW
import Derived.Test.YtkcckhlchjmkkaaRef15C
import Derived.Below
import Derived.WalkKit
import Derived.WalkSpells
import Derived.Laws.Pointers
import Derived.Deep.QuietTactic
import Derived.BigQuiet
import Derived.RowKit3
import Derived.Lib.Hide
import Derived.Outline
set_option linter.unusedVariables false
set_option linter.unusedSimpArgs false
namespace Go.Proofs.Ytkcckhlchjmkkaa
open Go.RowKit Go.Proofs.YtkcckhlchjmkkaaW.PrintWords

/-- From place n - 1 down: -1, 0, 1. -/
def cmpDown (f g : Nat → Bool) : Nat → Int
  | 0 => 0
  | n + 1 => if f n = g n then cmpDown f g n else if g n then -1 else 1
def cmp128 (f g : Nat → Bool) : Int := if f 127 = g 127 then cmpDown f g 127 else if f 127 then -1 else 1

set_option maxRecDepth 100000 in
theorem ref_Compare (f g : Nat → Bool) (w : World) :
    Calls Try.prog 20 #[.agg (bA (tab f)), .agg (bA (tab g))] w fun e w' => e = .returned (.int .i64 (cmp128 f g)) ∧ Below w.heap.size w w' := by
  have hzn := bA_ne (tab_len f)
  have hzn := bA_ne (tab_len g)
  have hb0 := ((Blk.new w f).alloc (Obj.cells (bA (tab g)) 26)).cell 127 (by decide)
  have hb1 := (Blk.new_at (w.alloc (Obj.cells (bA (tab f)) 26)) g (n := w.heap.size + 1) (by simp)).cell 127 (by decide)
  by_cases hne : f 127 = g 127
  · have he : Hid (cmp128 f g = cmpDown f g 127) := if_pos hne
    rw [← hne] at hb1
    generalize f 127 = f127 at hb0 hb1
    clear hne
    go_enter Try.func20, Try.ntmps20
    cases f127
    all_goals
      go_wp2
      go_loopw [5] (fun v wr => ∃ n : Nat, n ≤ 127 ∧ v = .int .i64 ((n : Int) - 1) ∧ Hid (cmp128 f g = cmpDown f g n ∧ Blk wr w.heap.size f ∧ Blk wr (w.heap.size + 1) g ∧ Below w.heap.size w wr)) (fun v _ => (intOf v + 1).toNat)
      case atStart => exact ⟨127, by omega, rfl, he.out, (Blk.new w f).alloc _, Blk.new_at _ g (by simp), below_alloc (below_alloc (Below.refl _ _) _) _⟩
      case round =>
        obtain ⟨n, hk, rfl, hcd, hb1, hb2, hb3⟩ := hrel
        have HE := Lib.hid hcd
        clear hcd he
        cases n with
        | zero =>
          have H3 := Lib.hid hb3
          clear hb1 hb2 hb3
          rw [show (((0 : Nat) : Int) - 1) = -1 from rfl]
          go_wp2
          go_ret
          exact ⟨by rw [HE.out]; rfl, H3.out⟩
        | succ m =>
          have c1 := hb1.cell m (by omega)
          have c2 := hb2.cell m (by omega)
          have H1 := Lib.hid hb1
          have H2 := Lib.hid hb2
          have H3 := Lib.hid hb3
          have hd : cmpDown f g (m + 1) = if f m = g m then cmpDown f g m else if g m then -1 else 1 := rfl
          have HD := Lib.hid hd
          clear hb1 hb2 hb3 hd
          have hm : 0 ≤ (m : Int) := by omega
          have hm' : (m : Int) < 128 := by omega
          rw [show (((m + 1 : Nat) : Int) - 1) = m from by omega]
          cases hx : f m <;> cases hy : g m
          all_goals rw [hx] at c1
          all_goals rw [hy] at c2
          all_goals rw [hx, hy] at HD
          all_goals clear hx hy
          all_goals go_wp2
          all_goals go_quiet (fail)
          all_goals go_wp2
          all_goals first
            | (refine ⟨⟨m, by omega, rfl, HE.out.trans (by rw [HD.out]; simp), H1.out, H2.out, pw_below_drewN H3.out nq⟩, by simp [intOf] <;> omega⟩)
            | (go_ret; exact ⟨by rw [HE.out, HD.out]; simp, pw_below_drewN H3.out nq⟩)
  · have he : Hid (cmp128 f g = if f 127 then -1 else 1) := if_neg hne
    cases hx : f 127 <;> cases hy : g 127
    all_goals rw [hx] at hb0 he hne
    all_goals rw [hy] at hb1 hne
    all_goals clear hx hy
    · exact absurd rfl hne
    · clear hne
      go_enter Try.func20, Try.ntmps20
      go_wp2
      go_ret
      exact ⟨by rw [he.out]; rfl, below_alloc (below_alloc (Below.refl _ _) _) _⟩
    · clear hne
      go_enter Try.func20, Try.ntmps20
      go_wp2
      go_ret
      exact ⟨by rw [he.out]; rfl, below_alloc (below_alloc (Below.refl _ _) _) _⟩
    · exact absurd rfl hne
end Go.Proofs.Ytkcckhlchjmkkaa

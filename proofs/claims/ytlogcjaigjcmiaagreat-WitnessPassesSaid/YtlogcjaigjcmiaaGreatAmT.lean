/-
  THE ABSTRACT MACHINE IS SOUND: what it comes to, Go comes to ('callF_sound').
-/
import Derived.Test.YtlogcjaigjcmiaaGreatAmS
set_option linter.unusedVariables false
set_option linter.unusedSimpArgs false
namespace Go.Proofs.YtlogcjaigjcmiaaGreat.AM
open Go

section
variable {P : Program} {call : CallF}

def exRel : AExit → Exit → Prop
  | .normal, .normal => True
  | .exit i, .exit j => i = j
  | .ret, .ret => True
  | _, _ => False
/-- What a piece of code comes to. -/
def Post (S : Nat → Prop) (m : Emb) (h : List Blk) (w : World) (a : Act) (e : AExit) (s' : St) : Exit → Act → World → Prop := fun ex a' w' =>
  exRel e ex ∧ ∃ S' m', Rep S' m' s'.h w' ∧ TRel S' m' w' s'.t a'.tmps ∧ Stp S m h w S' m' s'.h w' ∧ a'.defers = a.defers
theorem Post.trans {S m h w a e s' S1 m1 h1 w1 a1 ex a' w'} (t : Stp S m h w S1 m1 h1 w1) (hd : a1.defers = a.defers) (hp : Post S1 m1 h1 w1 a1 e s' ex a' w') : Post S m h w a e s' ex a' w' := by
  obtain ⟨h1, S', m', h2, h3, h4, h5⟩ := hp
  exact ⟨h1, S', m', h2, h3, t.trans h4, h5.trans hd⟩

/-- A loop's rounds. -/
theorem loop_rounds {b : Code} {ab : ACode} {N : Nat} (ihb : ∀ (n : Nat) (s : St) (e : AExit) (s' : St), n < N → exec call n ab s = some (e, s') → ∀ (S : Nat → Prop) (m : Emb) (w : World) (a : Act), Rep S m s.h w → TRel S m w s.t a.tmps → b.wp P (Post S m s.h w a e s') a w) :
    ∀ (n : Nat) (s : St) (e : AExit) (s' : St), n ≤ N → exec call n (.loop ab) s = some (e, s') → ∀ (S : Nat → Prop) (m : Emb) (w : World) (a : Act), Rep S m s.h w → TRel S m w s.t a.tmps →
    ∀ bf k cs, ∃ ex a' w', Post S m s.h w a e s' ex a' w' ∧ Arrives P (lone (bf.at a (.code b :: .inLoop b :: k)) cs w) bf k cs ex a' w'
  | 0, _, _, _, _, he => by simp [exec] at he
  | n + 1, s, e, s', hn, he => by
    intro S m w a r ht bf k cs
    rw [exec] at he
    split at he
    · rename_i s1 h1
      obtain ⟨ex, a1, w1, hp, harr⟩ := ihb n s .normal s1 (by omega) h1 S m w a r ht bf (.inLoop b :: k) cs
      obtain ⟨g1, S', m', g2, g3, g4, g5⟩ := hp
      cases ex <;> simp only [exRel] at g1
      obtain ⟨ex2, a2, w2, hp2, harr2⟩ := loop_rounds ihb n s1 e s' (by omega) he S' m' w1 a1 g2 g3 bf k cs
      exact ⟨ex2, a2, w2, Post.trans g4 g5 hp2, .of_steps (Steps.trans harr (.one step_inLoop)) harr2⟩
    · rename_i hne
      obtain ⟨ex, a1, w1, hp, harr⟩ := ihb n s e s' (by omega) he S m w a r ht bf (.inLoop b :: k) cs
      refine ⟨ex, a1, w1, hp, ?_⟩
      have h0 := hp.1
      cases ex with
      | normal =>
        cases e <;> simp only [exRel] at h0
        exact absurd he (hne s')
      | exit id => exact .pass (x := .inLoop b) rfl (fun _ _ => .inl (by simp)) harr
      | goto l => exact .pass (x := .inLoop b) rfl (fun _ _ => .inl (by simp)) harr
      | ret => exact .pass (x := .inLoop b) rfl (fun _ _ => .inl (by simp)) harr
      | panic ch => exact .pass (x := .inLoop b) rfl (fun _ _ => .inl (by simp)) harr
      | outgrown => exact .pass (x := .inLoop b) rfl (fun _ _ => .inl (by simp)) harr
theorem exec_sound (hm : P.follows .mixedOrders = true) (hC : CallOK P call) : ∀ (n : Nat) (c : ACode) (s : St) (e : AExit) (s' : St) (code : Code), compC P code = some c → exec call n c s = some (e, s') →
    ∀ (S : Nat → Prop) (m : Emb) (w : World) (a : Act), Rep S m s.h w → TRel S m w s.t a.tmps → code.wp P (Post S m s.h w a e s') a w
  | 0, _, _, _, _, _, _, he => by simp [exec] at he
  | n + 1, c, s, e, s', code, hc, he => by
    intro S m w a r ht
    cases code with
    | skip => cases hc; cases he; exact wp_skip ⟨trivial, S, m, r, ht, Stp.refl .., rfl⟩
    | label l => cases hc; cases he; exact wp_label ⟨trivial, S, m, r, ht, Stp.refl .., rfl⟩
    | exit id => cases hc; cases he; exact wp_exit ⟨rfl, S, m, r, ht, Stp.refl .., rfl⟩
    | ret => cases hc; cases he; exact wp_ret ⟨trivial, S, m, r, ht, Stp.refl .., rfl⟩
    | region id ops draw =>
      simp only [compC, compReg] at hc
      split at hc
      · cases hc; simp [exec] at he
      rename_i l hl
      cases draw with
      | true =>
        simp only [if_true] at hc
        split at hc
        case isFalse => cases hc; simp [exec] at he
        rename_i hok
        cases hc
        simp only [Bool.and_eq_true] at hok
        obtain ⟨⟨⟨h1, h2⟩, h3⟩, h4⟩ := hok
        simp only [exec, Option.map_eq_some_iff] at he
        obtain ⟨s2, hr, hes⟩ := he
        cases hes
        exact runDraw_sound hC hm hl trivial h1 h2 h3 h4 hr r ht fun S' m' w' a' g1 g2 g3 g4 => ⟨trivial, S', m', g1, g2, g3, g4⟩
      | false =>
        simp only [Bool.false_eq_true, if_false] at hc
        cases hc
        simp only [exec, Option.map_eq_some_iff] at he
        obtain ⟨s2, hr, hes⟩ := he
        cases hes
        refine wp_region ?_
        have := runOps_sound hC (Q := Post S m s.h w a .normal s') ops.toList 0 l s s' S m w a (by simp) hl hr r ht fun S' m' w' a' g1 g2 g3 g4 => ⟨trivial, S', m', g1, g2, g3, g4⟩
        rw [List.range_eq_range']
        simpa using this
    | seq x y =>
      simp only [compC] at hc
      split at hc <;> first | (cases hc; done) | skip
      rename_i ax ay hx hy
      cases hc
      rw [exec] at he
      refine wp_seq ?_
      split at he
      · rename_i s1 h1
        have ihx := exec_sound hm hC n ax s .normal s1 x hx h1 S m w a r ht
        refine wp_mono ihx fun ex a' w' hp => ?_
        obtain ⟨g1, S', m', g2, g3, g4, g5⟩ := hp
        cases ex <;> simp only [exRel] at g1
        exact wp_mono (exec_sound hm hC n ay s1 e s' y hy he S' m' w' a' g2 g3) fun ex2 a2 w2 hp2 => Post.trans g4 g5 hp2
      · rename_i hne
        have ihx := exec_sound hm hC n ax s e s' x hx he S m w a r ht
        refine wp_mono ihx fun ex a' w' hp => ?_
        have h0 := hp.1
        cases ex with
        | normal =>
          cases e <;> simp only [exRel] at h0
          exact absurd he (hne s')
        | _ => exact hp
    | cond o x y =>
      simp only [compC] at hc
      split at hc <;> first | (cases hc; done) | skip
      rename_i ao ax ay ho hx hy
      cases hc
      rw [exec] at he
      have hv := compO_sound ht ho
      split at he
      · rename_i hb
        rw [hb] at hv
        exact wp_cond (vbool hv) (exec_sound hm hC n ax s e s' x hx he S m w a r ht)
      · rename_i hb
        rw [hb] at hv
        exact wp_cond (vbool hv) (exec_sound hm hC n ay s e s' y hy he S m w a r ht)
      · cases he
    | block id b =>
      simp only [compC, Option.map_eq_some_iff] at hc
      obtain ⟨ab, hb, rfl⟩ := hc
      rw [exec] at he
      refine wp_block ?_
      split at he
      · rename_i i s1 h1
        simp only [Option.some.injEq, Prod.mk.injEq] at he
        obtain ⟨he1, he2⟩ := he
        subst he2
        have ih := exec_sound hm hC n ab s (.exit i) s1 b hb h1 S m w a r ht
        refine wp_mono ih fun ex a' w' hp => ?_
        obtain ⟨g1, g⟩ := hp
        cases ex <;> simp only [exRel] at g1
        subst g1
        simp only [Exit.inBlock]
        split
        · rename_i h; rw [if_pos h] at he1; subst he1; exact ⟨trivial, g⟩
        · rename_i h; rw [if_neg h] at he1; subst he1; exact ⟨rfl, g⟩
      · rename_i hne
        have ih := exec_sound hm hC n ab s e s' b hb he S m w a r ht
        refine wp_mono ih fun ex a' w' hp => ?_
        have h0 := hp.1
        cases ex with
        | exit j =>
          cases e <;> simp only [exRel] at h0
          exact absurd he (hne _ _)
        | _ => exact hp
    | loop b =>
      simp only [compC, Option.map_eq_some_iff] at hc
      obtain ⟨ab, hb, rfl⟩ := hc
      intro bf k cs
      obtain ⟨ex, a', w', hp, harr⟩ := loop_rounds (P := P) (b := b) (fun n' s e s' hn' h1 S m w a => exec_sound hm hC n' ab s e s' b hb h1 S m w a) (n + 1) s e s' (Nat.le_refl _) he S m w a r ht bf k cs
      exact ⟨ex, a', w', hp, .of_steps (.one step_loop) harr⟩
    | rangeFunc f ps x y => cases hc; simp [exec] at he
    | scope b => cases hc; simp [exec] at he
    | goto l => cases hc; simp [exec] at he
    | refuse why => cases hc; simp [exec] at he
termination_by n => n
decreasing_by all_goals omega
end
end Go.Proofs.YtlogcjaigjcmiaaGreat.AM

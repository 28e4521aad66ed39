/-
  THE ABSTRACT MACHINE: all operations that make or write memory, at once: 'wOp_sound'.
-/
import Derived.Test.YtlogcjaigjcmiaaGreatAmO
set_option linter.unusedVariables false
set_option linter.unusedSimpArgs false
namespace Go.Proofs.YtlogcjaigjcmiaaGreat.AM
open Go

section
variable {P : Program} {S : Nat → Prop} {m : Emb} {h : List Blk} {w : World} {ρ : Operand → Value} {ev : AO → AV}
theorem w_copy (hE : ∀ x y, compO x = some y → VRel S m w (ev y) (ρ x)) (r : Rep S m h w) {o : Oper} {ao v args ats h' lo} (ho : o.op = .call { callee := .builtin .copy, args, argTypes := ats }) (hc : compOp P o = some ao) (hv : wOp ev h ao = some (v, h', lo)) : WGood P S m h w ρ o v h' := by
  simp only [compOp, ho] at hc
  split at hc
  case h_3 t us s x hb0 hat hl =>
    have hL := compL_sound (l := args.toList) hE hl
    split at hc <;> first | (cases hc; done) | skip
    rename_i e ht
    split at hc <;> first | (cases hc; done) | skip
    rename_i st z b he
    cases hc
    obtain ⟨i, zv, hi, hz, hsz, hby, h3, h4, h5, h6, h7⟩ := elem?_sound he
    have exe : execOp ρ o = (do pure (.value (← Builtin.copy_ ats o.type (args.map ρ)))) := by rw [exe_builtin ho]; rfl
    obtain ⟨dv, r1, h1, hdd, h8⟩ := hL.head
    obtain ⟨xv, r2, h9, hxx, h10⟩ := h8.head
    have hr2 := LRel.nil_r h10
    subst hr2
    subst h9
    have hargs : args.map ρ = #[dv, xv] := by apply Array.ext'; rw [Array.toList_map, h1]
    rw [hargs] at exe
    have hat0 : ats[0]? = some t := by rw [← Array.getElem?_toList, hat]; rfl
    have hsr : (sizeOf e).run P w = .ok st w := by simp [sizeOf, info_run hi, hsz]
    have a0 : (#[dv, xv] : Array Value)[0]? = some dv := rfl
    have a1 : (#[dv, xv] : Array Value)[1]? = some xv := rfl
    simp only [wOp] at hv
    split at hv <;> first | (cases hv; done) | skip
    rename_i n k xs hdl hxl hel
    obtain ⟨new, n', hnl, hln, hnlen, hlo, hfirst⟩ := first_sound (P := P) r hel hxx h4
    rw [hxl] at hln
    cases hln
    have run : ∀ base dCap, dv = .slice base n dCap → ∀ w', (∀ a, base = some a → (storeCells a (new.take (Nat.min k n * st))).run P w = .ok () w') → (base = none → w' = w) →
        (Builtin.copy_ ats o.type #[dv, xv]).run P w = .ok (goInt (Nat.min k n)) w' := by
      intro base dCap g1 w' g2 g3
      subst g1
      unfold Builtin.copy_
      simp only [hat0, a0, a1, Sem.run_bind, und_run ht, Result.andThen_ok, hlo, hsr, hfirst _ (Nat.min_le_left k n)]
      cases base with
      | none => rw [g3 rfl]; rfl
      | some a => simp only [Sem.run_bind, g2 a rfl, Result.andThen_ok, Sem.run_pure]
    have hmin : (if k ≤ n then k else n) = Nat.min k n := by
      show _ = min k n
      rw [Nat.min_def]
    simp only [hmin] at hv
    split at hv <;> first | (cases hv; done) | skip
    · rename_i hs
      cases hv
      rw [hs] at hdd hdl
      cases hdl
      cases hdd
      have hm : Nat.min k 0 = 0 := Nat.min_zero k
      have := run none 0 rfl w (fun a ha => by cases ha) (fun _ => rfl)
      rw [hm] at this
      exact WGood.of exe this .int ⟨r, Stp.refl ..⟩
    · rename_i id st' off len cap ex hs
      split at hv <;> first | (cases hv; done) | skip
      rename_i hst
      subst hst
      rw [hs] at hdd hdl
      cases hdl
      split at hv
      · rename_i h0
        cases hv
        have hnil : new.take (Nat.min k n * st) = [] := by rw [h0]; simp
        rw [hnil, h0] at run
        cases hdd with
        | sl g1 g2 g3 g4 g5 => exact WGood.of exe (run _ _ rfl w (fun a _ => rfl) (fun _ => rfl)) .int ⟨r, Stp.refl ..⟩
        | sle g1 => exact WGood.of exe (run _ _ rfl w (fun a _ => rfl) (fun _ => rfl)) .int ⟨r, Stp.refl ..⟩
      · rename_i h0
        rw [Option.map_eq_some_iff] at hv
        obtain ⟨h2, hw, hv⟩ := hv
        cases hv
        cases hdd with
        | @sl _ _ _ _ _ _ b' d zz rc g1 g2 g3 g4 g5 =>
          obtain ⟨w', k1, k2, k3⟩ := store_sound (P := P) r hw g1 (hnl.take _)
          exact WGood.of exe (run (some ⟨b', d + off, none⟩) rc rfl w' (fun a ha => by cases ha; exact k1) (fun ha => by cases ha)) .int ⟨k2, k3⟩
        | sle g1 => exact absurd (Nat.min_zero k) h0
  all_goals first | contradiction | (cases hc; done)

/-- WHAT MAKES OR WRITES MEMORY, but for calls. -/
theorem wOp_sound (hE : ∀ x y, compO x = some y → VRel S m w (ev y) (ρ x)) (r : Rep S m h w) {o : Oper} {ao v h' lo} (hc : compOp P o = some ao) (hv : wOp ev h ao = some (v, h', lo)) : WGood P S m h w ρ o v h' := by
  cases ho : o.op with
  | alloc t => exact w_alloc r ho hc hv
  | box t x => exact w_box hE r ho hc hv
  | buildSlice t n ps => exact w_buildSl hE r ho hc hv
  | store t a x => exact w_store hE r ho hc hv
  | convert s d x => exact w_s2b hE r ho hc hv
  | makeMap t n => exact w_mkmap r ho hc hv
  | makeSlice t l c => exact w_mksl hE r ho hc hv
  | mapUpdate t a k x => exact w_mapUpd hE r (.inl ho) hc hv
  | insert t a k x => exact w_mapUpd hE r (.inr ho) hc hv
  | call c =>
    obtain ⟨callee, args, ats⟩ := c
    cases callee with
    | builtin b =>
      by_cases h1 : b = .append
      · subst h1; exact w_append hE r ho hc hv
      · by_cases h2 : b = .copy
        · subst h2; exact w_copy hE r ho hc hv
        · by_cases h3 : b = .delete
          · subst h3; exact w_del hE r ho hc hv
          · exfalso
            simp only [compOp, ho] at hc
            split at hc <;> first | (cases hc; done) | contradiction | skip
            · split at hc <;> first | (cases hc; simp [wOp] at hv; done) | (cases hc; done)
            · cases hc; simp [wOp] at hv
            · cases hc; simp [wOp] at hv
    | value f =>
      simp only [compOp, ho] at hc
      split at hc <;> cases hc
      simp [wOp] at hv
    | invoke f n => simp only [compOp, ho] at hc; cases hc
  | move x => exact absurd hv (by simp only [compOp, ho, Option.map_eq_some_iff] at hc; obtain ⟨_, _, rfl⟩ := hc; simp [wOp])
  | assign x => exact absurd hv (by simp only [compOp, ho, Option.map_eq_some_iff] at hc; obtain ⟨_, _, rfl⟩ := hc; simp [wOp])
  | nilCheck x => exact absurd hv (by simp only [compOp, ho, Option.map_eq_some_iff] at hc; obtain ⟨_, _, rfl⟩ := hc; simp [wOp])
  | extract x i => exact absurd hv (by simp only [compOp, ho, Option.map_eq_some_iff] at hc; obtain ⟨_, _, rfl⟩ := hc; simp [wOp])
  | pick c a b => exact absurd hv (by simp only [compOp, ho] at hc; split at hc <;> cases hc; simp [wOp])
  | load t x => exact absurd hv (by simp only [compOp, ho] at hc; split at hc <;> cases hc; simp [wOp])
  | makeFunc f a c => exact absurd hv (by simp only [compOp, ho] at hc; split at hc <;> cases hc; simp [wOp])
  | fieldAddr t x f => exact absurd hv (by simp only [compOp, ho] at hc; split at hc <;> cases hc; simp [wOp])
  | field t x f => exact absurd hv (by simp only [compOp, ho] at hc; split at hc <;> cases hc; simp [wOp])
  | build t ps => exact absurd hv (by simp only [compOp, ho] at hc; split at hc <;> first | (cases hc; done) | skip
                                      split at hc <;> first | (cases hc; done) | skip
                                      rw [Option.map_eq_some_iff] at hc; obtain ⟨_, _, rfl⟩ := hc; simp [wOp])
  | unOp op t x => exact absurd hv (by simp only [compOp, ho] at hc; split at hc <;> first | (cases hc; done) | skip
                                       rw [Option.map_eq_some_iff] at hc; obtain ⟨_, _, rfl⟩ := hc; simp [wOp])
  | lookup t x k ok => exact absurd hv (by simp only [compOp, ho] at hc; split at hc <;> first | (cases hc; done) | skip
                                           split at hc <;> first | (cases hc; done) | skip
                                           rw [Option.map_eq_some_iff] at hc; obtain ⟨_, _, rfl⟩ := hc; simp [wOp])
  | index t x i => exact absurd hv (by simp only [compOp, ho] at hc; split at hc <;> first | (cases hc; done) | (cases hc; simp [wOp]; done) | skip
                                       split at hc <;> first | (cases hc; done) | (cases hc; simp [wOp]; done))
  | indexAddr t x i => exact absurd hv (by simp only [compOp, ho] at hc; split at hc <;> first | (cases hc; done) | skip
                                           all_goals (split at hc <;> first | (cases hc; done) | skip)
                                           all_goals (split at hc <;> first | (cases hc; done) | (cases hc; simp [wOp]; done)))
  | slice t x lo hi mx => exact absurd hv (by simp only [compOp, ho] at hc; split at hc <;> first | (cases hc; done) | skip
                                              split at hc <;> first | (cases hc; done) | (cases hc; simp [wOp]; done) | skip
                                              all_goals (split at hc <;> first | (cases hc; done) | skip)
                                              all_goals (split at hc <;> first | (cases hc; done) | (cases hc; simp [wOp]; done)))
  | binOp op t x y u => exact absurd hv (by
      simp only [compOp, ho, compBin] at hc
      repeat' (split at hc <;> first | (cases hc; done) | (cases hc; simp [wOp]; done) | (rw [Option.map_eq_some_iff] at hc; obtain ⟨_, _, rfl⟩ := hc; simp [wOp]; done) | skip)
      all_goals first | (cases hc; done) | (cases hc; simp [wOp]; done) | (rw [Option.map_eq_some_iff] at hc; obtain ⟨_, _, rfl⟩ := hc; simp [wOp]; done))
  | _ => simp [compOp, ho] at hc
end
end Go.Proofs.YtlogcjaigjcmiaaGreat.AM

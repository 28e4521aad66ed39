/-
  THE ABSTRACT MACHINE: each operation that neither makes nor writes memory (fourth part), and all of them at once.
-/
import Derived.Test.YtlogcjaigjcmiaaGreatAmG
set_option linter.unusedVariables false
set_option linter.unusedSimpArgs false
namespace Go.Proofs.YtlogcjaigjcmiaaGreat.AM
open Go

section
variable {P : Program} {S : Nat → Prop} {m : Emb} {h : List Blk} {w : World} {ρ : Operand → Value} {ev : AO → AV}

/-- An index or a bound that is left out, or a whole number. -/
def Bnd (d : Nat) (o : Option Value) (n : Nat) : Prop := (o = none ∧ n = d) ∨ ∃ k, o = some (.int k (n : Int))
theorem bnd_of (hE : ∀ x y, compO x = some y → VRel S m w (ev y) (ρ x)) {x : Option Operand} {y : Option AO} {d n : Nat} (hc : compOpt x = some y) (hn : optNat d (y.map ev) = some n) : Bnd d (x.map ρ) n ∧ x.isSome = y.isSome := by
  rcases optNat_sound hE hc hn with ⟨rfl, rfl, rfl⟩ | ⟨o, k, rfl, h1, h2⟩
  · exact ⟨.inl ⟨rfl, rfl⟩, rfl⟩
  · exact ⟨.inr ⟨k, by simp [h2]⟩, by simp [h1]⟩
theorem bounds_run {isS : Bool} {len cap l hh mm : Nat} {lo hi mx : Option Value} (hm : Bnd cap mx mm) (hmc : mm ≤ cap) (hmh : mx.isSome = true → hi.isSome = true) (hh_ : Bnd len hi hh) (hhm : hh ≤ mm) (hl : Bnd 0 lo l) (hlh : l ≤ hh) :
    (Instr.sliceBounds isS len cap lo hi mx).run P w = .ok (l, hh, mm) w := by
  unfold Instr.sliceBounds
  rcases hm with ⟨rfl, rfl⟩ | ⟨k1, rfl⟩
  · rcases hh_ with ⟨rfl, rfl⟩ | ⟨k2, rfl⟩
    · rcases hl with ⟨rfl, rfl⟩ | ⟨k3, rfl⟩
      · simp
      · simp [bound_run hlh]
    · rcases hl with ⟨rfl, rfl⟩ | ⟨k3, rfl⟩
      · simp [bound_run hhm]
      · simp [bound_run hhm, bound_run hlh]
  · rcases hh_ with ⟨rfl, rfl⟩ | ⟨k2, rfl⟩
    · exact absurd (hmh rfl) (by simp)
    · rcases hl with ⟨rfl, rfl⟩ | ⟨k3, rfl⟩
      · simp [bound_run hhm, bound_run hmc]
      · simp [bound_run hhm, bound_run hlh, bound_run hmc]

theorem good_mkfn (hE : ∀ x y, compO x = some y → VRel S m w (ev y) (ρ x)) {o : Oper} {ao v f a c} (ho : o.op = .makeFunc f a c) (hc : compOp P o = some ao) (hv : pOp ev h ao = some v) : PGood P S m w ρ o v := by
  simp only [compOp, ho] at hc
  split at hc
  · rename_i a' c' h1 h2
    cases hc
    cases hv
    refine PGood.of (s := Instr.makeFunc f (a.map ρ) (c.map ρ)) (by simp [execOp, ho]) (x := .func f (a.map ρ) (c.map ρ)) rfl ?_
    exact LRel.fn (by simpa using compL_sound (l := a.toList) hE h1) (by simpa using compL_sound (l := c.toList) hE h2)
  · cases hc
theorem good_slice (hE : ∀ x y, compO x = some y → VRel S m w (ev y) (ρ x)) (r : Rep S m h w) {o : Oper} {ao v t x lo hi mx} (ho : o.op = .slice t x lo hi mx) (hc : compOp P o = some ao) (hv : pOp ev h ao = some v) : PGood P S m w ρ o v := by
  simp only [compOp, ho] at hc
  split at hc
  · cases hc
  · rename_i hmh
    have hmh : mx.isSome = true → hi.isSome = true := by
      intro h1
      simp only [h1, Bool.true_and, Bool.not_eq_true] at hmh
      cases hi <;> simp_all
    have exe : execOp ρ o = (do pure (.value (← Instr.sliceAt t (ρ x) (lo.map ρ) (hi.map ρ) (mx.map ρ)))) := by simp only [execOp, ho]
    split at hc
    · rename_i y lo' hi' ht hx hlo hhi hmx
      cases hc
      have hxx := hE _ _ hx
      have hmx0 : mx = none := by cases mx <;> simp [compOpt] at hmx ⊢
      subst hmx0
      simp only [pOp] at hv
      split at hv
      · rename_i s he
        rw [he] at hxx
        rw [Option.bind_eq_some_iff] at hv
        obtain ⟨hh, h1, h2⟩ := hv
        split at h2
        · rename_i hle
          rw [Option.bind_eq_some_iff] at h2
          obtain ⟨l, h3, h4⟩ := h2
          split at h4
          · rename_i hlh
            cases h4
            obtain ⟨q, hq, rfl⟩ := vstr hxx
            have hsz : q.data.toList.length = q.size := by simp [ByteArray.size_data]
            rw [hsz] at h1 hle
            have hb := bounds_run (P := P) (w := w) (isS := false) (cap := q.size) (mm := q.size) (.inl ⟨rfl, rfl⟩) (Nat.le_refl _) (by simp) (bnd_of hE hhi h1).1 hle (bnd_of hE hlo h3).1 hlh
            refine PGood.of exe (x := .string (q.extract l hh)) ?_ (.str ?_)
            · rw [hq]
              simp only [Option.map_none] at hb ⊢
              simp only [Instr.sliceAt, Instr.slice, Sem.run_bind, und_run ht, Result.andThen_ok, Option.isSome_none, Bool.false_eq_true, if_false, hb, Sem.run_pure]
            · simp [ByteArray.data_extract, Array.toList_extract, List.extract, List.drop_take]
          · cases h4
        · cases h2
      · cases hv
    · rename_i e y lo' hi' mx' ht hx hlo hhi hmx
      split at hc
      · rename_i n hn
        split at hc
        · cases hc
        · rename_i hn0
          cases hc
          have hxx := hE _ _ hx
          have hms : mx.isSome = mx'.isSome := by cases mx <;> simp [compOpt] at hmx <;> first | (subst hmx; rfl) | (obtain ⟨_, _, rfl⟩ := hmx; rfl)
          have run : ∀ a len cap l hh mm, ρ x = .slice a len cap → Bnd cap (mx.map ρ) mm → mm ≤ cap → Bnd len (hi.map ρ) hh → hh ≤ mm → Bnd 0 (lo.map ρ) l → l ≤ hh →
              (Instr.sliceAt t (ρ x) (lo.map ρ) (hi.map ρ) (mx.map ρ)).run P w = .ok (.slice (if mm = l then a else a.map (·.add (l * n))) (hh - l) (mm - l)) w := by
            intro a len cap l hh mm h1 h2 h3 h4 h5 h6 h7
            have hb := bounds_run (P := P) (w := w) (isS := true) h2 h3 (by simpa using hmh) h4 h5 h6 h7
            rw [h1]
            simp only [Instr.sliceAt, Instr.slice, Sem.run_bind, und_run ht, Result.andThen_ok, hb, size_run hn, Sem.run_pure]
          simp only [pOp] at hv
          split at hv
          · -- nil
            rename_i he
            rw [he] at hxx
            rw [Option.bind_eq_some_iff] at hv
            obtain ⟨mm, h1, hv⟩ := hv
            rw [Option.bind_eq_some_iff] at hv
            obtain ⟨hh, h2, hv⟩ := hv
            rw [Option.bind_eq_some_iff] at hv
            obtain ⟨l, h3, hv⟩ := hv
            split at hv
            · rename_i hz
              cases hv
              simp only [Bool.and_eq_true, decide_eq_true_eq] at hz
              obtain ⟨⟨rfl, rfl⟩, rfl⟩ := hz
              generalize hxv : ρ x = xv at hxx
              cases hxx
              exact PGood.of exe (run _ _ _ 0 0 0 hxv (bnd_of hE hmx h1).1 (Nat.le_refl _) (bnd_of hE hhi h2).1 (Nat.le_refl _) (bnd_of hE hlo h3).1 (Nat.le_refl _)) .nils
            · cases hv
          · rename_i id st' off len cap ex he
            rw [he] at hxx
            split at hv
            · rename_i hst
              subst hst
              rw [Option.bind_eq_some_iff] at hv
              obtain ⟨mm, h1, hv⟩ := hv
              split at hv <;> first | (cases hv; done) | skip
              rename_i hmc
              rw [Option.bind_eq_some_iff] at hv
              obtain ⟨hh, h2, hv⟩ := hv
              split at hv <;> first | (cases hv; done) | skip
              rename_i hhm
              rw [Option.bind_eq_some_iff] at hv
              obtain ⟨l, h3, hv⟩ := hv
              split at hv <;> first | (cases hv; done) | skip
              rename_i hlh
              -- the world's own bound
              have hB := bnd_of hE hmx h1
              generalize hxv : ρ x = xv at hxx
              cases hxx with
              | @sl _ _ _ _ _ _ b d z rc g1 g2 g3 g4 g5 =>
                obtain ⟨mr, hmr, hmrc, hmm, hmex⟩ : ∃ mr, Bnd rc (mx.map ρ) mr ∧ mr ≤ rc ∧ mm ≤ mr ∧ (ex = true ∨ mx'.isSome = true → mr = mm) := by
                  rcases hB.1 with ⟨g6, rfl⟩ | ⟨k, g6⟩
                  · refine ⟨rc, .inl ⟨g6, rfl⟩, Nat.le_refl _, g3, ?_⟩
                    rintro (h7 | h7)
                    · exact g2 h7
                    · rw [← hms] at h7; simp at g6; rw [g6] at h7; cases h7
                  · exact ⟨mm, .inr ⟨k, g6⟩, Nat.le_trans hmc g3, Nat.le_refl _, fun _ => rfl⟩
                have hrun := run _ _ _ l hh mr hxv hmr hmrc (bnd_of hE hhi h2).1 (Nat.le_trans hhm hmm) (bnd_of hE hlo h3).1 hlh
                by_cases hml : mr = l
                · rw [if_pos hml, hml] at hrun
                  have e1 : hh - l = 0 := by omega
                  have e2 : mm - l = 0 := by omega
                  rw [e1, Nat.sub_self] at hrun
                  rw [e1, e2] at hv
                  split at hv
                  · cases hv; exact PGood.of exe hrun (.ro0 fun _ => rfl)
                  · cases hv; exact PGood.of exe hrun (.sle fun _ => rfl)
                · rw [if_neg hml] at hrun
                  simp only [Option.map_some, add_mk] at hrun
                  have hlm : l < mr := by omega
                  split at hv
                  · rename_i hz
                    simp only [Bool.and_eq_true, beq_iff_eq] at hz
                    have := hmex (.inr hz.1.1)
                    omega
                  · cases hv
                    refine PGood.of exe hrun ?_
                    rw [Nat.add_assoc]
                    refine .sl g1 ?_ (by omega) (by omega) ?_
                    · intro h7
                      rw [Bool.or_eq_true] at h7
                      rw [hmex h7]
                    · have : l * n + (mr - l) * n = mr * n := by rw [← Nat.add_mul]; congr 1; omega
                      have : mr * n ≤ rc * n := Nat.mul_le_mul_right _ hmrc
                      omega
              | @sle _ _ _ _ a g1 =>
                have e0 : mm = 0 := by omega
                subst e0
                have e1 : hh = 0 := by omega
                subst e1
                have e2 : l = 0 := by omega
                subst e2
                have hrun := run _ _ _ 0 0 0 hxv hB.1 (Nat.le_refl _) (bnd_of hE hhi h2).1 (Nat.le_refl _) (bnd_of hE hlo h3).1 (Nat.le_refl _)
                rw [if_pos rfl] at hrun
                split at hv
                · cases hv; exact PGood.of exe hrun (.ro0 fun _ => rfl)
                · rename_i hz
                  cases hv
                  refine PGood.of exe hrun (.sle fun h7 => ?_)
                  rw [Bool.or_eq_true] at h7
                  rcases h7 with h7 | h7
                  · exact g1 h7
                  · cases ex
                    · simp [h7] at hz
                    · exact g1 rfl
            · cases hv
          · rename_i es st' ex he
            rw [he] at hxx
            split at hv
            · rename_i hst
              subst hst
              rw [Option.bind_eq_some_iff] at hv
              obtain ⟨hh, h2, hv⟩ := hv
              split at hv <;> first | (cases hv; done) | skip
              rename_i hhm
              rw [Option.bind_eq_some_iff] at hv
              obtain ⟨ex', h1, hv⟩ := hv
              rw [Option.bind_eq_some_iff] at hv
              obtain ⟨l, h3, hv⟩ := hv
              split at hv <;> first | (cases hv; done) | skip
              rename_i hlh
              cases hv
              have hex : ∀ rc, (ex = true → rc = es.length) → es.length ≤ rc → ∃ mr, Bnd rc (mx.map ρ) mr ∧ mr ≤ rc ∧ hh ≤ mr ∧ (ex' = true → mr = hh) := by
                intro rc g1 g2
                cases hmx' : mx' with
                | none =>
                  rw [hmx'] at h1 hms
                  simp only [Option.map_none, Option.some.injEq] at h1
                  have : mx = none := by cases mx <;> simp_all
                  subst this
                  refine ⟨rc, .inl ⟨rfl, rfl⟩, Nat.le_refl _, by omega, fun h7 => ?_⟩
                  rw [h7] at h1
                  simp only [Bool.and_eq_true, beq_iff_eq] at h1
                  rw [g1 h1.1, h1.2]
                | some y' =>
                  rw [hmx'] at h1 hmx
                  simp only [Option.map_some, Option.bind_eq_some_iff] at h1
                  obtain ⟨mm, h8, h9⟩ := h1
                  split at h9 <;> first | (cases h9; done) | skip
                  rename_i hm
                  subst hm
                  exact ⟨mm, (bnd_of (d := 0) hE hmx (by simpa [optNat] using h8)).1.imp (fun ⟨g, _⟩ => by cases mx <;> simp_all [compOpt]) id, by omega, Nat.le_refl _, fun _ => rfl⟩
              generalize hxv : ρ x = xv at hxx
              cases hxx with
              | @ro _ _ _ b d rc f hS hcc hl hr hx' hn' =>
                obtain ⟨mr, hmr, hmrc, hmm, hmex⟩ := hex rc hx' hn'
                have hrun := run _ _ _ l hh mr hxv hmr hmrc (bnd_of hE hhi h2).1 hmm (bnd_of hE hlo h3).1 hlh
                by_cases hml : mr = l
                · rw [if_pos hml, hml] at hrun
                  have e1 : hh = l := by omega
                  subst e1
                  rw [Nat.sub_self] at hrun
                  have : (es.take hh).drop hh = [] := by simp
                  rw [this]
                  exact PGood.of exe hrun (.ro0 fun _ => rfl)
                · rw [if_neg hml] at hrun
                  simp only [Option.map_some, add_mk] at hrun
                  refine PGood.of exe hrun ?_
                  have hlen : ((es.take hh).drop l).length = hh - l := by simp; omega
                  have hget : ∀ i, i < hh - l → ((es.take hh).drop l).getD i .dead = es.getD (l + i) .dead := by
                    intro i hi
                    simp only [List.getD_eq_getElem?_getD, List.getElem?_drop, List.getElem?_take, show l + i < hh by omega, if_true]
                  rw [← hlen]
                  refine .ro (fun i j => f (l + i) j) hS ?_ ?_ ?_ ?_ ?_
                  · intro i j hi hj
                    rw [hlen] at hi
                    rw [show d + l * n + (i * n + j) = d + ((l + i) * n + j) by rw [Nat.add_mul]; omega]
                    exact hcc _ _ (by omega) hj
                  · intro i hi
                    rw [hlen] at hi
                    rw [hget i hi]; exact hl _ (by omega)
                  · intro i j hi hj
                    rw [hlen] at hi
                    rw [hget i hi]; exact hr _ _ (by omega) hj
                  · intro h7; rw [hlen, hmex h7]
                  · rw [hlen]; omega
              | @ro0 _ _ a rc hx' =>
                have e1 : hh = 0 := by simpa using hhm
                subst e1
                have e2 : l = 0 := by omega
                subst e2
                obtain ⟨mr, hmr, hmrc, hmm, hmex⟩ := hex rc (fun h7 => by simpa using hx' h7) (by simp)
                have hrun := run _ _ _ 0 0 mr hxv hmr hmrc (bnd_of hE hhi h2).1 hmm (bnd_of hE hlo h3).1 hlh
                have : (([] : List AV).take 0).drop 0 = [] := rfl
                refine PGood.of exe hrun ?_
                exact .ro0 fun h7 => by rw [hmex h7]
            · cases hv
          · cases hv
      · cases hc
    · rename_i n e y lo' hi' mx' ht hx hlo hhi hmx
      split at hc
      · rename_i st hn
        split at hc
        · cases hc
        · rename_i hn0
          cases hc
          have hxx := hE _ _ hx
          simp only [pOp] at hv
          split at hv
          · rename_i id off he
            rw [he] at hxx
            split at hv <;> first | (cases hv; done) | skip
            rename_i hbk
            rw [Option.bind_eq_some_iff] at hv
            obtain ⟨mm, h1, hv⟩ := hv
            split at hv <;> first | (cases hv; done) | skip
            rename_i hmc
            rw [Option.bind_eq_some_iff] at hv
            obtain ⟨hh, h2, hv⟩ := hv
            split at hv <;> first | (cases hv; done) | skip
            rename_i hhm
            rw [Option.bind_eq_some_iff] at hv
            obtain ⟨l, h3, hv⟩ := hv
            split at hv <;> first | (cases hv; done) | skip
            rename_i hlh
            cases hv
            have hb := bounds_run (P := P) (w := w) (isS := false) (bnd_of hE hmx h1).1 hmc (by simpa using hmh) (bnd_of hE hhi h2).1 hhm (bnd_of hE hlo h3).1 hlh
            generalize hxv : ρ x = xv at hxx
            cases hxx with
            | @ptr _ _ b d z g1 =>
              have hrun : (Instr.sliceAt t (ρ x) (lo.map ρ) (hi.map ρ) (mx.map ρ)).run P w = .ok (.slice (some (if mm = l then ⟨b, d + off, none⟩ else (⟨b, d + off, none⟩ : Addr).add (l * st))) (hh - l) (mm - l)) w := by
                rw [hxv]
                simp only [Instr.sliceAt, Instr.sureAddr, Sem.run_bind, und_run ht, Result.andThen_ok, hb, size_run hn, Sem.run_pure]
              refine PGood.of (by rw [exe, hxv]) (by rw [← hxv]; exact hrun) ?_
              by_cases hml : mm = l
              · subst hml
                have e1 : hh - mm = 0 := by omega
                rw [if_pos rfl, e1, Nat.sub_self]
                exact .sle fun _ => rfl
              · rw [if_neg hml, add_mk, Nat.add_assoc]
                have hz : off + n * st + d ≤ z := by
                  unfold hasRow at hbk
                  split at hbk
                  · rename_i cs hcs
                    obtain ⟨b', d', t', fz, c, k1, k2, k3, _⟩ := r.blk _ _ hcs
                    rw [g1] at k1
                    cases k1
                    have := of_decide_eq_true hbk
                    omega
                  · cases hbk
                refine .sl g1 (fun _ => rfl) (Nat.le_refl _) (by omega) ?_
                have : l * st + (mm - l) * st = mm * st := by rw [← Nat.add_mul]; congr 1; omega
                have : mm * st ≤ n * st := Nat.mul_le_mul_right _ hmc
                omega
          · cases hv
      · cases hc
    · cases hc
end
end Go.Proofs.YtlogcjaigjcmiaaGreat.AM

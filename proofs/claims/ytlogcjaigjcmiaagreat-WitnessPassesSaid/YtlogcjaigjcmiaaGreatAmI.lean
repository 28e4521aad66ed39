/-
  THE ABSTRACT MACHINE: each operation that neither makes nor writes memory (last part), and all of them at once ('pOp_sound').
-/
import Derived.Test.YtlogcjaigjcmiaaGreatAmH
set_option linter.unusedVariables false
set_option linter.unusedSimpArgs false
namespace Go.Proofs.YtlogcjaigjcmiaaGreat.AM
open Go

section
variable {P : Program} {S : Nat → Prop} {m : Emb} {h : List Blk} {w : World} {ρ : Operand → Value} {ev : AO → AV}

theorem part?_sound {t f fd n} (hp : part? P t f = some (fd, n)) : ∃ fs, P.underlying t = some (.struct fs) ∧ fs[f]? = some fd ∧ var? P fd.type = some n := by
  unfold part? at hp
  split at hp
  · rename_i fs ht
    split at hp
    · rename_i f' hf
      rw [Option.map_eq_some_iff] at hp
      obtain ⟨n', h1, h2⟩ := hp
      cases h2
      exact ⟨fs, ht, hf, h1⟩
    · cases hp
  · cases hp
theorem good_fieldAddr (hE : ∀ x y, compO x = some y → VRel S m w (ev y) (ρ x)) {o : Oper} {ao v t x f} (ho : o.op = .fieldAddr t x f) (hc : compOp P o = some ao) (hv : pOp ev h ao = some v) : PGood P S m w ρ o v := by
  simp only [compOp, ho] at hc
  split at hc
  · rename_i fd n y hp hx
    cases hc
    obtain ⟨fs, ht, hf, hn⟩ := part?_sound hp
    have hxx := hE _ _ hx
    have hz : (sizeOf fd.type).run P w = .ok (cellsN n) w := size_run (var?_size hn).1
    have hpos := (var?_size hn).2
    have run : ∀ a, ρ x = .pointer (some a) → (Instr.fieldAt t (ρ x) f).run P w = .ok (.pointer (some (a.add fd.offset))) w := by
      intro a ha
      rw [ha]
      simp [Instr.fieldAt, und_run ht, hf, Instr.sureAddr, fieldPlace, hz, show ¬ cellsN n = 0 by omega]
    have exe : execOp ρ o = (do pure (.value (← Instr.fieldAt t (ρ x) f))) := by simp only [execOp, ho]
    simp only [pOp] at hv
    split at hv
    · rename_i id off he
      cases hv
      rw [he] at hxx
      generalize hxv : ρ x = xv at hxx
      cases hxx with
      | ptr g =>
        have := run _ hxv
        rw [add_mk, Nat.add_assoc] at this
        exact PGood.of exe this (.ptr g)
    · rename_i es st i off he
      cases hv
      rw [he] at hxx
      generalize hxv : ρ x = xv at hxx
      cases hxx with
      | rop f hS hc hl hr =>
        have := run _ hxv
        rw [add_mk, Nat.add_assoc, Nat.add_assoc] at this
        exact PGood.of exe this (.rop f hS hc hl hr)
    · cases hv
  · cases hc
theorem good_field (hE : ∀ x y, compO x = some y → VRel S m w (ev y) (ρ x)) {o : Oper} {ao v t x f} (ho : o.op = .field t x f) (hc : compOp P o = some ao) (hv : pOp ev h ao = some v) : PGood P S m w ρ o v := by
  simp only [compOp, ho] at hc
  split at hc
  · rename_i fd n y hp hx
    cases hc
    obtain ⟨fs, ht, hf, hn⟩ := part?_sound hp
    have hxx := hE _ _ hx
    simp only [pOp] at hv
    split at hv
    · rename_i cs he
      rw [he] at hxx
      split at hv <;> first | (cases hv; done) | skip
      rename_i hle
      obtain ⟨vs, h1, h2⟩ := hxx.agg_inv
      have hl : fd.offset + cellsN n ≤ vs.size := by have := h2.1; simp at this; omega
      refine PGood.of (s := Instr.field t (ρ x) f) (by simp only [execOp, ho]) ?_ (asVar_sound hv ((h2.drop fd.offset).take (cellsN n)))
      rw [h1]
      simp [Instr.field, und_run ht, hf, asAgg, part_sound hn hl]
    · cases hv
  · cases hc
theorem good_idxAddr (hE : ∀ x y, compO x = some y → VRel S m w (ev y) (ρ x)) {o : Oper} {ao v t x i} (ho : o.op = .indexAddr t x i) (hc : compOp P o = some ao) (hv : pOp ev h ao = some v) : PGood P S m w ρ o v := by
  simp only [compOp, ho] at hc
  have exe : execOp ρ o = (do pure (.value (← Instr.indexAt t (ρ x) (ρ i)))) := by simp only [execOp, ho]
  split at hc
  · rename_i e y j ht hx hi
    split at hc
    · rename_i n hn
      split at hc
      · cases hc
      · rename_i hn0
        cases hc
        have hxx := hE _ _ hx
        have hii := hE _ _ hi
        have run : ∀ a len cap k z, ρ x = .slice (some a) len cap → ρ i = .int k z → 0 ≤ z → z < (len : Int) → (Instr.indexAt t (ρ x) (ρ i)).run P w = .ok (.pointer (some (a.add (z.toNat * n)))) w := by
          intro a len cap k z h1 h2 h3 h4
          rw [h1, h2]
          simp only [Instr.indexAt, asIntOf, Sem.run_bind, Sem.run_pure, und_run ht, Result.andThen_ok]
          have hc : 0 ≤ z ∧ z < (len : Int) := ⟨h3, h4⟩
          simp [hc, size_run hn, und_run ht]
        simp only [pOp] at hv
        split at hv
        · rename_i id st' off len cap ex k z he hk
          rw [he] at hxx
          rw [hk] at hii
          split at hv <;> first | (cases hv; done) | skip
          rename_i hcond
          simp only [Bool.and_eq_true, decide_eq_true_eq] at hcond
          obtain ⟨⟨hst, h0⟩, hlt⟩ := hcond
          cases hv
          generalize hxv : ρ x = xv at hxx
          cases hxx with
          | sl g1 g2 g3 g4 g5 =>
            have := run _ _ _ _ _ hxv (vint hii) h0 hlt
            rw [add_mk, Nat.add_assoc] at this
            exact PGood.of exe this (.ptr g1)
          | sle g1 => omega
        · rename_i es st' ex k z he hk
          rw [he] at hxx
          rw [hk] at hii
          split at hv <;> first | (cases hv; done) | skip
          rename_i hcond
          simp only [Bool.and_eq_true, decide_eq_true_eq] at hcond
          obtain ⟨⟨hst, h0⟩, hlt⟩ := hcond
          subst hst
          cases hv
          generalize hxv : ρ x = xv at hxx
          cases hxx with
          | ro f hS hcc hl hr hx' hn' =>
            have := run _ _ _ _ _ hxv (vint hii) h0 hlt
            rw [add_mk] at this
            exact PGood.of exe this (.rop f hS hcc hl hr)
          | ro0 hx' => simp at hlt; omega
        · cases hv
    · cases hc
  · rename_i len e y j ht hx hi
    split at hc
    · rename_i n hn
      split at hc
      · cases hc
      · rename_i hn0
        cases hc
        have hxx := hE _ _ hx
        have hii := hE _ _ hi
        have run : ∀ a k z, ρ x = .pointer (some a) → ρ i = .int k z → 0 ≤ z → z < (len : Int) → (Instr.indexAt t (ρ x) (ρ i)).run P w = .ok (.pointer (some (a.add (z.toNat * n)))) w := by
          intro a k z h1 h2 h3 h4
          rw [h1, h2]
          simp only [Instr.indexAt, asIntOf, Sem.run_bind, Sem.run_pure, und_run ht, Result.andThen_ok, Instr.sureAddr]
          have hc : 0 ≤ z ∧ z < (len : Int) := ⟨h3, h4⟩
          simp [hc, size_run hn, und_run ht]
        simp only [pOp] at hv
        split at hv
        · rename_i id off k z he hk
          rw [he] at hxx
          rw [hk] at hii
          split at hv <;> first | (cases hv; done) | skip
          rename_i hcond
          simp only [Bool.and_eq_true, decide_eq_true_eq] at hcond
          cases hv
          generalize hxv : ρ x = xv at hxx
          cases hxx with
          | ptr g =>
            have := run _ _ _ hxv (vint hii) hcond.1 hcond.2
            rw [add_mk, Nat.add_assoc] at this
            exact PGood.of exe this (.ptr g)
        · rename_i es s j' off k z he hk
          rw [he] at hxx
          rw [hk] at hii
          split at hv <;> first | (cases hv; done) | skip
          rename_i hcond
          simp only [Bool.and_eq_true, decide_eq_true_eq] at hcond
          cases hv
          generalize hxv : ρ x = xv at hxx
          cases hxx with
          | rop f hS hcc hl hr =>
            have := run _ _ _ hxv (vint hii) hcond.1 hcond.2
            rw [add_mk, Nat.add_assoc, Nat.add_assoc] at this
            exact PGood.of exe this (.rop f hS hcc hl hr)
        · cases hv
    · cases hc
  · cases hc
theorem good_index (hE : ∀ x y, compO x = some y → VRel S m w (ev y) (ρ x)) {o : Oper} {ao v t x i} (ho : o.op = .index t x i) (hc : compOp P o = some ao) (hv : pOp ev h ao = some v) : PGood P S m w ρ o v := by
  simp only [compOp, ho] at hc
  have exe : execOp ρ o = (do pure (.value (← Instr.index t (ρ x) (ρ i)))) := by simp only [execOp, ho]
  split at hc
  · rename_i y j ht hx hi
    cases hc
    have hxx := hE _ _ hx
    have hii := hE _ _ hi
    simp only [pOp] at hv
    split at hv
    · rename_i l k z he hk
      rw [he] at hxx
      rw [hk] at hii
      split at hv <;> first | (cases hv; done) | skip
      rename_i h0
      rw [Option.map_eq_some_iff] at hv
      obtain ⟨b, h1, rfl⟩ := hv
      obtain ⟨s, h2, rfl⟩ := vstr hxx
      refine PGood.of exe (x := .int .u8 b.toNat) ?_ .int
      have hb : s[z.toNat]? = some b := by
        obtain ⟨hlt, h3⟩ := List.getElem?_eq_some_iff.1 h1
        have hlt' : z.toNat < s.size := by simpa [ByteArray.size_data] using hlt
        rw [getElem?_pos s z.toNat hlt']
        congr 1
      rw [h2, vint hii]
      simp [Instr.index, asIntOf, und_run ht, h0, hb]
    · cases hv
  · rename_i len e y j ht hx hi
    split at hc
    · rename_i st n hst hn
      cases hc
      have hxx := hE _ _ hx
      have hii := hE _ _ hi
      simp only [pOp] at hv
      split at hv
      · rename_i cs k z he hk
        rw [he] at hxx
        rw [hk] at hii
        split at hv <;> first | (cases hv; done) | skip
        rename_i hcond
        simp only [Bool.and_eq_true, decide_eq_true_eq] at hcond
        obtain ⟨⟨h0, hlt⟩, hle⟩ := hcond
        obtain ⟨vs, h1, h2⟩ := hxx.agg_inv
        have hl : z.toNat * st + cellsN n ≤ vs.size := by have := h2.1; simp at this; omega
        refine PGood.of exe ?_ (asVar_sound hv ((h2.drop (z.toNat * st)).take (cellsN n)))
        rw [h1, vint hii]
        have hc : 0 ≤ z ∧ z < (len : Int) := ⟨h0, hlt⟩
        simp [Instr.index, asIntOf, und_run ht, hc, size_run hst, part_sound hn hl]
      · cases hv
    · cases hc
  · cases hc
theorem checkKey_run {e kt kk x} {k : AV} (hk : scalar? P kt = some kk) (hkey : isKey kk k = true) (hx : VRel S m w k x) : (Instr.checkKey e 10000 kt x).run P w = .ok () w := by
  have hd : ∃ d, P.underlying kt = some d := by unfold scalar? at hk; split at hk <;> first | exact ⟨_, by assumption⟩ | cases hk
  obtain ⟨d, hd⟩ := hd
  rw [show (10000 : Nat) = 9999 + 1 from rfl, Instr.checkKey]
  simp only [Sem.run_bind, und_run hd, Result.andThen_ok]
  rcases scalar_desc hk hd with ⟨rfl, rfl⟩ | ⟨rfl, k', rfl⟩ | ⟨rfl, rfl⟩
  · cases k <;> simp [isKey] at hkey
    rw [vbool hx]; rfl
  · cases k <;> simp [isKey] at hkey
    rw [vint hx]; rfl
  · cases k <;> simp [isKey] at hkey
    obtain ⟨s, rfl, _⟩ := vstr hx; rfl
theorem good_lookup (hE : ∀ x y, compO x = some y → VRel S m w (ev y) (ρ x)) (r : Rep S m h w) {o : Oper} {ao v t x k ok} (ho : o.op = .lookup t x k ok) (hc : compOp P o = some ao) (hv : pOp ev h ao = some v) : PGood P S m w ρ o v := by
  simp only [compOp, ho] at hc
  have exe : execOp ρ o = (do pure (.value (← Instr.lookup t (ρ x) (ρ k) ok))) := by simp only [execOp, ho]
  split at hc
  · rename_i kt e y j ht hx hi
    split at hc
    · rename_i kk z hkk hz
      rw [Option.map_eq_some_iff] at hc
      obtain ⟨za, hza, rfl⟩ := hc
      have hxx := hE _ _ hx
      have hii := hE _ _ hi
      have hzr : (zeroValue e).run P w = .ok z w := by
        rw [Option.bind_eq_some_iff] at hz
        obtain ⟨i, h1, h2⟩ := hz
        simp [zeroValue, info_run h1, h2]
      have hzv : VRel S m w za z := ofV_sound hza
      simp only [pOp, Option.map_eq_some_iff] at hv
      obtain ⟨res, hres, hv⟩ := hv
      split at hres <;> first | (cases hres; done) | skip
      rename_i hkey
      have hck : ∀ b, (Instr.checkKey b 10000 kt (ρ k)).run P w = .ok () w := fun b => checkKey_run hkk hkey hii
      have hd : ∃ d, P.underlying kt = some d := by unfold scalar? at hkk; split at hkk <;> first | exact ⟨_, by assumption⟩ | cases hkk
      obtain ⟨d, hd⟩ := hd
      split at hres
      · rename_i he
        cases hres
        cases hv
        rw [he] at hxx
        have hxv : ρ x = .map none := by generalize ρ x = xv at hxx; cases hxx; rfl
        have hf : (Instr.findKey kt (ρ k) []).run P w = .ok none w := by simp [Instr.findKey, und_run hd, Instr.findNow]
        refine PGood.of exe (x := if ok then .tuple #[z, .bool false] else z) ?_ ?_
        · rw [hxv]
          simp only [Instr.lookup, Sem.run_bind, und_run ht, Sem.run_pure, Result.andThen_ok, hck, hf, hzr]
        · cases ok
          · exact hzv
          · exact LRel.tup (LRel.cons hzv (LRel.cons .bool LRel.nil))
      · rename_i id he
        split at hres <;> first | (cases hres; done) | skip
        rename_i es hes
        rw [he] at hxx
        obtain ⟨b, ck, en, g1, g2, g3, g4, g5⟩ := r.blk _ _ hes
        have hxv : ρ x = .map (some b) := by
          generalize ρ x = xv at hxx
          cases hxx with
          | map g => rw [g1] at g; cases g; rfl
        have hobj : (getObj b).run P w = .ok (.map en ck) w := by simp [getObj, Sem.run, g2]
        have hfk := findK_sound hd hkk hii hkey es en.toList 0 res hres g3 g4
        cases res with
        | none =>
          have hf : (Instr.findKey kt (ρ k) en.toList).run P w = .ok none w := by simp [Instr.findKey, und_run hd, hfk]
          cases hv
          refine PGood.of exe (x := if ok then .tuple #[z, .bool false] else z) ?_ ?_
          · rw [hxv]
            simp only [Instr.lookup, Sem.run_bind, und_run ht, Sem.run_pure, Result.andThen_ok, hck, hf, hzr, hobj]
          · cases ok
            · exact hzv
            · exact LRel.tup (LRel.cons hzv (LRel.cons .bool LRel.nil))
        | some jv =>
          obtain ⟨j', va⟩ := jv
          obtain ⟨_, e', ev', k1, k2, k3, k4, k5⟩ := hfk
          have hf : (Instr.findKey kt (ρ k) en.toList).run P w = .ok (some (j', e'.val)) w := by simp [Instr.findKey, und_run hd, k4]
          cases hv
          refine PGood.of exe (x := if ok then .tuple #[e'.val, .bool true] else e'.val) ?_ ?_
          · rw [hxv]
            simp only [Instr.lookup, Sem.run_bind, und_run ht, Sem.run_pure, Result.andThen_ok, hck, hf, hzr, hobj]
          · cases ok
            · exact k5
            · exact LRel.tup (LRel.cons k5 (LRel.cons .bool LRel.nil))
      · cases hres
    · cases hc
  · cases hc
theorem good_extract (hE : ∀ x y, compO x = some y → VRel S m w (ev y) (ρ x)) {o : Oper} {ao v x i} (ho : o.op = .extract x i) (hc : compOp P o = some ao) (hv : pOp ev h ao = some v) : PGood P S m w ρ o v := by
  simp only [compOp, ho, Option.map_eq_some_iff] at hc
  obtain ⟨y, hx, rfl⟩ := hc
  have hxx := hE _ _ hx
  simp only [pOp] at hv
  split at hv
  · rename_i vs he
    rw [he] at hxx
    obtain ⟨us, h1, h2⟩ := hxx.tup_inv
    obtain ⟨u, h3, h4⟩ := h2.get hv
    rw [Array.getElem?_toList] at h3
    exact PGood.of (s := Instr.extract (ρ x) i) (by simp only [execOp, ho]) (by rw [h1]; simp [Instr.extract, h3]) h4
  · cases hv
theorem exe_builtin {o : Oper} {b args ats} (ho : o.op = .call { callee := .builtin b, args, argTypes := ats }) : execOp ρ o = builtin b ats o.type (args.map fun | .const _ => true | _ => false) (args.map ρ) := by
  simp only [execOp, ho, resolve]
  rfl
theorem good_len (hE : ∀ x y, compO x = some y → VRel S m w (ev y) (ρ x)) (r : Rep S m h w) {o : Oper} {ao v args ats} (ho : o.op = .call { callee := .builtin .len, args, argTypes := ats }) (hc : compOp P o = some ao) (hv : pOp ev h ao = some v) : PGood P S m w ρ o v := by
  simp only [compOp, ho] at hc
  split at hc
  · rename_i t ts x xs hb0 hat hl
    have hL := compL_sound (l := args.toList) hE hl
    have exe : execOp ρ o = (do pure (.value (← Builtin.len_ ats o.type (args.map ρ)))) := by rw [exe_builtin ho]; rfl
    obtain ⟨xv, rest, h1, h2, h3⟩ := hL.head
    have hat0 : ats[0]? = some t := by rw [← Array.getElem?_toList, hat]; rfl
    have harg0 : (args.map ρ)[0]? = some xv := by rw [← Array.getElem?_toList, Array.toList_map, h1]; rfl
    split at hc <;> first | (cases hc; done) | skip
    · rename_i ht
      cases hc
      simp only [pOp] at hv
      split at hv <;> first | (cases hv; done) | skip
      all_goals first | (rename_i hk _; cases hk; done) | skip
      rename_i s _ he
      cases hv
      rw [he] at h2
      obtain ⟨q, rfl, rfl⟩ := vstr h2
      refine PGood.of exe (by unfold Builtin.len_; simp only [hat0, harg0, Sem.run_bind, und_run ht, Result.andThen_ok]; rfl) ?_
      have : q.data.toList.length = q.size := by simp [ByteArray.size_data]
      rw [this]; exact .int
    · rename_i e ht
      cases hc
      simp only [pOp] at hv
      split at hv <;> first | (cases hv; done) | skip
      all_goals first | (rename_i hk _; cases hk; done) | skip
      all_goals
        rename_i he
        cases hv
        rw [he] at h2
        cases h2
        all_goals exact PGood.of exe (by unfold Builtin.len_; simp only [hat0, harg0, Sem.run_bind, und_run ht, Result.andThen_ok]; rfl) .int
    · rename_i kt e ht
      cases hc
      simp only [pOp] at hv
      split at hv <;> first | (cases hv; done) | skip
      all_goals first | (rename_i hk _; cases hk; done) | skip
      · rename_i _ he
        cases hv
        rw [he] at h2
        cases h2
        exact PGood.of exe (by unfold Builtin.len_; simp only [hat0, harg0, Sem.run_bind, und_run ht, Result.andThen_ok]; rfl) .int
      · rename_i id _ he
        split at hv <;> first | (cases hv; done) | skip
        rename_i es hes
        cases hv
        rw [he] at h2
        obtain ⟨b, ck, en, g1, g2, g3, g4, g5⟩ := r.blk _ _ hes
        have hobj : (getObj b).run P w = .ok (.map en ck) w := by simp [getObj, Sem.run, g2]
        cases h2 with
        | map g =>
          rw [g1] at g; cases g
          have hlen : es.length = en.size := by have := g3.1; simpa using this
          refine PGood.of exe (x := goInt en.size) ?_ (by rw [hlen]; exact .int)
          unfold Builtin.len_
          simp only [hat0, harg0, Sem.run_bind, und_run ht, Result.andThen_ok, hobj]
          rfl
  all_goals first | contradiction | (cases hc; done)
end
end Go.Proofs.YtlogcjaigjcmiaaGreat.AM

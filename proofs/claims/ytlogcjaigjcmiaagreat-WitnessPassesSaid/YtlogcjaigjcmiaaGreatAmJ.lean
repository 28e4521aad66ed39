/-
  THE ABSTRACT MACHINE: all operations that neither make nor write memory, at once: 'pOp_sound'.
-/
import Derived.Test.YtlogcjaigjcmiaaGreatAmI
set_option linter.unusedVariables false
set_option linter.unusedSimpArgs false
namespace Go.Proofs.YtlogcjaigjcmiaaGreat.AM
open Go

section
variable {P : Program} {S : Nat → Prop} {m : Emb} {h : List Blk} {w : World} {ρ : Operand → Value} {ev : AO → AV}

/-- Cells laid into a row. -/
theorem splice_fold (off : Nat) : ∀ (vs : List Value) (k : Nat) (cs : Array Value), off + k + vs.length ≤ cs.size →
    ((vs.zipIdx k).foldl (fun cs (c, j) => cs.setIfInBounds (off + j) c) cs).toList = cs.toList.take (off + k) ++ (vs ++ cs.toList.drop (off + k + vs.length))
  | [], k, cs, hl => by simp
  | v :: r, k, cs, hl => by
    rw [List.zipIdx_cons, List.foldl_cons, splice_fold off r (k + 1) _ (by simp at hl ⊢; omega)]
    simp only [Array.toList_setIfInBounds, List.length_cons] at hl ⊢
    have h1 : (cs.toList.set (off + k) v).take (off + (k + 1)) = cs.toList.take (off + k) ++ [v] := by
      rw [show off + (k + 1) = off + k + 1 by omega, List.take_add_one]
      rw [List.take_set_of_le (by omega)]
      simp only [List.getElem?_set, if_true, Array.length_toList]
      rw [if_pos (by omega)]
      rfl
    have h2 : (cs.toList.set (off + k) v).drop (off + (k + 1) + r.length) = cs.toList.drop (off + k + (r.length + 1)) := by
      rw [List.drop_set_of_lt (by omega)]
      congr 1; omega
    rw [h1, h2]
    simp
theorem splice_rel {off : Nat} {cs vs : List AV} {xs ys : List Value} (h1 : LRel S m w cs xs) (h2 : LRel S m w vs ys) : LRel S m w (splice cs off vs) (xs.take off ++ (ys ++ xs.drop (off + ys.length))) := by
  unfold splice
  rw [← h2.1]
  exact (h1.take off).append (h2.append (h1.drop _))
theorem splice_len {cs vs : List AV} {off : Nat} (hl : off + vs.length ≤ cs.length) : (splice cs off vs).length = cs.length := by
  unfold splice; simp; omega
/-- A row filled with parts. -/
theorem fill_sound (place : Nat → Option (Nat × Nat)) : ∀ (ps : List (Nat × List AV)) (qs : List (Nat × Value)) (z : List AV) (cells : Array Value), goodFill z.length ps = true → LRel S m w z cells.toList →
    ps.length = qs.length → (∀ (k : Nat) (p : Nat × List AV) (q : Nat × Value), ps[k]? = some p → qs[k]? = some q → ∃ n, place q.1 = some (p.1, n) ∧ p.2.length = n ∧ LRel S m w p.2 q.2.cells.toList) →
    ∃ c, Instr.fill place cells qs = some c ∧ LRel S m w (fillL z ps) c.toList
  | [], qs, z, cells, hg, hz, hl, hp => by
    have : qs = [] := List.eq_nil_of_length_eq_zero hl.symm
    subst this
    exact ⟨cells, rfl, hz⟩
  | (off, vs) :: r, qs, z, cells, hg, hz, hl, hp => by
    cases qs with
    | nil => simp at hl
    | cons q qr =>
      obtain ⟨i, v⟩ := q
      obtain ⟨n, h1, h2, h3⟩ := hp 0 (off, vs) (i, v) rfl rfl
      replace h2 : vs.length = n := h2
      replace h3 : LRel S m w vs v.cells.toList := h3
      replace h1 : place i = some (off, n) := h1
      simp only [goodFill, Bool.and_eq_true, decide_eq_true_eq] at hg
      obtain ⟨hg1, hg2⟩ := hg
      have hvl : v.cells.size = n := by have := h3.1; simp at this; omega
      have hcl : cells.size = z.length := by have := hz.1; simp at this; exact this.symm
      have hf := splice_fold off v.cells.toList 0 cells (by simp; omega)
      simp only [Nat.add_zero] at hf
      have hz' := splice_rel (off := off) hz h3
      have hsl : (splice z off vs).length = z.length := splice_len hg1
      obtain ⟨c, h4, h5⟩ := fill_sound place r qr (splice z off vs) (v.cells.zipIdx.foldl (fun cs (c, j) => cs.setIfInBounds (off + j) c) cells) (by rw [hsl]; exact hg2)
        (by
          have e : (v.cells.zipIdx.foldl (fun cs (c, j) => cs.setIfInBounds (off + j) c) cells).toList = ((v.cells.toList.zipIdx 0).foldl (fun cs (c, j) => cs.setIfInBounds (off + j) c) cells).toList := by
            rw [← Array.foldl_toList, Array.toList_zipIdx]
          rw [e, hf]; exact hz')
        (by simpa using hl) (fun k p q hpk hqk => hp (k + 1) p q (by simpa using hpk) (by simpa using hqk))
      refine ⟨c, ?_, h5⟩
      rw [Instr.fill, h1]
      simp only
      rw [if_neg (by simp only [Bool.or_eq_true, bne_iff_ne, decide_eq_true_eq, ne_eq]; omega)]
      exact h4
theorem zero?_sound {t z} (hz : zero? P t = some z) : ∃ i v, P.info? t = some i ∧ i.zero = some v ∧ ∃ a, ofV v = some a ∧ z = a.cells := by
  unfold zero? at hz
  rw [Option.bind_eq_some_iff] at hz
  obtain ⟨v, h1, h2⟩ := hz
  rw [Option.bind_eq_some_iff] at h1
  obtain ⟨i, h3, h4⟩ := h1
  rw [Option.map_eq_some_iff] at h2
  obtain ⟨a, h5, h6⟩ := h2
  exact ⟨i, v, h3, h4, a, h5, h6.symm⟩
theorem ofV_ne_dead {v a} (h : ofV v = some a) : a ≠ .dead := by
  rintro rfl
  unfold ofV at h
  split at h
  · rw [Option.map_eq_some_iff] at h; obtain ⟨_, _, h⟩ := h; cases h
  · split at h <;> cases h
  · unfold ofV1 at h; split at h <;> first | (cases h; done) | (split at h <;> cases h)
theorem compL_get {α β : Type} {f : α → Option β} : ∀ {l : List α} {l' : List β}, compL f l = some l' → l.length = l'.length ∧ ∀ (k : Nat) (x : α), l[k]? = some x → ∃ y, f x = some y ∧ l'[k]? = some y
  | [], l', h => by cases h; exact ⟨rfl, fun k x hx => by simp at hx⟩
  | a :: r, l', h => by
    rw [compL] at h
    split at h
    · rename_i y l h1 h2
      cases h
      obtain ⟨h3, h4⟩ := compL_get h2
      refine ⟨by simp [h3], fun k x hx => ?_⟩
      cases k with
      | zero => simp at hx; subst hx; exact ⟨y, h1, by simp⟩
      | succ k => simpa using h4 k x (by simpa using hx)
    · cases h
theorem good_build (hE : ∀ x y, compO x = some y → VRel S m w (ev y) (ρ x)) {o : Oper} {ao v t ps} (ho : o.op = .build t ps) (hc : compOp P o = some ao) (hv : pOp ev h ao = some v) : PGood P S m w ρ o v := by
  simp only [compOp, ho] at hc
  split at hc
  · rename_i fs z ht hz
    split at hc
    · rename_i places hpl
      rw [Option.map_eq_some_iff] at hc
      obtain ⟨l, hl, rfl⟩ := hc
      simp only [pOp] at hv
      split at hv <;> first | (cases hv; done) | skip
      rename_i hcond
      cases hv
      rw [Bool.and_eq_true] at hcond
      obtain ⟨hall, hfill⟩ := hcond
      obtain ⟨i, zv, hi, hzv, a, ha, rfl⟩ := zero?_sound hz
      have hzr := (ofV_sound (S := S) (m := m) (w := w) ha).cells (ofV_ne_dead ha)
      obtain ⟨hlen, hget⟩ := compL_get hl
      obtain ⟨c, h1, h2⟩ := fill_sound (S := S) (m := m) (w := w) (fun j => places.toArray[j]?) (l.map fun x => (x.1, (ev x.2.2).cells)) ((ps.toList.map fun x => (x.1, ρ x.2))) a.cells zv.cells hfill hzr (by simp [hlen])
        (by
          intro k p q hp hq
          rw [List.getElem?_map, Option.map_eq_some_iff] at hp hq
          obtain ⟨⟨off, n, x⟩, hp1, rfl⟩ := hp
          obtain ⟨⟨j, y⟩, hq1, rfl⟩ := hq
          obtain ⟨y', hy1, hy2⟩ := hget k _ hq1
          rw [hp1] at hy2
          cases hy2
          simp only at hy1
          split at hy1
          · rename_i off' n' x' hpj hcy
            cases hy1
            have hk := (List.all_eq_true.1 hall) (off, n, x) (List.mem_of_getElem? hp1)
            simp only [Bool.and_eq_true, beq_iff_eq, bne_iff_ne, ne_eq] at hk
            have hx := hE _ _ hcy
            have hnd : ev x ≠ .dead := by intro hd; rw [hd] at hk; simp [AV.cells] at hk; omega
            exact ⟨n, by simpa using hpj, hk.1, hx.cells hnd⟩
          · cases hy1)
      have hb : P.built t (ps.map fun x => (x.1, ρ x.2)).toList = some c := by
        unfold Program.built
        rw [hi, ht]
        simp only [hzv, hpl]
        rw [Array.toList_map]
        exact h1
      exact PGood.of (s := Instr.build t (ps.map fun (i, x) => (i, ρ x))) (by simp only [execOp, ho]) (run_build w t _ c hb) (LRel.agg h2)
    · cases hc
  · cases hc
theorem mxmn_fold (mx : Bool) (k : IntKind) : ∀ (l : List AV) (xs : List Value) (a : Int) (v : AV), l.foldlM (fun acc v => match acc, v with
      | .int k x, .int _ y => some (AV.int k (if mx then (if y > x then y else x) else (if y < x then y else x)))
      | _, _ => none) (.int k a) = some v → LRel S m w l xs → ∃ x, (xs.foldlM (if mx then Builtin.max2 else Builtin.min2) (.int k a)).run P w = .ok x w ∧ VRel S m w v x
  | [], xs, a, v, hf, hL => by
    rw [hL.nil_r]
    cases hf
    exact ⟨_, rfl, .int⟩
  | c :: r, xs, a, v, hf, hL => by
    obtain ⟨x, xr, rfl, h1, h2⟩ := hL.head
    rw [List.foldlM_cons] at hf
    cases c <;> simp only [Option.bind_eq_bind, Option.bind_none] at hf <;> first | (cases hf; done) | skip
    rename_i k' y
    rw [vint h1]
    simp only [Option.bind_some] at hf
    obtain ⟨z, h3, h4⟩ := mxmn_fold mx k r xr _ v hf h2
    refine ⟨z, ?_, h4⟩
    rw [List.foldlM_cons, Sem.run_bind]
    cases mx
    · simp only [Bool.false_eq_true, if_false] at h3 ⊢
      rw [Builtin.min2]
      exact h3
    · simp only [if_true] at h3 ⊢
      rw [Builtin.max2]
      exact h3
theorem good_mxmn (hE : ∀ x y, compO x = some y → VRel S m w (ev y) (ρ x)) {o : Oper} {v args ats b mx} (hb : (b = .max ∧ mx = true) ∨ (b = .min ∧ mx = false)) (ho : o.op = .call { callee := .builtin b, args, argTypes := ats }) {l} (hl : compL compO args.toList = some l) (hv : pOp ev h (.mxmn mx l) = some v) : PGood P S m w ρ o v := by
  have hL := compL_sound (l := args.toList) hE hl
  simp only [pOp] at hv
  split at hv <;> first | (cases hv; done) | skip
  rename_i k a r he
  rw [he] at hL
  obtain ⟨x, xr, h1, h2, h3⟩ := hL.head
  rw [vint h2] at h1
  obtain ⟨z, h4, h5⟩ := mxmn_fold (P := P) mx k r xr a v hv h3
  have hargs : (args.map ρ).toList = .int k a :: xr := by rw [Array.toList_map, h1]
  rcases hb with ⟨rfl, rfl⟩ | ⟨rfl, rfl⟩
  · refine PGood.of (s := Builtin.max_ ats o.type (args.map ρ)) (by rw [exe_builtin ho]; rfl) ?_ h5
    unfold Builtin.max_
    rw [hargs]
    exact h4
  · refine PGood.of (s := Builtin.min_ ats o.type (args.map ρ)) (by rw [exe_builtin ho]; rfl) ?_ h5
    unfold Builtin.min_
    rw [hargs]
    exact h4

/-- WHAT NEITHER MAKES NOR WRITES MEMORY. -/
theorem pOp_sound (hC : ∀ v, ρ (.const v) = v) (hE : ∀ x y, compO x = some y → VRel S m w (ev y) (ρ x)) (r : Rep S m h w) {o : Oper} {ao v} (hc : compOp P o = some ao) (hv : pOp ev h ao = some v) : PGood P S m w ρ o v := by
  cases ho : o.op with
  | move x => exact good_mv hE (.inl ⟨_, ho⟩) hc hv
  | assign x => exact good_mv hE (.inr ⟨_, ho⟩) hc hv
  | pick c a b => exact good_pick hE ho hc hv
  | build t ps => exact good_build hE ho hc hv
  | load t x => exact good_load hE r ho hc hv
  | nilCheck x => exact good_nilck hE ho hc hv
  | binOp op t x y u => exact good_cmp hC hE ho hc hv
  | unOp op t x => exact good_un hE ho hc hv
  | convert s d x =>
    by_cases hl : ao.loud = false
    · exact good_conv hE r ho hc hl hv
    · exfalso
      cases ao <;> simp [AOp.loud] at hl <;> simp [pOp] at hv
  | makeFunc f a c => exact good_mkfn hE ho hc hv
  | slice t x lo hi mx => exact good_slice hE r ho hc hv
  | fieldAddr t x f => exact good_fieldAddr hE ho hc hv
  | field t x f => exact good_field hE ho hc hv
  | indexAddr t x i => exact good_idxAddr hE ho hc hv
  | index t x i => exact good_index hE ho hc hv
  | lookup t x k ok => exact good_lookup hE r ho hc hv
  | extract x i => exact good_extract hE ho hc hv
  | call c =>
    obtain ⟨callee, args, ats⟩ := c
    cases callee with
    | builtin b =>
      by_cases hlen : b = .len
      · subst hlen; exact good_len hE r ho hc hv
      · have hc0 := hc
        simp only [compOp, ho] at hc
        split at hc
        · exact absurd rfl hlen
        · split at hc <;> first | (cases hc; done) | skip
          all_goals
            split at hc <;> first | (cases hc; done) | skip
            cases hc
            simp [pOp] at hv
        · split at hc <;> first | (cases hc; done) | skip
          split at hc <;> first | (cases hc; done) | skip
          cases hc
          simp [pOp] at hv
        · split at hc <;> first | (cases hc; done) | skip
          rw [Option.map_eq_some_iff] at hc
          obtain ⟨kk, _, rfl⟩ := hc
          simp [pOp] at hv
        · rename_i hl
          cases hc
          exact good_mxmn hE (.inl ⟨rfl, rfl⟩) ho hl hv
        · rename_i hl
          cases hc
          exact good_mxmn hE (.inr ⟨rfl, rfl⟩) ho hl hv
        · cases hc
    | value f =>
      simp only [compOp, ho] at hc
      split at hc <;> cases hc
      simp [pOp] at hv
    | invoke f n => simp only [compOp, ho] at hc; cases hc
  | alloc t => exact absurd hv (by simp only [compOp, ho] at hc; split at hc <;> cases hc; simp [pOp])
  | box t x => exact absurd hv (by simp only [compOp, ho] at hc; split at hc <;> first | (cases hc; done) | skip
                                   split at hc <;> cases hc; simp [pOp])
  | buildSlice t n ps => exact absurd hv (by simp only [compOp, ho] at hc; split at hc <;> first | (cases hc; done) | skip
                                             split at hc <;> first | (cases hc; done) | skip
                                             rw [Option.map_eq_some_iff] at hc; obtain ⟨_, _, rfl⟩ := hc; simp [pOp])
  | store t a x => exact absurd hv (by simp only [compOp, ho] at hc; split at hc <;> first | (cases hc; done) | skip
                                       split at hc <;> cases hc; simp [pOp])
  | makeMap t n => exact absurd hv (by cases n <;> simp only [compOp, ho] at hc <;> cases hc; simp [pOp])
  | makeSlice t l c => exact absurd hv (by simp only [compOp, ho] at hc; split at hc <;> first | (cases hc; done) | skip
                                           split at hc <;> cases hc; simp [pOp])
  | mapUpdate t a k x => exact absurd hv (by simp only [compOp, ho] at hc; split at hc <;> first | (cases hc; done) | skip
                                             rw [Option.map_eq_some_iff] at hc; obtain ⟨_, _, rfl⟩ := hc; simp [pOp])
  | insert t a k x => exact absurd hv (by simp only [compOp, ho] at hc; split at hc <;> first | (cases hc; done) | skip
                                          rw [Option.map_eq_some_iff] at hc; obtain ⟨_, _, rfl⟩ := hc; simp [pOp])
  | _ => simp [compOp, ho] at hc
end
end Go.Proofs.YtlogcjaigjcmiaaGreat.AM

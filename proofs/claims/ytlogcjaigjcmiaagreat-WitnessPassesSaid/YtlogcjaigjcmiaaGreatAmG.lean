/-
  THE ABSTRACT MACHINE: each operation that neither makes nor writes memory (third part).
-/
import Derived.Test.YtlogcjaigjcmiaaGreatAmF
set_option linter.unusedVariables false
set_option linter.unusedSimpArgs false
namespace Go.Proofs.YtlogcjaigjcmiaaGreat.AM
open Go

section
variable {P : Program} {S : Nat → Prop} {m : Emb} {h : List Blk} {w : World} {ρ : Operand → Value} {ev : AO → AV}
variable (hC : ∀ v, ρ (.const v) = v)
theorem nilKind_val {y : Operand} {kd} (hC : ∀ v, ρ (.const v) = v) (hy : nilKind y = some kd) : (kd = 0 ∧ ρ y = .pointer none) ∨ (kd = 1 ∧ ∃ n c, ρ y = .slice none n c) ∨ (kd = 2 ∧ ρ y = .map none) ∨ (kd = 3 ∧ ρ y = .nilFunc) := by
  unfold nilKind at hy
  split at hy <;> cases hy
  · exact .inl ⟨rfl, hC _⟩
  · exact .inr (.inl ⟨rfl, _, _, hC _⟩)
  · exact .inr (.inr (.inl ⟨rfl, hC _⟩))
  · exact .inr (.inr (.inr ⟨rfl, hC _⟩))
variable (hE : ∀ x y, compO x = some y → VRel S m w (ev y) (ρ x)) (r : Rep S m h w)

theorem good_cmp (hC : ∀ v, ρ (.const v) = v) (hE : ∀ x y, compO x = some y → VRel S m w (ev y) (ρ x)) {o : Oper} {ao v op t x y u} (ho : o.op = .binOp op t x y u) (hc : compOp P o = some ao) (hv : pOp ev h ao = some v) : PGood P S m w ρ o v := by
  have hc0 := hc
  simp only [compOp, ho, compBin] at hc
  split at hc
  · rename_i hop
    have hop : op = .eql ∨ op = .neq := by simpa using hop
    split at hc
    · split at hc
      · rename_i h1 h2; cases hc; exact good_bin hE ho hc0 hv ⟨_, _, rfl, h1, h2⟩
      · cases hc
    · split at hc
      · rename_i h1 h2; cases hc; exact good_bin hE ho hc0 hv ⟨_, _, rfl, h1, h2⟩
      · cases hc
    · rename_i ht
      split at hc
      · rename_i h1 h2; cases hc; exact good_beq hE ho hop ht h1 h2 hv
      · cases hc
    · rename_i fs ht
      split at hc
      · rename_i ks a b hk h1 h2
        cases hc
        simp only [pOp] at hv
        split at hv
        · rename_i p q hp hq
          rw [Option.map_eq_some_iff] at hv
          obtain ⟨c, h3, rfl⟩ := hv
          have hx := hE _ _ h1; rw [hp] at hx
          have hy := hE _ _ h2; rw [hq] at hy
          obtain ⟨xs, h4, h5⟩ := hx.agg_inv
          obtain ⟨ys, h6, h7⟩ := hy.agg_inv
          unfold flat? at hk
          rw [ht] at hk
          simp only at hk
          split at hk
          · rename_i hg
            simp only [Bool.and_eq_true, Bool.not_eq_true'] at hg
            have hfo : P.fieldsOf t = fs := by simp [Program.fieldsOf, ht]
            have heq : (Op.equalIn 10000 t (.agg xs) (.agg ys)).run P w = .ok c w := by
              rw [run_equalIn_agg w 9999 t xs ys (by rw [hfo]; exact ht) hg.1, hfo]
              exact eqL_sound fs.toList 0 ks p q c hk h3 h5 h7
            refine PGood.of (s := do eqGuard op t x y (ρ x) (ρ y); binOp op t (ρ x) (ρ y)) (by simp only [execOp, ho]) (x := .bool (if op = .neq then !c else c)) ?_ (by rcases hop with rfl | rfl <;> exact .bool)
            rw [h4, h6]
            simp only [Sem.run_bind, run_eqGuard_agg _ _ _ _ _ _ _ hg.2, Result.andThen_ok]
            rcases hop with rfl | rfl
            · rw [run_eql_struct, heq]; rfl
            · rw [run_neq_struct, heq]; rfl
          · cases hk
        · cases hv
      · cases hc
    · rename_i d ht
      split at hc
      · rename_i kd hd
        split at hc
        · rename_i hn
          rw [Option.map_eq_some_iff] at hc
          obtain ⟨a, h1, rfl⟩ := hc
          simp only [pOp, Option.map_eq_some_iff] at hv
          obtain ⟨b, h2, rfl⟩ := hv
          have := (isNil_sound (px := x) (py := y) hd ht hop h2 (hE _ _ h1) (nilKind_val hC hn)).1
          exact PGood.of (s := do eqGuard op t x y (ρ x) (ρ y); binOp op t (ρ x) (ρ y)) (by simp only [execOp, ho]) this (by rcases hop with rfl | rfl <;> exact .bool)
        · split at hc
          · rename_i hn
            rw [Option.map_eq_some_iff] at hc
            obtain ⟨a, h1, rfl⟩ := hc
            simp only [pOp, Option.map_eq_some_iff] at hv
            obtain ⟨b, h2, rfl⟩ := hv
            have := (isNil_sound (px := x) (py := y) hd ht hop h2 (hE _ _ h1) (nilKind_val hC hn)).2
            exact PGood.of (s := do eqGuard op t x y (ρ x) (ρ y); binOp op t (ρ x) (ρ y)) (by simp only [execOp, ho]) this (by rcases hop with rfl | rfl <;> exact .bool)
          · cases hc
      · cases hc
    · cases hc
  · split at hc
    · split at hc
      · rename_i h1 h2; cases hc; exact good_bin hE ho hc0 hv ⟨_, _, rfl, h1, h2⟩
      · cases hc
    · split at hc
      · rename_i h1 h2; cases hc; exact good_bin hE ho hc0 hv ⟨_, _, rfl, h1, h2⟩
      · cases hc
    · cases hc
theorem good_un {o : Oper} {ao v op t x} (hE : ∀ x y, compO x = some y → VRel S m w (ev y) (ρ x)) (ho : o.op = .unOp op t x) (hc : compOp P o = some ao) (hv : pOp ev h ao = some v) : PGood P S m w ρ o v := by
  simp only [compOp, ho] at hc
  split at hc
  · cases hc
  · rw [Option.map_eq_some_iff] at hc
    obtain ⟨y, h1, rfl⟩ := hc
    have hx := hE _ _ h1
    simp only [pOp] at hv
    cases op <;> cases hev : ev y <;> simp only [hev] at hv <;> first | (cases hv; done) | skip
    · rw [hev] at hx; cases hv; exact PGood.of (s := Op.unary .neg (ρ x)) (by simp [execOp, ho]) (x := _) (by rw [vint hx]; rfl) .int
    · rw [hev] at hx; cases hv; exact PGood.of (s := Op.unary .xor (ρ x)) (by simp [execOp, ho]) (x := _) (by rw [vint hx]; rfl) .int
    · rw [hev] at hx; cases hv; exact PGood.of (s := Op.unary .not (ρ x)) (by simp [execOp, ho]) (x := _) (by rw [vbool hx]; rfl) .bool
/-- What a slice's elements' cells are, read of memory. -/
theorem elems_sound (r : Rep S m h w) {st : Nat} {a : AV} {cs : List AV} {x : Value} (he : elems h st a = some cs) (hx : VRel S m w a x) (hst : 0 < st) : ∃ vs, LRel S m w cs vs ∧ lenOf a = some (vs.length / st) ∧ vs.length % st = 0 ∧
    ((∃ ad n c, x = .slice (some ad) n c ∧ n * st = vs.length ∧ ∀ j u, vs[j]? = some u → w.cell? (ad.add j) = some u) ∨ (∃ c, x = .slice none 0 c ∧ vs = []) ∨ (∃ s, x = .string s ∧ st = 1 ∧ vs = s.data.toList.map fun b => .int .u8 b.toNat)) := by
  have none_ : ∀ (f : Nat → Nat), ([] : List Value)[f 0]? = none := fun _ => rfl
  cases hx <;> simp only [elems] at he <;> first | (cases he; done) | skip
  case nils => cases he; exact ⟨[], LRel.nil, by simp [lenOf], by simp, .inr (.inl ⟨_, rfl, rfl⟩)⟩
  case str l s hs =>
    split at he
    · rename_i h1
      cases he
      subst h1
      subst hs
      refine ⟨s.data.toList.map fun b => .int .u8 b.toNat, ?_, by simp [lenOf], by simp [Nat.mod_one], .inr (.inr ⟨s, rfl, rfl, rfl⟩)⟩
      refine ⟨by simp, fun i hi => ?_⟩
      simp only [List.length_map] at hi
      simp only [List.getD_eq_getElem?_getD, List.getElem?_map, List.getElem?_eq_getElem hi, Option.map_some, Option.getD_some]
      exact .int
    · cases he
  case sl id st' off len cap ex b d z rc h1 h2 h3 h4 h5 =>
    split at he
    · rename_i hs
      subst hs
      split at he
      · rename_i h0
        cases he
        subst h0
        exact ⟨[], LRel.nil, by simp [lenOf], by simp, .inl ⟨_, _, _, rfl, by simp, fun j u hj => by simp at hj⟩⟩
      · rename_i h0
        obtain ⟨ad, vs, h6, h7, h8, h9⟩ := rdPtr_sound (v := .ptr id off) r he (.ptr h1) (Nat.mul_pos (Nat.pos_of_ne_zero h0) hst)
        cases h6
        exact ⟨vs, h7, by simp [lenOf, h8, Nat.mul_div_cancel _ hst], by simp [h8, Nat.mul_mod_left], .inl ⟨_, _, _, rfl, h8.symm, h9⟩⟩
    · cases he
  case sle id st' off ex a h1 =>
    split at he
    · simp only [if_true] at he
      cases he
      cases a with
      | none => exact ⟨[], LRel.nil, by simp [lenOf], by simp, .inr (.inl ⟨_, rfl, rfl⟩)⟩
      | some p => exact ⟨[], LRel.nil, by simp [lenOf], by simp, .inl ⟨_, _, _, rfl, by simp, fun j u hj => by simp at hj⟩⟩
    · cases he
  case ro es st' ex b d rc f hS hc hl hr hx hn =>
    split at he
    · rename_i hs
      subst hs
      cases he
      have key : ∀ (es : List AV) (f : Nat → Nat → Value), (∀ i, i < es.length → (es.getD i .dead).cells.length = st) → (∀ i j, i < es.length → j < st → VRel S m w ((es.getD i .dead).cells.getD j .dead) (f i j)) →
          LRel S m w (es.flatMap AV.cells) ((List.range es.length).flatMap fun i => (List.range st).map (f i)) := by
        intro es
        induction es with
        | nil => intro f _ _; exact LRel.nil
        | cons e r ih =>
          intro f hl hr
          have h0 := ih (fun i j => f (i + 1) j) (fun i hi => by have := hl (i + 1) (by simp; omega); simpa using this) (fun i j hi hj => by have := hr (i + 1) j (by simp; omega) hj; simpa using this)
          rw [List.flatMap_cons, List.length_cons, List.range_succ_eq_map, List.flatMap_cons, List.flatMap_map]
          refine LRel.append ?_ h0
          have hl0 := hl 0 (by simp)
          have hl0 : e.cells.length = st := hl0
          refine ⟨by simp [hl0], fun j hj => ?_⟩
          have := hr 0 j (by simp) (by omega)
          simp only [List.getD_eq_getElem?_getD, List.getElem?_map, List.getElem?_range (show j < st by omega), Option.map_some, Option.getD_some] at this ⊢
          exact this
      have hlen : ((List.range es.length).flatMap fun i => (List.range st).map (f i)).length = es.length * st := by
        rw [List.length_flatMap]
        simp [List.map_const', List.sum_replicate_nat]
      refine ⟨_, key es f hl hr, by simp [lenOf, hlen, Nat.mul_div_cancel _ hst], by rw [hlen]; simp [Nat.mul_mod_left], .inl ⟨_, _, _, rfl, hlen.symm, ?_⟩⟩
      have get : ∀ (n o j : Nat) u, ((List.range n).flatMap fun i => (List.range st).map (f (o + i)))[j]? = some u → ∃ i k, i < n ∧ k < st ∧ j = i * st + k ∧ u = f (o + i) k := by
        intro n
        induction n with
        | zero => intro o j u hj; simp at hj
        | succ n ih =>
          intro o j u hj
          rw [List.range_succ_eq_map, List.flatMap_cons, List.flatMap_map] at hj
          by_cases hlt : j < st
          · rw [List.getElem?_append_left (by simpa using hlt), List.getElem?_map, List.getElem?_range hlt] at hj
            cases hj
            exact ⟨0, j, by omega, hlt, by simp, rfl⟩
          · rw [List.getElem?_append_right (by simp; omega)] at hj
            simp only [List.length_map, List.length_range] at hj
            have hj' : ((List.range n).flatMap fun i => (List.range st).map (f ((o + 1) + i)))[j - st]? = some u := by
              rw [← hj]; congr 1; congr 1; funext i; rw [show o + 1 + i = o + (i + 1) by omega]
            obtain ⟨i, k, h1, h2, h3, h4⟩ := ih (o + 1) (j - st) u hj'
            exact ⟨i + 1, k, by omega, h2, by rw [Nat.succ_mul]; omega, by rw [h4, show o + 1 + i = o + (i + 1) by omega]⟩
      intro j u hj
      obtain ⟨i, k, h1, h2, h3, h4⟩ := get es.length 0 j u (by simpa using hj)
      rw [add_mk, h3, h4]
      simpa using hc i k h1 h2
    · cases he
  case ro0 st' ex a rc hx =>
    split at he
    · cases he
      cases a with
      | none => exact ⟨[], LRel.nil, by simp [lenOf], by simp, .inr (.inl ⟨_, rfl, rfl⟩)⟩
      | some p => exact ⟨[], LRel.nil, by simp [lenOf], by simp, .inl ⟨_, _, _, rfl, by simp, fun j u hj => by simp at hj⟩⟩
    · cases he
def isSl : AV → Bool
  | .nils | .sl .. | .ro .. => true
  | _ => false
theorem vslice {a : AV} {x : Value} (hx : VRel S m w a x) (ha : isSl a = true) : ∃ p n c, x = .slice p n c := by
  cases hx <;> first | (cases ha; done) | exact ⟨_, _, _, rfl⟩
/-- A string's bytes out of a slice's. -/
theorem b2s_run (r : Rep S m h w) {a : AV} {cs : List AV} {l : List UInt8} {x : Value} (he : elems h 1 a = some cs) (hb : toBytes cs = some l) (hx : VRel S m w a x) (hns : ∀ s, x ≠ .string s) : (Conv.bytesToString x).run P w = .ok (.string ⟨l.toArray⟩) w := by
  obtain ⟨vs, h1, h2, h3, h4⟩ := elems_sound r he hx Nat.one_pos
  rcases h4 with ⟨ad, n, c, rfl, h5, h6⟩ | ⟨c, rfl, rfl⟩ | ⟨s, rfl, _⟩
  · have hload := run_loadCells_list (P := P) w ad vs h6
    rw [show vs.length = n by omega] at hload
    unfold Conv.bytesToString
    simp only [Sem.run_bind, hload, Result.andThen_ok]
    have := toBytes_sound (P := P) cs vs l hb h1 ByteArray.empty
    simp only [← Array.forIn_toList]
    exact (congrArg (fun r => Result.andThen r fun a w' => Sem.run P (pure (Value.string a)) w') this).trans rfl
  · have : cs = [] := by have := h1.1; simp at this; exact this
    subst this
    cases hb
    rfl
  · exact absurd rfl (hns s)
theorem good_conv {o : Oper} {ao v s d x} (hE : ∀ x y, compO x = some y → VRel S m w (ev y) (ρ x)) (r : Rep S m h w) (ho : o.op = .convert s d x) (hc : compOp P o = some ao) (hl : ao.loud = false) (hv : pOp ev h ao = some v) : PGood P S m w ρ o v := by
  simp only [compOp, ho] at hc
  split at hc
  · rename_i hs hd hx
    cases hc
    have hxx := hE _ _ hx
    simp only [pOp] at hv
    split at hv
    · rename_i k n he
      cases hv
      rw [he] at hxx
      rw [PGood]
      refine ⟨_, ?_, .int⟩
      simp [execOp, ho, convert, und_run hs, und_run hd, vint hxx, Conv.intToInt]
    · cases hv
  · rename_i hs hd hx
    cases hc
    have hxx := hE _ _ hx
    simp only [pOp] at hv
    split at hv
    · rename_i l he
      cases hv
      rw [he] at hxx
      obtain ⟨s, h1, h2⟩ := vstr hxx
      exact ⟨_, by simp [execOp, ho, convert, und_run hs, und_run hd, h1], .str h2⟩
    · cases hv
  · rename_i e hs hd hx
    split at hc
    · cases hc; cases hl
    · cases hc
  · rename_i e y hs hd hx
    split at hc
    · rename_i he
      cases hc
      have hxx := hE _ _ hx
      have key : ∀ cs l, elems h 1 (ev y) = some cs → toBytes cs = some l → (∃ a n c, ρ x = .slice a n c) → v = .str l → PGood P S m w ρ o v := by
        intro cs l h1 h2 h3 h4
        subst h4
        obtain ⟨a, n, c, h3⟩ := h3
        rw [h3] at hxx
        have hb := b2s_run (P := P) r h1 h2 hxx (by rintro s ⟨⟩)
        exact ⟨.string ⟨l.toArray⟩, by simp [execOp, ho, convert, und_run hs, und_run hd, und_run he, h3, hb], .str rfl⟩
      simp only [pOp] at hv
      split at hv
      · rename_i hev
        cases hv
        refine key [] [] (by rw [hev]; rfl) rfl (vslice (a := ev y) hxx (by rw [hev]; rfl)) rfl
      · rename_i es ex hev
        rw [Option.map_eq_some_iff] at hv
        obtain ⟨l, h1, rfl⟩ := hv
        refine key _ l (by rw [hev]; simp [elems]) h1 (vslice (a := ev y) hxx (by rw [hev]; rfl)) rfl
      · rename_i id off len cap ex hev
        have hns := vslice (a := ev y) hxx (by rw [hev]; rfl)
        split at hv
        · rename_i h0
          cases hv
          exact key [] [] (by rw [hev]; simp [elems, h0]) rfl hns rfl
        · rename_i h0
          rw [Option.bind_eq_some_iff] at hv
          obtain ⟨cs, h1, h2⟩ := hv
          rw [Option.map_eq_some_iff] at h2
          obtain ⟨l, h3, rfl⟩ := h2
          exact key cs l (by rw [hev]; simp [elems, h0, h1]) h3 hns rfl
      · cases hv
    · cases hc
  · cases hc
end
end Go.Proofs.YtlogcjaigjcmiaaGreat.AM

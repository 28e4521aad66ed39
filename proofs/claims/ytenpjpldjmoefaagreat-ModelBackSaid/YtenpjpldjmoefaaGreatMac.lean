/-
  'gauger's law ModelBack holds of every input: it returns true, and each argument reads behind the call as it read before.
  This text: part 3 of 22 of the proof (AmG, AmH, AmI, AmJ, AmK, AmL).
-/
import Derived.Test.YtenpjpldjmoefaaGreatMab
import Derived.Laws.CopyRow
set_option linter.unusedVariables false
set_option linter.unusedSimpArgs false
namespace Go.Proofs.YtenpjpldjmoefaaGreat.AM
open Go
section
variable {P : Program} {S : Nat → Prop} {m : Emb} {h : List Blk} {w : World} {ρ : Operand → Value} {ev : AO → AV}
variable (hC : ∀ v, ρ (.const v) = v)
theorem nilKind_val {y : Operand} {kd} (hC : ∀ v, ρ (.const v) = v) (hy : nilKind y = some kd) : (kd = 0 ∧ ρ y = .pointer none) ∨ (kd = 1 ∧ ∃ n c, ρ y = .slice none n c) ∨ (kd = 2 ∧ ρ y = .map none) ∨ (kd = 3 ∧ ρ y = .nilFunc) := by
 unfold nilKind at hy
 split at hy <;> cases hy
 ·exact .inl ⟨rfl, hC _⟩
 ·exact .inr (.inl ⟨rfl, _, _, hC _⟩)
 ·exact .inr (.inr (.inl ⟨rfl, hC _⟩))
 ·exact .inr (.inr (.inr ⟨rfl, hC _⟩))
variable (hE : ∀ x y, compO x = some y → VRel S m w (ev y) (ρ x)) (r : Rep S m h w)
theorem good_cmp (hC : ∀ v, ρ (.const v) = v) (hE : ∀ x y, compO x = some y → VRel S m w (ev y) (ρ x)) {o : Oper} {ao v op t x y u} (ho : o.op = .binOp op t x y u) (hc : compOp P o = some ao) (hv : pOp ev h ao = some v) : PGood P S m w ρ o v := by
 have hc0 := hc
 simp only [compOp, ho, compBin] at hc
 split at hc
 ·rename_i hop
  have hop : op = .eql ∨ op = .neq := by simpa using hop
  split at hc
  ·split at hc
   ·rename_i h1 h2; cases hc; exact good_bin hE ho hc0 hv ⟨_, _, rfl, h1, h2⟩
   ·cases hc
  ·split at hc
   ·rename_i h1 h2; cases hc; exact good_bin hE ho hc0 hv ⟨_, _, rfl, h1, h2⟩
   ·cases hc
  ·rename_i ht
   split at hc
   ·rename_i h1 h2; cases hc; exact good_beq hE ho hop ht h1 h2 hv
   ·cases hc
  ·rename_i fs ht
   split at hc
   ·rename_i ks a b hk h1 h2
    cases hc
    simp only [pOp] at hv
    split at hv
    ·rename_i p q hp hq
     rw [Option.map_eq_some_iff] at hv
     obtain ⟨c, h3, rfl⟩ := hv
     have hx := hE _ _ h1; rw [hp] at hx
     have hy := hE _ _ h2; rw [hq] at hy
     obtain ⟨xs, h4, h5⟩ := hx.agg_inv
     obtain ⟨ys, h6, h7⟩ := hy.agg_inv
     unfold flat? at hk
     rw [ht] at hk
     simp only at hk
     split at hk
     ·rename_i hg
      simp only [Bool.and_eq_true, Bool.not_eq_true'] at hg
      have hfo : P.fieldsOf t = fs := by simp [Program.fieldsOf, ht]
      have heq : (Op.equalIn 10000 t (.agg xs) (.agg ys)).run P w = .ok c w := by
       rw [run_equalIn_agg w 9999 t xs ys (by rw [hfo]; exact ht) hg.1, hfo]
       exact eqL_sound fs.toList 0 ks p q c hk h3 h5 h7
      refine PGood.of (s := do eqGuard op t x y (ρ x) (ρ y); binOp op t (ρ x) (ρ y)) (by simp only [execOp, ho]) (x := .bool (if op = .neq then !c else c)) ?_ (by rcases hop with rfl | rfl <;> exact .bool)
      rw [h4, h6]
      simp only [Sem.run_bind, run_eqGuard_agg _ _ _ _ _ _ _ hg.2, Result.andThen_ok]
      rcases hop with rfl | rfl
      ·rw [run_eql_struct, heq]; rfl
      ·rw [run_neq_struct, heq]; rfl
     ·cases hk
    ·cases hv
   ·cases hc
  ·rename_i d ht
   split at hc
   ·rename_i kd hd
    split at hc
    ·rename_i hn
     rw [Option.map_eq_some_iff] at hc
     obtain ⟨a, h1, rfl⟩ := hc
     simp only [pOp, Option.map_eq_some_iff] at hv
     obtain ⟨b, h2, rfl⟩ := hv
     have := (isNil_sound (px := x) (py := y) hd ht hop h2 (hE _ _ h1) (nilKind_val hC hn)).1
     exact PGood.of (s := do eqGuard op t x y (ρ x) (ρ y); binOp op t (ρ x) (ρ y)) (by simp only [execOp, ho]) this (by rcases hop with rfl | rfl <;> exact .bool)
    ·split at hc
     ·rename_i hn
      rw [Option.map_eq_some_iff] at hc
      obtain ⟨a, h1, rfl⟩ := hc
      simp only [pOp, Option.map_eq_some_iff] at hv
      obtain ⟨b, h2, rfl⟩ := hv
      have := (isNil_sound (px := x) (py := y) hd ht hop h2 (hE _ _ h1) (nilKind_val hC hn)).2
      exact PGood.of (s := do eqGuard op t x y (ρ x) (ρ y); binOp op t (ρ x) (ρ y)) (by simp only [execOp, ho]) this (by rcases hop with rfl | rfl <;> exact .bool)
     ·cases hc
   ·cases hc
  ·cases hc
 ·split at hc
  ·split at hc
   ·rename_i h1 h2; cases hc; exact good_bin hE ho hc0 hv ⟨_, _, rfl, h1, h2⟩
   ·cases hc
  ·split at hc
   ·rename_i h1 h2; cases hc; exact good_bin hE ho hc0 hv ⟨_, _, rfl, h1, h2⟩
   ·cases hc
  ·cases hc
theorem good_un {o : Oper} {ao v op t x} (hE : ∀ x y, compO x = some y → VRel S m w (ev y) (ρ x)) (ho : o.op = .unOp op t x) (hc : compOp P o = some ao) (hv : pOp ev h ao = some v) : PGood P S m w ρ o v := by
 simp only [compOp, ho] at hc
 split at hc
 ·cases hc
 ·rw [Option.map_eq_some_iff] at hc
  obtain ⟨y, h1, rfl⟩ := hc
  have hx := hE _ _ h1
  simp only [pOp] at hv
  cases op <;> cases hev : ev y <;> simp only [hev] at hv <;> first | (cases hv; done) | skip
  ·rw [hev] at hx; cases hv; exact PGood.of (s := Op.unary .neg (ρ x)) (by simp [execOp, ho]) (x := _) (by rw [vint hx]; rfl) .int
  ·rw [hev] at hx; cases hv; exact PGood.of (s := Op.unary .xor (ρ x)) (by simp [execOp, ho]) (x := _) (by rw [vint hx]; rfl) .int
  ·rw [hev] at hx; cases hv; exact PGood.of (s := Op.unary .not (ρ x)) (by simp [execOp, ho]) (x := _) (by rw [vbool hx]; rfl) .bool
theorem elems_sound (r : Rep S m h w) {st : Nat} {a : AV} {cs : List AV} {x : Value} (he : elems h st a = some cs) (hx : VRel S m w a x) (hst : 0 < st) : ∃ vs, LRel S m w cs vs ∧ lenOf a = some (vs.length / st) ∧ vs.length % st = 0 ∧
  ((∃ ad n c, x = .slice (some ad) n c ∧ n * st = vs.length ∧ ∀ j u, vs[j]? = some u → w.cell? (ad.add j) = some u) ∨ (∃ c, x = .slice none 0 c ∧ vs = []) ∨ (∃ s, x = .string s ∧ st = 1 ∧ vs = s.data.toList.map fun b => .int .u8 b.toNat)) := by
 have none_ : ∀ (f : Nat → Nat), ([] : List Value)[f 0]? = none := fun _ => rfl
 cases hx <;> simp only [elems] at he <;> first | (cases he; done) | skip
 case nils => cases he; exact ⟨[], LRel.nil, by simp [lenOf], by simp, .inr (.inl ⟨_, rfl, rfl⟩)⟩
 case str l s hs =>
  split at he
  ·rename_i h1
   cases he
   subst h1
   subst hs
   refine ⟨s.data.toList.map fun b => .int .u8 b.toNat, ?_, by simp [lenOf], by simp [Nat.mod_one], .inr (.inr ⟨s, rfl, rfl, rfl⟩)⟩
   refine ⟨by simp, fun i hi => ?_⟩
   simp only [List.length_map] at hi
   simp only [List.getD_eq_getElem?_getD, List.getElem?_map, List.getElem?_eq_getElem hi, Option.map_some, Option.getD_some]
   exact .int
  ·cases he
 case sl id st' off len cap ex b d z rc h1 h2 h3 h4 h5 =>
  split at he
  ·rename_i hs
   subst hs
   split at he
   ·rename_i h0
    cases he
    subst h0
    exact ⟨[], LRel.nil, by simp [lenOf], by simp, .inl ⟨_, _, _, rfl, by simp, fun j u hj => by simp at hj⟩⟩
   ·rename_i h0
    obtain ⟨ad, vs, h6, h7, h8, h9⟩ := rdPtr_sound (v := .ptr id off) r he (.ptr h1) (Nat.mul_pos (Nat.pos_of_ne_zero h0) hst)
    cases h6
    exact ⟨vs, h7, by simp [lenOf, h8, Nat.mul_div_cancel _ hst], by simp [h8, Nat.mul_mod_left], .inl ⟨_, _, _, rfl, h8.symm, h9⟩⟩
  ·cases he
 case sle id st' off ex a h1 =>
  split at he
  ·simp only [if_true] at he
   cases he
   cases a with
   | none => exact ⟨[], LRel.nil, by simp [lenOf], by simp, .inr (.inl ⟨_, rfl, rfl⟩)⟩
   | some p => exact ⟨[], LRel.nil, by simp [lenOf], by simp, .inl ⟨_, _, _, rfl, by simp, fun j u hj => by simp at hj⟩⟩
  ·cases he
 case ro es st' ex b d rc f hS hc hl hr hx hn =>
  split at he
  ·rename_i hs
   subst hs
   cases he
   have key : ∀ (es : List AV) (f : Nat → Nat → Value), (∀ i, i < es.length → (es.getD i .dead).cells.length = st) → (∀ i j, i < es.length → j < st → VRel S m w ((es.getD i .dead).cells.getD j .dead) (f i j)) →
     LRel S m w (es.flatMap AV.cells) ((List.range es.length).flatMap fun i => (List.range st).map (f i)) := by
    intro es
    induction es with
    | nil => intro f _ _; exact LRel.nil
    | cons e r ih =>
     intro f hl hr
     have h0 := ih (fun i j => f (i + 1) j) (fun i hi => by have := hl (i + 1) (by simp; omega); simpa using this) (fun i j hi hj => by have := hr (i + 1) j (by simp; omega) hj; simpa using this)
     rw [List.flatMap_cons, List.length_cons, List.range_succ_eq_map, List.flatMap_cons, List.flatMap_map]
     refine LRel.append ?_ h0
     have hl0 := hl 0 (by simp)
     have hl0 : e.cells.length = st := hl0
     refine ⟨by simp [hl0], fun j hj => ?_⟩
     have := hr 0 j (by simp) (by omega)
     simp only [List.getD_eq_getElem?_getD, List.getElem?_map, List.getElem?_range (show j < st by omega), Option.map_some, Option.getD_some] at this ⊢
     exact this
   have hlen : ((List.range es.length).flatMap fun i => (List.range st).map (f i)).length = es.length * st := by
    rw [List.length_flatMap]
    simp [List.map_const', List.sum_replicate_nat]
   refine ⟨_, key es f hl hr, by simp [lenOf, hlen, Nat.mul_div_cancel _ hst], by rw [hlen]; simp [Nat.mul_mod_left], .inl ⟨_, _, _, rfl, hlen.symm, ?_⟩⟩
   have get : ∀ (n o j : Nat) u, ((List.range n).flatMap fun i => (List.range st).map (f (o + i)))[j]? = some u → ∃ i k, i < n ∧ k < st ∧ j = i * st + k ∧ u = f (o + i) k := by
    intro n
    induction n with
    | zero => intro o j u hj; simp at hj
    | succ n ih =>
     intro o j u hj
     rw [List.range_succ_eq_map, List.flatMap_cons, List.flatMap_map] at hj
     by_cases hlt : j < st
     ·rw [List.getElem?_append_left (by simpa using hlt), List.getElem?_map, List.getElem?_range hlt] at hj
      cases hj
      exact ⟨0, j, by omega, hlt, by simp, rfl⟩
     ·rw [List.getElem?_append_right (by simp; omega)] at hj
      simp only [List.length_map, List.length_range] at hj
      have hj' : ((List.range n).flatMap fun i => (List.range st).map (f ((o + 1) + i)))[j - st]? = some u := by
       rw [← hj]; congr 1; congr 1; funext i; rw [show o + 1 + i = o + (i + 1) by omega]
      obtain ⟨i, k, h1, h2, h3, h4⟩ := ih (o + 1) (j - st) u hj'
      exact ⟨i + 1, k, by omega, h2, by rw [Nat.succ_mul]; omega, by rw [h4, show o + 1 + i = o + (i + 1) by omega]⟩
   intro j u hj
   obtain ⟨i, k, h1, h2, h3, h4⟩ := get es.length 0 j u (by simpa using hj)
   rw [add_mk, h3, h4]
   simpa using hc i k h1 h2
  ·cases he
 case ro0 st' ex a rc hx =>
  split at he
  ·cases he
   cases a with
   | none => exact ⟨[], LRel.nil, by simp [lenOf], by simp, .inr (.inl ⟨_, rfl, rfl⟩)⟩
   | some p => exact ⟨[], LRel.nil, by simp [lenOf], by simp, .inl ⟨_, _, _, rfl, by simp, fun j u hj => by simp at hj⟩⟩
  ·cases he
def isSl : AV → Bool
 | .nils | .sl .. | .ro .. => true
 | _ => false
theorem vslice {a : AV} {x : Value} (hx : VRel S m w a x) (ha : isSl a = true) : ∃ p n c, x = .slice p n c := by
 cases hx <;> first | (cases ha; done) | exact ⟨_, _, _, rfl⟩
theorem b2s_run (r : Rep S m h w) {a : AV} {cs : List AV} {l : List UInt8} {x : Value} (he : elems h 1 a = some cs) (hb : toBytes cs = some l) (hx : VRel S m w a x) (hns : ∀ s, x ≠ .string s) : (Conv.bytesToString x).run P w = .ok (.string ⟨l.toArray⟩) w := by
 obtain ⟨vs, h1, h2, h3, h4⟩ := elems_sound r he hx Nat.one_pos
 rcases h4 with ⟨ad, n, c, rfl, h5, h6⟩ | ⟨c, rfl, rfl⟩ | ⟨s, rfl, _⟩
 ·have hload := run_loadCells_list (P := P) w ad vs h6
  rw [show vs.length = n by omega] at hload
  unfold Conv.bytesToString
  simp only [Sem.run_bind, hload, Result.andThen_ok]
  have := toBytes_sound (P := P) cs vs l hb h1 ByteArray.empty
  simp only [← Array.forIn_toList]
  exact (congrArg (fun r => Result.andThen r fun a w' => Sem.run P (pure (Value.string a)) w') this).trans rfl
 ·have : cs = [] := by have := h1.1; simp at this; exact this
  subst this
  cases hb
  rfl
 ·exact absurd rfl (hns s)
theorem good_conv {o : Oper} {ao v s d x} (hE : ∀ x y, compO x = some y → VRel S m w (ev y) (ρ x)) (r : Rep S m h w) (ho : o.op = .convert s d x) (hc : compOp P o = some ao) (hl : ao.loud = false) (hv : pOp ev h ao = some v) : PGood P S m w ρ o v := by
 simp only [compOp, ho] at hc
 split at hc
 ·rename_i hs hd hx
  cases hc
  have hxx := hE _ _ hx
  simp only [pOp] at hv
  split at hv
  ·rename_i k n he
   cases hv
   rw [he] at hxx
   rw [PGood]
   refine ⟨_, ?_, .int⟩
   simp [execOp, ho, convert, und_run hs, und_run hd, vint hxx, Conv.intToInt]
  ·cases hv
 ·rename_i hs hd hx
  cases hc
  have hxx := hE _ _ hx
  simp only [pOp] at hv
  split at hv
  ·rename_i l he
   cases hv
   rw [he] at hxx
   obtain ⟨s, h1, h2⟩ := vstr hxx
   exact ⟨_, by simp [execOp, ho, convert, und_run hs, und_run hd, h1], .str h2⟩
  ·cases hv
 ·rename_i e hs hd hx
  split at hc
  ·cases hc; cases hl
  ·cases hc
 ·rename_i e y hs hd hx
  split at hc
  ·rename_i he
   cases hc
   have hxx := hE _ _ hx
   have key : ∀ cs l, elems h 1 (ev y) = some cs → toBytes cs = some l → (∃ a n c, ρ x = .slice a n c) → v = .str l → PGood P S m w ρ o v := by
    intro cs l h1 h2 h3 h4
    subst h4
    obtain ⟨a, n, c, h3⟩ := h3
    rw [h3] at hxx
    have hb := b2s_run (P := P) r h1 h2 hxx (by rintro s ⟨⟩)
    exact ⟨.string ⟨l.toArray⟩, by simp [execOp, ho, convert, und_run hs, und_run hd, und_run he, h3, hb], .str rfl⟩
   simp only [pOp] at hv
   split at hv
   ·rename_i hev
    cases hv
    refine key [] [] (by rw [hev]; rfl) rfl (vslice (a := ev y) hxx (by rw [hev]; rfl)) rfl
   ·rename_i es ex hev
    rw [Option.map_eq_some_iff] at hv
    obtain ⟨l, h1, rfl⟩ := hv
    refine key _ l (by rw [hev]; simp [elems]) h1 (vslice (a := ev y) hxx (by rw [hev]; rfl)) rfl
   ·rename_i id off len cap ex hev
    have hns := vslice (a := ev y) hxx (by rw [hev]; rfl)
    split at hv
    ·rename_i h0
     cases hv
     exact key [] [] (by rw [hev]; simp [elems, h0]) rfl hns rfl
    ·rename_i h0
     rw [Option.bind_eq_some_iff] at hv
     obtain ⟨cs, h1, h2⟩ := hv
     rw [Option.map_eq_some_iff] at h2
     obtain ⟨l, h3, rfl⟩ := h2
     exact key cs l (by rw [hev]; simp [elems, h0, h1]) h3 hns rfl
   ·cases hv
  ·cases hc
 ·cases hc
end
open Go
section
variable {P : Program} {S : Nat → Prop} {m : Emb} {h : List Blk} {w : World} {ρ : Operand → Value} {ev : AO → AV}
def Bnd (d : Nat) (o : Option Value) (n : Nat) : Prop := (o = none ∧ n = d) ∨ ∃ k, o = some (.int k (n : Int))
theorem bnd_of (hE : ∀ x y, compO x = some y → VRel S m w (ev y) (ρ x)) {x : Option Operand} {y : Option AO} {d n : Nat} (hc : compOpt x = some y) (hn : optNat d (y.map ev) = some n) : Bnd d (x.map ρ) n ∧ x.isSome = y.isSome := by
 rcases optNat_sound hE hc hn with ⟨rfl, rfl, rfl⟩ | ⟨o, k, rfl, h1, h2⟩
 ·exact ⟨.inl ⟨rfl, rfl⟩, rfl⟩
 ·exact ⟨.inr ⟨k, by simp [h2]⟩, by simp [h1]⟩
theorem bounds_run {isS : Bool} {len cap l hh mm : Nat} {lo hi mx : Option Value} (hm : Bnd cap mx mm) (hmc : mm ≤ cap) (hmh : mx.isSome = true → hi.isSome = true) (hh_ : Bnd len hi hh) (hhm : hh ≤ mm) (hl : Bnd 0 lo l) (hlh : l ≤ hh) :
  (Instr.sliceBounds isS len cap lo hi mx).run P w = .ok (l, hh, mm) w := by
 unfold Instr.sliceBounds
 rcases hm with ⟨rfl, rfl⟩ | ⟨k1, rfl⟩
 ·rcases hh_ with ⟨rfl, rfl⟩ | ⟨k2, rfl⟩
  ·rcases hl with ⟨rfl, rfl⟩ | ⟨k3, rfl⟩
   ·simp
   ·simp [bound_run hlh]
  ·rcases hl with ⟨rfl, rfl⟩ | ⟨k3, rfl⟩
   ·simp [bound_run hhm]
   ·simp [bound_run hhm, bound_run hlh]
 ·rcases hh_ with ⟨rfl, rfl⟩ | ⟨k2, rfl⟩
  ·exact absurd (hmh rfl) (by simp)
  ·rcases hl with ⟨rfl, rfl⟩ | ⟨k3, rfl⟩
   ·simp [bound_run hhm, bound_run hmc]
   ·simp [bound_run hhm, bound_run hlh, bound_run hmc]
theorem good_mkfn (hE : ∀ x y, compO x = some y → VRel S m w (ev y) (ρ x)) {o : Oper} {ao v f a c} (ho : o.op = .makeFunc f a c) (hc : compOp P o = some ao) (hv : pOp ev h ao = some v) : PGood P S m w ρ o v := by
 simp only [compOp, ho] at hc
 split at hc
 ·rename_i a' c' h1 h2
  cases hc
  cases hv
  refine PGood.of (s := Instr.makeFunc f (a.map ρ) (c.map ρ)) (by simp [execOp, ho]) (x := .func f (a.map ρ) (c.map ρ)) rfl ?_
  exact LRel.fn (by simpa using compL_sound (l := a.toList) hE h1) (by simpa using compL_sound (l := c.toList) hE h2)
 ·cases hc
theorem good_slice (hE : ∀ x y, compO x = some y → VRel S m w (ev y) (ρ x)) (r : Rep S m h w) {o : Oper} {ao v t x lo hi mx} (ho : o.op = .slice t x lo hi mx) (hc : compOp P o = some ao) (hv : pOp ev h ao = some v) : PGood P S m w ρ o v := by
 simp only [compOp, ho] at hc
 split at hc
 ·cases hc
 ·rename_i hmh
  have hmh : mx.isSome = true → hi.isSome = true := by
   intro h1
   simp only [h1, Bool.true_and, Bool.not_eq_true] at hmh
   cases hi <;> simp_all
  have exe : execOp ρ o = (do pure (.value (← Instr.sliceAt t (ρ x) (lo.map ρ) (hi.map ρ) (mx.map ρ)))) := by simp only [execOp, ho]
  split at hc
  ·rename_i y lo' hi' ht hx hlo hhi hmx
   cases hc
   have hxx := hE _ _ hx
   have hmx0 : mx = none := by cases mx <;> simp [compOpt] at hmx ⊢
   subst hmx0
   simp only [pOp] at hv
   split at hv
   ·rename_i s he
    rw [he] at hxx
    rw [Option.bind_eq_some_iff] at hv
    obtain ⟨hh, h1, h2⟩ := hv
    split at h2
    ·rename_i hle
     rw [Option.bind_eq_some_iff] at h2
     obtain ⟨l, h3, h4⟩ := h2
     split at h4
     ·rename_i hlh
      cases h4
      obtain ⟨q, hq, rfl⟩ := vstr hxx
      have hsz : q.data.toList.length = q.size := by simp [ByteArray.size_data]
      rw [hsz] at h1 hle
      have hb := bounds_run (P := P) (w := w) (isS := false) (cap := q.size) (mm := q.size) (.inl ⟨rfl, rfl⟩) (Nat.le_refl _) (by simp) (bnd_of hE hhi h1).1 hle (bnd_of hE hlo h3).1 hlh
      refine PGood.of exe (x := .string (q.extract l hh)) ?_ (.str ?_)
      ·rw [hq]
       simp only [Option.map_none] at hb ⊢
       simp only [Instr.sliceAt, Instr.slice, Sem.run_bind, und_run ht, Result.andThen_ok, Option.isSome_none, Bool.false_eq_true, if_false, hb, Sem.run_pure]
      ·simp [ByteArray.data_extract, Array.toList_extract, List.extract, List.drop_take]
     ·cases h4
    ·cases h2
   ·cases hv
  ·rename_i e y lo' hi' mx' ht hx hlo hhi hmx
   split at hc
   ·rename_i n hn
    split at hc
    ·cases hc
    ·rename_i hn0
     cases hc
     have hxx := hE _ _ hx
     have hms : mx.isSome = mx'.isSome := by cases mx <;> simp [compOpt] at hmx <;> first | (subst hmx; rfl) | (obtain ⟨_, _, rfl⟩ := hmx; rfl)
     have run : ∀ a len cap l hh mm, ρ x = .slice a len cap → Bnd cap (mx.map ρ) mm → mm ≤ cap → Bnd len (hi.map ρ) hh → hh ≤ mm → Bnd 0 (lo.map ρ) l → l ≤ hh →
       (Instr.sliceAt t (ρ x) (lo.map ρ) (hi.map ρ) (mx.map ρ)).run P w = .ok (.slice (if mm = l then a else a.map (·.add (l * n))) (hh - l) (mm - l)) w := by
      intro a len cap l hh mm h1 h2 h3 h4 h5 h6 h7
      have hb := bounds_run (P := P) (w := w) (isS := true) h2 h3 (by simpa using hmh) h4 h5 h6 h7
      rw [h1]
      simp only [Instr.sliceAt, Instr.slice, Sem.run_bind, und_run ht, Result.andThen_ok, hb, size_run hn, Sem.run_pure]
     simp only [pOp] at hv
     split at hv
     ·-- nil
      rename_i he
      rw [he] at hxx
      rw [Option.bind_eq_some_iff] at hv
      obtain ⟨mm, h1, hv⟩ := hv
      rw [Option.bind_eq_some_iff] at hv
      obtain ⟨hh, h2, hv⟩ := hv
      rw [Option.bind_eq_some_iff] at hv
      obtain ⟨l, h3, hv⟩ := hv
      split at hv
      ·rename_i hz
       cases hv
       simp only [Bool.and_eq_true, decide_eq_true_eq] at hz
       obtain ⟨⟨rfl, rfl⟩, rfl⟩ := hz
       generalize hxv : ρ x = xv at hxx
       cases hxx
       exact PGood.of exe (run _ _ _ 0 0 0 hxv (bnd_of hE hmx h1).1 (Nat.le_refl _) (bnd_of hE hhi h2).1 (Nat.le_refl _) (bnd_of hE hlo h3).1 (Nat.le_refl _)) .nils
      ·cases hv
     ·rename_i id st' off len cap ex he
      rw [he] at hxx
      split at hv
      ·rename_i hst
       subst hst
       rw [Option.bind_eq_some_iff] at hv
       obtain ⟨mm, h1, hv⟩ := hv
       split at hv <;> first | (cases hv; done) | skip
       rename_i hmc
       rw [Option.bind_eq_some_iff] at hv
       obtain ⟨hh, h2, hv⟩ := hv
       split at hv <;> first | (cases hv; done) | skip
       rename_i hhm
       rw [Option.bind_eq_some_iff] at hv
       obtain ⟨l, h3, hv⟩ := hv
       split at hv <;> first | (cases hv; done) | skip
       rename_i hlh
       -- the world's own bound
       have hB := bnd_of hE hmx h1
       generalize hxv : ρ x = xv at hxx
       cases hxx with
       | @sl _ _ _ _ _ _ b d z rc g1 g2 g3 g4 g5 =>
        obtain ⟨mr, hmr, hmrc, hmm, hmex⟩ : ∃ mr, Bnd rc (mx.map ρ) mr ∧ mr ≤ rc ∧ mm ≤ mr ∧ (ex = true ∨ mx'.isSome = true → mr = mm) := by
         rcases hB.1 with ⟨g6, rfl⟩ | ⟨k, g6⟩
         ·refine ⟨rc, .inl ⟨g6, rfl⟩, Nat.le_refl _, g3, ?_⟩
          rintro (h7 | h7)
          ·exact g2 h7
          ·rw [← hms] at h7; simp at g6; rw [g6] at h7; cases h7
         ·exact ⟨mm, .inr ⟨k, g6⟩, Nat.le_trans hmc g3, Nat.le_refl _, fun _ => rfl⟩
        have hrun := run _ _ _ l hh mr hxv hmr hmrc (bnd_of hE hhi h2).1 (Nat.le_trans hhm hmm) (bnd_of hE hlo h3).1 hlh
        by_cases hml : mr = l
        ·rw [if_pos hml, hml] at hrun
         have e1 : hh - l = 0 := by omega
         have e2 : mm - l = 0 := by omega
         rw [e1, Nat.sub_self] at hrun
         rw [e1, e2] at hv
         split at hv
         ·cases hv; exact PGood.of exe hrun (.ro0 fun _ => rfl)
         ·cases hv; exact PGood.of exe hrun (.sle fun _ => rfl)
        ·rw [if_neg hml] at hrun
         simp only [Option.map_some, add_mk] at hrun
         have hlm : l < mr := by omega
         split at hv
         ·rename_i hz
          simp only [Bool.and_eq_true, beq_iff_eq] at hz
          have := hmex (.inr hz.1.1)
          omega
         ·cases hv
          refine PGood.of exe hrun ?_
          rw [Nat.add_assoc]
          refine .sl g1 ?_ (by omega) (by omega) ?_
          ·intro h7
           rw [Bool.or_eq_true] at h7
           rw [hmex h7]
          ·have : l * n + (mr - l) * n = mr * n := by rw [← Nat.add_mul]; congr 1; omega
           have : mr * n ≤ rc * n := Nat.mul_le_mul_right _ hmrc
           omega
       | @sle _ _ _ _ a g1 =>
        have e0 : mm = 0 := by omega
        subst e0
        have e1 : hh = 0 := by omega
        subst e1
        have e2 : l = 0 := by omega
        subst e2
        have hrun := run _ _ _ 0 0 0 hxv hB.1 (Nat.le_refl _) (bnd_of hE hhi h2).1 (Nat.le_refl _) (bnd_of hE hlo h3).1 (Nat.le_refl _)
        rw [if_pos rfl] at hrun
        split at hv
        ·cases hv; exact PGood.of exe hrun (.ro0 fun _ => rfl)
        ·rename_i hz
         cases hv
         refine PGood.of exe hrun (.sle fun h7 => ?_)
         rw [Bool.or_eq_true] at h7
         rcases h7 with h7 | h7
         ·exact g1 h7
         ·cases ex
          ·simp [h7] at hz
          ·exact g1 rfl
      ·cases hv
     ·rename_i es st' ex he
      rw [he] at hxx
      split at hv
      ·rename_i hst
       subst hst
       rw [Option.bind_eq_some_iff] at hv
       obtain ⟨hh, h2, hv⟩ := hv
       split at hv <;> first | (cases hv; done) | skip
       rename_i hhm
       rw [Option.bind_eq_some_iff] at hv
       obtain ⟨ex', h1, hv⟩ := hv
       rw [Option.bind_eq_some_iff] at hv
       obtain ⟨l, h3, hv⟩ := hv
       split at hv <;> first | (cases hv; done) | skip
       rename_i hlh
       cases hv
       have hex : ∀ rc, (ex = true → rc = es.length) → es.length ≤ rc → ∃ mr, Bnd rc (mx.map ρ) mr ∧ mr ≤ rc ∧ hh ≤ mr ∧ (ex' = true → mr = hh) := by
        intro rc g1 g2
        cases hmx' : mx' with
        | none =>
         rw [hmx'] at h1 hms
         simp only [Option.map_none, Option.some.injEq] at h1
         have : mx = none := by cases mx <;> simp_all
         subst this
         refine ⟨rc, .inl ⟨rfl, rfl⟩, Nat.le_refl _, by omega, fun h7 => ?_⟩
         rw [h7] at h1
         simp only [Bool.and_eq_true, beq_iff_eq] at h1
         rw [g1 h1.1, h1.2]
        | some y' =>
         rw [hmx'] at h1 hmx
         simp only [Option.map_some, Option.bind_eq_some_iff] at h1
         obtain ⟨mm, h8, h9⟩ := h1
         split at h9 <;> first | (cases h9; done) | skip
         rename_i hm
         subst hm
         exact ⟨mm, (bnd_of (d := 0) hE hmx (by simpa [optNat] using h8)).1.imp (fun ⟨g, _⟩ => by cases mx <;> simp_all [compOpt]) id, by omega, Nat.le_refl _, fun _ => rfl⟩
       generalize hxv : ρ x = xv at hxx
       cases hxx with
       | @ro _ _ _ b d rc f hS hcc hl hr hx' hn' =>
        obtain ⟨mr, hmr, hmrc, hmm, hmex⟩ := hex rc hx' hn'
        have hrun := run _ _ _ l hh mr hxv hmr hmrc (bnd_of hE hhi h2).1 hmm (bnd_of hE hlo h3).1 hlh
        by_cases hml : mr = l
        ·rw [if_pos hml, hml] at hrun
         have e1 : hh = l := by omega
         subst e1
         rw [Nat.sub_self] at hrun
         have : (es.take hh).drop hh = [] := by simp
         rw [this]
         exact PGood.of exe hrun (.ro0 fun _ => rfl)
        ·rw [if_neg hml] at hrun
         simp only [Option.map_some, add_mk] at hrun
         refine PGood.of exe hrun ?_
         have hlen : ((es.take hh).drop l).length = hh - l := by simp; omega
         have hget : ∀ i, i < hh - l → ((es.take hh).drop l).getD i .dead = es.getD (l + i) .dead := by
          intro i hi
          simp only [List.getD_eq_getElem?_getD, List.getElem?_drop, List.getElem?_take, show l + i < hh by omega, if_true]
         rw [← hlen]
         refine .ro (fun i j => f (l + i) j) hS ?_ ?_ ?_ ?_ ?_
         ·intro i j hi hj
          rw [hlen] at hi
          rw [show d + l * n + (i * n + j) = d + ((l + i) * n + j) by rw [Nat.add_mul]; omega]
          exact hcc _ _ (by omega) hj
         ·intro i hi
          rw [hlen] at hi
          rw [hget i hi]; exact hl _ (by omega)
         ·intro i j hi hj
          rw [hlen] at hi
          rw [hget i hi]; exact hr _ _ (by omega) hj
         ·intro h7; rw [hlen, hmex h7]
         ·rw [hlen]; omega
       | @ro0 _ _ a rc hx' =>
        have e1 : hh = 0 := by simpa using hhm
        subst e1
        have e2 : l = 0 := by omega
        subst e2
        obtain ⟨mr, hmr, hmrc, hmm, hmex⟩ := hex rc (fun h7 => by simpa using hx' h7) (by simp)
        have hrun := run _ _ _ 0 0 mr hxv hmr hmrc (bnd_of hE hhi h2).1 hmm (bnd_of hE hlo h3).1 hlh
        have : (([] : List AV).take 0).drop 0 = [] := rfl
        refine PGood.of exe hrun ?_
        exact .ro0 fun h7 => by rw [hmex h7]
      ·cases hv
     ·cases hv
   ·cases hc
  ·rename_i n e y lo' hi' mx' ht hx hlo hhi hmx
   split at hc
   ·rename_i st hn
    split at hc
    ·cases hc
    ·rename_i hn0
     cases hc
     have hxx := hE _ _ hx
     simp only [pOp] at hv
     split at hv
     ·rename_i id off he
      rw [he] at hxx
      split at hv <;> first | (cases hv; done) | skip
      rename_i hbk
      rw [Option.bind_eq_some_iff] at hv
      obtain ⟨mm, h1, hv⟩ := hv
      split at hv <;> first | (cases hv; done) | skip
      rename_i hmc
      rw [Option.bind_eq_some_iff] at hv
      obtain ⟨hh, h2, hv⟩ := hv
      split at hv <;> first | (cases hv; done) | skip
      rename_i hhm
      rw [Option.bind_eq_some_iff] at hv
      obtain ⟨l, h3, hv⟩ := hv
      split at hv <;> first | (cases hv; done) | skip
      rename_i hlh
      cases hv
      have hb := bounds_run (P := P) (w := w) (isS := false) (bnd_of hE hmx h1).1 hmc (by simpa using hmh) (bnd_of hE hhi h2).1 hhm (bnd_of hE hlo h3).1 hlh
      generalize hxv : ρ x = xv at hxx
      cases hxx with
      | @ptr _ _ b d z g1 =>
       have hrun : (Instr.sliceAt t (ρ x) (lo.map ρ) (hi.map ρ) (mx.map ρ)).run P w = .ok (.slice (some (if mm = l then ⟨b, d + off, none⟩ else (⟨b, d + off, none⟩ : Addr).add (l * st))) (hh - l) (mm - l)) w := by
        rw [hxv]
        simp only [Instr.sliceAt, Instr.sureAddr, Sem.run_bind, und_run ht, Result.andThen_ok, hb, size_run hn, Sem.run_pure]
       refine PGood.of (by rw [exe, hxv]) (by rw [← hxv]; exact hrun) ?_
       by_cases hml : mm = l
       ·subst hml
        have e1 : hh - mm = 0 := by omega
        rw [if_pos rfl, e1, Nat.sub_self]
        exact .sle fun _ => rfl
       ·rw [if_neg hml, add_mk, Nat.add_assoc]
        have hz : off + n * st + d ≤ z := by
         unfold hasRow at hbk
         split at hbk
         ·rename_i cs hcs
          obtain ⟨b', d', t', fz, c, k1, k2, k3, _⟩ := r.blk _ _ hcs
          rw [g1] at k1
          cases k1
          have := of_decide_eq_true hbk
          omega
         ·cases hbk
        refine .sl g1 (fun _ => rfl) (Nat.le_refl _) (by omega) ?_
        have : l * st + (mm - l) * st = mm * st := by rw [← Nat.add_mul]; congr 1; omega
        have : mm * st ≤ n * st := Nat.mul_le_mul_right _ hmc
        omega
     ·cases hv
   ·cases hc
  ·cases hc
end
open Go
section
variable {P : Program} {S : Nat → Prop} {m : Emb} {h : List Blk} {w : World} {ρ : Operand → Value} {ev : AO → AV}
theorem part?_sound {t f fd n} (hp : part? P t f = some (fd, n)) : ∃ fs, P.underlying t = some (.struct fs) ∧ fs[f]? = some fd ∧ var? P fd.type = some n := by
 unfold part? at hp
 split at hp
 ·rename_i fs ht
  split at hp
  ·rename_i f' hf
   rw [Option.map_eq_some_iff] at hp
   obtain ⟨n', h1, h2⟩ := hp
   cases h2
   exact ⟨fs, ht, hf, h1⟩
  ·cases hp
 ·cases hp
theorem good_fieldAddr (hE : ∀ x y, compO x = some y → VRel S m w (ev y) (ρ x)) {o : Oper} {ao v t x f} (ho : o.op = .fieldAddr t x f) (hc : compOp P o = some ao) (hv : pOp ev h ao = some v) : PGood P S m w ρ o v := by
 simp only [compOp, ho] at hc
 split at hc
 ·rename_i fd n y hp hx
  cases hc
  obtain ⟨fs, ht, hf, hn⟩ := part?_sound hp
  have hxx := hE _ _ hx
  have hz : (sizeOf fd.type).run P w = .ok (cellsN n) w := size_run (var?_size hn).1
  have hpos := (var?_size hn).2
  have run : ∀ a, ρ x = .pointer (some a) → (Instr.fieldAt t (ρ x) f).run P w = .ok (.pointer (some (a.add fd.offset))) w := by
   intro a ha
   rw [ha]
   simp [Instr.fieldAt, und_run ht, hf, Instr.sureAddr, fieldPlace, hz, show ¬ cellsN n = 0 by omega]
  have exe : execOp ρ o = (do pure (.value (← Instr.fieldAt t (ρ x) f))) := by simp only [execOp, ho]
  simp only [pOp] at hv
  split at hv
  ·rename_i id off he
   cases hv
   rw [he] at hxx
   generalize hxv : ρ x = xv at hxx
   cases hxx with
   | ptr g =>
    have := run _ hxv
    rw [add_mk, Nat.add_assoc] at this
    exact PGood.of exe this (.ptr g)
  ·rename_i es st i off he
   cases hv
   rw [he] at hxx
   generalize hxv : ρ x = xv at hxx
   cases hxx with
   | rop f hS hc hl hr =>
    have := run _ hxv
    rw [add_mk, Nat.add_assoc, Nat.add_assoc] at this
    exact PGood.of exe this (.rop f hS hc hl hr)
  ·cases hv
 ·cases hc
theorem good_field (hE : ∀ x y, compO x = some y → VRel S m w (ev y) (ρ x)) {o : Oper} {ao v t x f} (ho : o.op = .field t x f) (hc : compOp P o = some ao) (hv : pOp ev h ao = some v) : PGood P S m w ρ o v := by
 simp only [compOp, ho] at hc
 split at hc
 ·rename_i fd n y hp hx
  cases hc
  obtain ⟨fs, ht, hf, hn⟩ := part?_sound hp
  have hxx := hE _ _ hx
  simp only [pOp] at hv
  split at hv
  ·rename_i cs he
   rw [he] at hxx
   split at hv <;> first | (cases hv; done) | skip
   rename_i hle
   obtain ⟨vs, h1, h2⟩ := hxx.agg_inv
   have hl : fd.offset + cellsN n ≤ vs.size := by have := h2.1; simp at this; omega
   refine PGood.of (s := Instr.field t (ρ x) f) (by simp only [execOp, ho]) ?_ (asVar_sound hv ((h2.drop fd.offset).take (cellsN n)))
   rw [h1]
   simp [Instr.field, und_run ht, hf, asAgg, part_sound hn hl]
  ·cases hv
 ·cases hc
theorem good_idxAddr (hE : ∀ x y, compO x = some y → VRel S m w (ev y) (ρ x)) {o : Oper} {ao v t x i} (ho : o.op = .indexAddr t x i) (hc : compOp P o = some ao) (hv : pOp ev h ao = some v) : PGood P S m w ρ o v := by
 simp only [compOp, ho] at hc
 have exe : execOp ρ o = (do pure (.value (← Instr.indexAt t (ρ x) (ρ i)))) := by simp only [execOp, ho]
 split at hc
 ·rename_i e y j ht hx hi
  split at hc
  ·rename_i n hn
   split at hc
   ·cases hc
   ·rename_i hn0
    cases hc
    have hxx := hE _ _ hx
    have hii := hE _ _ hi
    have run : ∀ a len cap k z, ρ x = .slice (some a) len cap → ρ i = .int k z → 0 ≤ z → z < (len : Int) → (Instr.indexAt t (ρ x) (ρ i)).run P w = .ok (.pointer (some (a.add (z.toNat * n)))) w := by
     intro a len cap k z h1 h2 h3 h4
     rw [h1, h2]
     simp only [Instr.indexAt, asIntOf, Sem.run_bind, Sem.run_pure, und_run ht, Result.andThen_ok]
     have hc : 0 ≤ z ∧ z < (len : Int) := ⟨h3, h4⟩
     simp [hc, size_run hn, und_run ht]
    simp only [pOp] at hv
    split at hv
    ·rename_i id st' off len cap ex k z he hk
     rw [he] at hxx
     rw [hk] at hii
     split at hv <;> first | (cases hv; done) | skip
     rename_i hcond
     simp only [Bool.and_eq_true, decide_eq_true_eq] at hcond
     obtain ⟨⟨hst, h0⟩, hlt⟩ := hcond
     cases hv
     generalize hxv : ρ x = xv at hxx
     cases hxx with
     | sl g1 g2 g3 g4 g5 =>
      have := run _ _ _ _ _ hxv (vint hii) h0 hlt
      rw [add_mk, Nat.add_assoc] at this
      exact PGood.of exe this (.ptr g1)
     | sle g1 => omega
    ·rename_i es st' ex k z he hk
     rw [he] at hxx
     rw [hk] at hii
     split at hv <;> first | (cases hv; done) | skip
     rename_i hcond
     simp only [Bool.and_eq_true, decide_eq_true_eq] at hcond
     obtain ⟨⟨hst, h0⟩, hlt⟩ := hcond
     subst hst
     cases hv
     generalize hxv : ρ x = xv at hxx
     cases hxx with
     | ro f hS hcc hl hr hx' hn' =>
      have := run _ _ _ _ _ hxv (vint hii) h0 hlt
      rw [add_mk] at this
      exact PGood.of exe this (.rop f hS hcc hl hr)
     | ro0 hx' => simp at hlt; omega
    ·cases hv
  ·cases hc
 ·rename_i len e y j ht hx hi
  split at hc
  ·rename_i n hn
   split at hc
   ·cases hc
   ·rename_i hn0
    cases hc
    have hxx := hE _ _ hx
    have hii := hE _ _ hi
    have run : ∀ a k z, ρ x = .pointer (some a) → ρ i = .int k z → 0 ≤ z → z < (len : Int) → (Instr.indexAt t (ρ x) (ρ i)).run P w = .ok (.pointer (some (a.add (z.toNat * n)))) w := by
     intro a k z h1 h2 h3 h4
     rw [h1, h2]
     simp only [Instr.indexAt, asIntOf, Sem.run_bind, Sem.run_pure, und_run ht, Result.andThen_ok, Instr.sureAddr]
     have hc : 0 ≤ z ∧ z < (len : Int) := ⟨h3, h4⟩
     simp [hc, size_run hn, und_run ht]
    simp only [pOp] at hv
    split at hv
    ·rename_i id off k z he hk
     rw [he] at hxx
     rw [hk] at hii
     split at hv <;> first | (cases hv; done) | skip
     rename_i hcond
     simp only [Bool.and_eq_true, decide_eq_true_eq] at hcond
     cases hv
     generalize hxv : ρ x = xv at hxx
     cases hxx with
     | ptr g =>
      have := run _ _ _ hxv (vint hii) hcond.1 hcond.2
      rw [add_mk, Nat.add_assoc] at this
      exact PGood.of exe this (.ptr g)
    ·rename_i es s j' off k z he hk
     rw [he] at hxx
     rw [hk] at hii
     split at hv <;> first | (cases hv; done) | skip
     rename_i hcond
     simp only [Bool.and_eq_true, decide_eq_true_eq] at hcond
     cases hv
     generalize hxv : ρ x = xv at hxx
     cases hxx with
     | rop f hS hcc hl hr =>
      have := run _ _ _ hxv (vint hii) hcond.1 hcond.2
      rw [add_mk, Nat.add_assoc, Nat.add_assoc] at this
      exact PGood.of exe this (.rop f hS hcc hl hr)
    ·cases hv
  ·cases hc
 ·cases hc
theorem good_index (hE : ∀ x y, compO x = some y → VRel S m w (ev y) (ρ x)) {o : Oper} {ao v t x i} (ho : o.op = .index t x i) (hc : compOp P o = some ao) (hv : pOp ev h ao = some v) : PGood P S m w ρ o v := by
 simp only [compOp, ho] at hc
 have exe : execOp ρ o = (do pure (.value (← Instr.index t (ρ x) (ρ i)))) := by simp only [execOp, ho]
 split at hc
 ·rename_i y j ht hx hi
  cases hc
  have hxx := hE _ _ hx
  have hii := hE _ _ hi
  simp only [pOp] at hv
  split at hv
  ·rename_i l k z he hk
   rw [he] at hxx
   rw [hk] at hii
   split at hv <;> first | (cases hv; done) | skip
   rename_i h0
   rw [Option.map_eq_some_iff] at hv
   obtain ⟨b, h1, rfl⟩ := hv
   obtain ⟨s, h2, rfl⟩ := vstr hxx
   refine PGood.of exe (x := .int .u8 b.toNat) ?_ .int
   have hb : s[z.toNat]? = some b := by
    obtain ⟨hlt, h3⟩ := List.getElem?_eq_some_iff.1 h1
    have hlt' : z.toNat < s.size := by simpa [ByteArray.size_data] using hlt
    rw [getElem?_pos s z.toNat hlt']
    congr 1
   rw [h2, vint hii]
   simp [Instr.index, asIntOf, und_run ht, h0, hb]
  ·cases hv
 ·rename_i len e y j ht hx hi
  split at hc
  ·rename_i st n hst hn
   cases hc
   have hxx := hE _ _ hx
   have hii := hE _ _ hi
   simp only [pOp] at hv
   split at hv
   ·rename_i cs k z he hk
    rw [he] at hxx
    rw [hk] at hii
    split at hv <;> first | (cases hv; done) | skip
    rename_i hcond
    simp only [Bool.and_eq_true, decide_eq_true_eq] at hcond
    obtain ⟨⟨h0, hlt⟩, hle⟩ := hcond
    obtain ⟨vs, h1, h2⟩ := hxx.agg_inv
    have hl : z.toNat * st + cellsN n ≤ vs.size := by have := h2.1; simp at this; omega
    refine PGood.of exe ?_ (asVar_sound hv ((h2.drop (z.toNat * st)).take (cellsN n)))
    rw [h1, vint hii]
    have hc : 0 ≤ z ∧ z < (len : Int) := ⟨h0, hlt⟩
    simp [Instr.index, asIntOf, und_run ht, hc, size_run hst, part_sound hn hl]
   ·cases hv
  ·cases hc
 ·cases hc
theorem checkKey_run {e kt kk x} {k : AV} (hk : scalar? P kt = some kk) (hkey : isKey kk k = true) (hx : VRel S m w k x) : (Instr.checkKey e 10000 kt x).run P w = .ok () w := by
 have hd : ∃ d, P.underlying kt = some d := by unfold scalar? at hk; split at hk <;> first | exact ⟨_, by assumption⟩ | cases hk
 obtain ⟨d, hd⟩ := hd
 rw [show (10000 : Nat) = 9999 + 1 from rfl, Instr.checkKey]
 simp only [Sem.run_bind, und_run hd, Result.andThen_ok]
 rcases scalar_desc hk hd with ⟨rfl, rfl⟩ | ⟨rfl, k', rfl⟩ | ⟨rfl, rfl⟩
 ·cases k <;> simp [isKey] at hkey
  rw [vbool hx]; rfl
 ·cases k <;> simp [isKey] at hkey
  rw [vint hx]; rfl
 ·cases k <;> simp [isKey] at hkey
  obtain ⟨s, rfl, _⟩ := vstr hx; rfl
theorem good_lookup (hE : ∀ x y, compO x = some y → VRel S m w (ev y) (ρ x)) (r : Rep S m h w) {o : Oper} {ao v t x k ok} (ho : o.op = .lookup t x k ok) (hc : compOp P o = some ao) (hv : pOp ev h ao = some v) : PGood P S m w ρ o v := by
 simp only [compOp, ho] at hc
 have exe : execOp ρ o = (do pure (.value (← Instr.lookup t (ρ x) (ρ k) ok))) := by simp only [execOp, ho]
 split at hc
 ·rename_i kt e y j ht hx hi
  split at hc
  ·rename_i kk z hkk hz
   rw [Option.map_eq_some_iff] at hc
   obtain ⟨za, hza, rfl⟩ := hc
   have hxx := hE _ _ hx
   have hii := hE _ _ hi
   have hzr : (zeroValue e).run P w = .ok z w := by
    rw [Option.bind_eq_some_iff] at hz
    obtain ⟨i, h1, h2⟩ := hz
    simp [zeroValue, info_run h1, h2]
   have hzv : VRel S m w za z := ofV_sound hza
   simp only [pOp, Option.map_eq_some_iff] at hv
   obtain ⟨res, hres, hv⟩ := hv
   split at hres <;> first | (cases hres; done) | skip
   rename_i hkey
   have hck : ∀ b, (Instr.checkKey b 10000 kt (ρ k)).run P w = .ok () w := fun b => checkKey_run hkk hkey hii
   have hd : ∃ d, P.underlying kt = some d := by unfold scalar? at hkk; split at hkk <;> first | exact ⟨_, by assumption⟩ | cases hkk
   obtain ⟨d, hd⟩ := hd
   split at hres
   ·rename_i he
    cases hres
    cases hv
    rw [he] at hxx
    have hxv : ρ x = .map none := by generalize ρ x = xv at hxx; cases hxx; rfl
    have hf : (Instr.findKey kt (ρ k) []).run P w = .ok none w := by simp [Instr.findKey, und_run hd, Instr.findNow]
    refine PGood.of exe (x := if ok then .tuple #[z, .bool false] else z) ?_ ?_
    ·rw [hxv]
     simp only [Instr.lookup, Sem.run_bind, und_run ht, Sem.run_pure, Result.andThen_ok, hck, hf, hzr]
    ·cases ok
     ·exact hzv
     ·exact LRel.tup (LRel.cons hzv (LRel.cons .bool LRel.nil))
   ·rename_i id he
    split at hres <;> first | (cases hres; done) | skip
    rename_i es hes
    rw [he] at hxx
    obtain ⟨b, ck, en, g1, g2, g3, g4, g5⟩ := r.blk _ _ hes
    have hxv : ρ x = .map (some b) := by
     generalize ρ x = xv at hxx
     cases hxx with
     | map g => rw [g1] at g; cases g; rfl
    have hobj : (getObj b).run P w = .ok (.map en ck) w := by simp [getObj, Sem.run, g2]
    have hfk := findK_sound hd hkk hii hkey es en.toList 0 res hres g3 g4
    cases res with
    | none =>
     have hf : (Instr.findKey kt (ρ k) en.toList).run P w = .ok none w := by simp [Instr.findKey, und_run hd, hfk]
     cases hv
     refine PGood.of exe (x := if ok then .tuple #[z, .bool false] else z) ?_ ?_
     ·rw [hxv]
      simp only [Instr.lookup, Sem.run_bind, und_run ht, Sem.run_pure, Result.andThen_ok, hck, hf, hzr, hobj]
     ·cases ok
      ·exact hzv
      ·exact LRel.tup (LRel.cons hzv (LRel.cons .bool LRel.nil))
    | some jv =>
     obtain ⟨j', va⟩ := jv
     obtain ⟨_, e', ev', k1, k2, k3, k4, k5⟩ := hfk
     have hf : (Instr.findKey kt (ρ k) en.toList).run P w = .ok (some (j', e'.val)) w := by simp [Instr.findKey, und_run hd, k4]
     cases hv
     refine PGood.of exe (x := if ok then .tuple #[e'.val, .bool true] else e'.val) ?_ ?_
     ·rw [hxv]
      simp only [Instr.lookup, Sem.run_bind, und_run ht, Sem.run_pure, Result.andThen_ok, hck, hf, hzr, hobj]
     ·cases ok
      ·exact k5
      ·exact LRel.tup (LRel.cons k5 (LRel.cons .bool LRel.nil))
   ·cases hres
  ·cases hc
 ·cases hc
theorem good_extract (hE : ∀ x y, compO x = some y → VRel S m w (ev y) (ρ x)) {o : Oper} {ao v x i} (ho : o.op = .extract x i) (hc : compOp P o = some ao) (hv : pOp ev h ao = some v) : PGood P S m w ρ o v := by
 simp only [compOp, ho, Option.map_eq_some_iff] at hc
 obtain ⟨y, hx, rfl⟩ := hc
 have hxx := hE _ _ hx
 simp only [pOp] at hv
 split at hv
 ·rename_i vs he
  rw [he] at hxx
  obtain ⟨us, h1, h2⟩ := hxx.tup_inv
  obtain ⟨u, h3, h4⟩ := h2.get hv
  rw [Array.getElem?_toList] at h3
  exact PGood.of (s := Instr.extract (ρ x) i) (by simp only [execOp, ho]) (by rw [h1]; simp [Instr.extract, h3]) h4
 ·cases hv
theorem exe_builtin {o : Oper} {b args ats} (ho : o.op = .call { callee := .builtin b, args, argTypes := ats }) : execOp ρ o = builtin b ats o.type (args.map fun | .const _ => true | _ => false) (args.map ρ) := by
 simp only [execOp, ho, resolve]
 rfl
theorem good_len (hE : ∀ x y, compO x = some y → VRel S m w (ev y) (ρ x)) (r : Rep S m h w) {o : Oper} {ao v args ats} (ho : o.op = .call { callee := .builtin .len, args, argTypes := ats }) (hc : compOp P o = some ao) (hv : pOp ev h ao = some v) : PGood P S m w ρ o v := by
 simp only [compOp, ho] at hc
 split at hc
 ·rename_i t ts x xs hb0 hat hl
  have hL := compL_sound (l := args.toList) hE hl
  have exe : execOp ρ o = (do pure (.value (← Builtin.len_ ats o.type (args.map ρ)))) := by rw [exe_builtin ho]; rfl
  obtain ⟨xv, rest, h1, h2, h3⟩ := hL.head
  have hat0 : ats[0]? = some t := by rw [← Array.getElem?_toList, hat]; rfl
  have harg0 : (args.map ρ)[0]? = some xv := by rw [← Array.getElem?_toList, Array.toList_map, h1]; rfl
  split at hc <;> first | (cases hc; done) | skip
  ·rename_i ht
   cases hc
   simp only [pOp] at hv
   split at hv <;> first | (cases hv; done) | skip
   all_goals first | (rename_i hk _; cases hk; done) | skip
   rename_i s _ he
   cases hv
   rw [he] at h2
   obtain ⟨q, rfl, rfl⟩ := vstr h2
   refine PGood.of exe (by unfold Builtin.len_; simp only [hat0, harg0, Sem.run_bind, und_run ht, Result.andThen_ok]; rfl) ?_
   have : q.data.toList.length = q.size := by simp [ByteArray.size_data]
   rw [this]; exact .int
  ·rename_i e ht
   cases hc
   simp only [pOp] at hv
   split at hv <;> first | (cases hv; done) | skip
   all_goals first | (rename_i hk _; cases hk; done) | skip
   all_goals
    rename_i he
    cases hv
    rw [he] at h2
    cases h2
    all_goals exact PGood.of exe (by unfold Builtin.len_; simp only [hat0, harg0, Sem.run_bind, und_run ht, Result.andThen_ok]; rfl) .int
  ·rename_i kt e ht
   cases hc
   simp only [pOp] at hv
   split at hv <;> first | (cases hv; done) | skip
   all_goals first | (rename_i hk _; cases hk; done) | skip
   ·rename_i _ he
    cases hv
    rw [he] at h2
    cases h2
    exact PGood.of exe (by unfold Builtin.len_; simp only [hat0, harg0, Sem.run_bind, und_run ht, Result.andThen_ok]; rfl) .int
   ·rename_i id _ he
    split at hv <;> first | (cases hv; done) | skip
    rename_i es hes
    cases hv
    rw [he] at h2
    obtain ⟨b, ck, en, g1, g2, g3, g4, g5⟩ := r.blk _ _ hes
    have hobj : (getObj b).run P w = .ok (.map en ck) w := by simp [getObj, Sem.run, g2]
    cases h2 with
    | map g =>
     rw [g1] at g; cases g
     have hlen : es.length = en.size := by have := g3.1; simpa using this
     refine PGood.of exe (x := goInt en.size) ?_ (by rw [hlen]; exact .int)
     unfold Builtin.len_
     simp only [hat0, harg0, Sem.run_bind, und_run ht, Result.andThen_ok, hobj]
     rfl
 all_goals first | contradiction | (cases hc; done)
end
open Go
section
variable {P : Program} {S : Nat → Prop} {m : Emb} {h : List Blk} {w : World} {ρ : Operand → Value} {ev : AO → AV}
theorem splice_fold (off : Nat) : ∀ (vs : List Value) (k : Nat) (cs : Array Value), off + k + vs.length ≤ cs.size →
    ((vs.zipIdx k).foldl (fun cs (c, j) => cs.setIfInBounds (off + j) c) cs).toList = cs.toList.take (off + k) ++ (vs ++ cs.toList.drop (off + k + vs.length))
  | [], k, cs, hl => by simp
  | v :: r, k, cs, hl => by
    rw [List.zipIdx_cons, List.foldl_cons, splice_fold off r (k + 1) _ (by simp at hl ⊢; omega)]
    simp only [Array.toList_setIfInBounds, List.length_cons] at hl ⊢
    have h1 : (cs.toList.set (off + k) v).take (off + (k + 1)) = cs.toList.take (off + k) ++ [v] := by
      rw [show off + (k + 1) = off + k + 1 by omega, List.take_add_one]
      rw [List.take_set_of_le (by omega)]
      simp only [List.getElem?_set, if_true, Array.length_toList]
      rw [if_pos (by omega)]
      rfl
    have h2 : (cs.toList.set (off + k) v).drop (off + (k + 1) + r.length) = cs.toList.drop (off + k + (r.length + 1)) := by
      rw [List.drop_set_of_lt (by omega)]
      congr 1; omega
    rw [h1, h2]
    simp
theorem splice_rel {off : Nat} {cs vs : List AV} {xs ys : List Value} (h1 : LRel S m w cs xs) (h2 : LRel S m w vs ys) : LRel S m w (splice cs off vs) (xs.take off ++ (ys ++ xs.drop (off + ys.length))) := by
  unfold splice
  rw [← h2.1]
  exact (h1.take off).append (h2.append (h1.drop _))
theorem splice_len {cs vs : List AV} {off : Nat} (hl : off + vs.length ≤ cs.length) : (splice cs off vs).length = cs.length := by
  unfold splice; simp; omega
theorem fill_sound (place : Nat → Option (Nat × Nat)) : ∀ (ps : List (Nat × List AV)) (qs : List (Nat × Value)) (z : List AV) (cells : Array Value), goodFill z.length ps = true → LRel S m w z cells.toList →
    ps.length = qs.length → (∀ (k : Nat) (p : Nat × List AV) (q : Nat × Value), ps[k]? = some p → qs[k]? = some q → ∃ n, place q.1 = some (p.1, n) ∧ p.2.length = n ∧ LRel S m w p.2 q.2.cells.toList) →
    ∃ c, Instr.fill place cells qs = some c ∧ LRel S m w (fillL z ps) c.toList
  | [], qs, z, cells, hg, hz, hl, hp => by
    have : qs = [] := List.eq_nil_of_length_eq_zero hl.symm
    subst this
    exact ⟨cells, rfl, hz⟩
  | (off, vs) :: r, qs, z, cells, hg, hz, hl, hp => by
    cases qs with
    | nil => simp at hl
    | cons q qr =>
      obtain ⟨i, v⟩ := q
      obtain ⟨n, h1, h2, h3⟩ := hp 0 (off, vs) (i, v) rfl rfl
      replace h2 : vs.length = n := h2
      replace h3 : LRel S m w vs v.cells.toList := h3
      replace h1 : place i = some (off, n) := h1
      simp only [goodFill, Bool.and_eq_true, decide_eq_true_eq] at hg
      obtain ⟨hg1, hg2⟩ := hg
      have hvl : v.cells.size = n := by have := h3.1; simp at this; omega
      have hcl : cells.size = z.length := by have := hz.1; simp at this; exact this.symm
      have hf := splice_fold off v.cells.toList 0 cells (by simp; omega)
      simp only [Nat.add_zero] at hf
      have hz' := splice_rel (off := off) hz h3
      have hsl : (splice z off vs).length = z.length := splice_len hg1
      obtain ⟨c, h4, h5⟩ := fill_sound place r qr (splice z off vs) (v.cells.zipIdx.foldl (fun cs (c, j) => cs.setIfInBounds (off + j) c) cells) (by rw [hsl]; exact hg2)
        (by
          have e : (v.cells.zipIdx.foldl (fun cs (c, j) => cs.setIfInBounds (off + j) c) cells).toList = ((v.cells.toList.zipIdx 0).foldl (fun cs (c, j) => cs.setIfInBounds (off + j) c) cells).toList := by
            rw [← Array.foldl_toList, Array.toList_zipIdx]
          rw [e, hf]; exact hz')
        (by simpa using hl) (fun k p q hpk hqk => hp (k + 1) p q (by simpa using hpk) (by simpa using hqk))
      refine ⟨c, ?_, h5⟩
      rw [Instr.fill, h1]
      simp only
      rw [if_neg (by simp only [Bool.or_eq_true, bne_iff_ne, decide_eq_true_eq, ne_eq]; omega)]
      exact h4
theorem zero?_sound {t z} (hz : zero? P t = some z) : ∃ i v, P.info? t = some i ∧ i.zero = some v ∧ ∃ a, ofV v = some a ∧ z = a.cells := by
  unfold zero? at hz
  rw [Option.bind_eq_some_iff] at hz
  obtain ⟨v, h1, h2⟩ := hz
  rw [Option.bind_eq_some_iff] at h1
  obtain ⟨i, h3, h4⟩ := h1
  rw [Option.map_eq_some_iff] at h2
  obtain ⟨a, h5, h6⟩ := h2
  exact ⟨i, v, h3, h4, a, h5, h6.symm⟩
theorem ofV_ne_dead {v a} (h : ofV v = some a) : a ≠ .dead := by
  rintro rfl
  unfold ofV at h
  split at h
  · rw [Option.map_eq_some_iff] at h; obtain ⟨_, _, h⟩ := h; cases h
  · split at h <;> cases h
  · unfold ofV1 at h; split at h <;> first | (cases h; done) | (split at h <;> cases h)
theorem compL_get {α β : Type} {f : α → Option β} : ∀ {l : List α} {l' : List β}, compL f l = some l' → l.length = l'.length ∧ ∀ (k : Nat) (x : α), l[k]? = some x → ∃ y, f x = some y ∧ l'[k]? = some y
  | [], l', h => by cases h; exact ⟨rfl, fun k x hx => by simp at hx⟩
  | a :: r, l', h => by
    rw [compL] at h
    split at h
    · rename_i y l h1 h2
      cases h
      obtain ⟨h3, h4⟩ := compL_get h2
      refine ⟨by simp [h3], fun k x hx => ?_⟩
      cases k with
      | zero => simp at hx; subst hx; exact ⟨y, h1, by simp⟩
      | succ k => simpa using h4 k x (by simpa using hx)
    · cases h
theorem good_build (hE : ∀ x y, compO x = some y → VRel S m w (ev y) (ρ x)) {o : Oper} {ao v t ps} (ho : o.op = .build t ps) (hc : compOp P o = some ao) (hv : pOp ev h ao = some v) : PGood P S m w ρ o v := by
  simp only [compOp, ho] at hc
  split at hc
  · rename_i fs z ht hz
    split at hc
    · rename_i places hpl
      rw [Option.map_eq_some_iff] at hc
      obtain ⟨l, hl, rfl⟩ := hc
      simp only [pOp] at hv
      split at hv <;> first | (cases hv; done) | skip
      rename_i hcond
      cases hv
      rw [Bool.and_eq_true] at hcond
      obtain ⟨hall, hfill⟩ := hcond
      obtain ⟨i, zv, hi, hzv, a, ha, rfl⟩ := zero?_sound hz
      have hzr := (ofV_sound (S := S) (m := m) (w := w) ha).cells (ofV_ne_dead ha)
      obtain ⟨hlen, hget⟩ := compL_get hl
      obtain ⟨c, h1, h2⟩ := fill_sound (S := S) (m := m) (w := w) (fun j => places.toArray[j]?) (l.map fun x => (x.1, (ev x.2.2).cells)) ((ps.toList.map fun x => (x.1, ρ x.2))) a.cells zv.cells hfill hzr (by simp [hlen])
        (by
          intro k p q hp hq
          rw [List.getElem?_map, Option.map_eq_some_iff] at hp hq
          obtain ⟨⟨off, n, x⟩, hp1, rfl⟩ := hp
          obtain ⟨⟨j, y⟩, hq1, rfl⟩ := hq
          obtain ⟨y', hy1, hy2⟩ := hget k _ hq1
          rw [hp1] at hy2
          cases hy2
          simp only at hy1
          split at hy1
          · rename_i off' n' x' hpj hcy
            cases hy1
            have hk := (List.all_eq_true.1 hall) (off, n, x) (List.mem_of_getElem? hp1)
            simp only [Bool.and_eq_true, beq_iff_eq, bne_iff_ne, ne_eq] at hk
            have hx := hE _ _ hcy
            have hnd : ev x ≠ .dead := by intro hd; rw [hd] at hk; simp [AV.cells] at hk; omega
            exact ⟨n, by simpa using hpj, hk.1, hx.cells hnd⟩
          · cases hy1)
      have hb : P.built t (ps.map fun x => (x.1, ρ x.2)).toList = some c := by
        unfold Program.built
        rw [hi, ht]
        simp only [hzv, hpl]
        rw [Array.toList_map]
        exact h1
      exact PGood.of (s := Instr.build t (ps.map fun (i, x) => (i, ρ x))) (by simp only [execOp, ho]) (run_build w t _ c hb) (LRel.agg h2)
    · cases hc
  · cases hc
theorem mxmn_fold (mx : Bool) (k : IntKind) : ∀ (l : List AV) (xs : List Value) (a : Int) (v : AV), l.foldlM (fun acc v => match acc, v with
      | .int k x, .int _ y => some (AV.int k (if mx then (if y > x then y else x) else (if y < x then y else x)))
      | _, _ => none) (.int k a) = some v → LRel S m w l xs → ∃ x, (xs.foldlM (if mx then Builtin.max2 else Builtin.min2) (.int k a)).run P w = .ok x w ∧ VRel S m w v x
  | [], xs, a, v, hf, hL => by
    rw [hL.nil_r]
    cases hf
    exact ⟨_, rfl, .int⟩
  | c :: r, xs, a, v, hf, hL => by
    obtain ⟨x, xr, rfl, h1, h2⟩ := hL.head
    rw [List.foldlM_cons] at hf
    cases c <;> simp only [Option.bind_eq_bind, Option.bind_none] at hf <;> first | (cases hf; done) | skip
    rename_i k' y
    rw [vint h1]
    simp only [Option.bind_some] at hf
    obtain ⟨z, h3, h4⟩ := mxmn_fold mx k r xr _ v hf h2
    refine ⟨z, ?_, h4⟩
    rw [List.foldlM_cons, Sem.run_bind]
    cases mx
    · simp only [Bool.false_eq_true, if_false] at h3 ⊢
      rw [Builtin.min2]
      exact h3
    · simp only [if_true] at h3 ⊢
      rw [Builtin.max2]
      exact h3
theorem good_mxmn (hE : ∀ x y, compO x = some y → VRel S m w (ev y) (ρ x)) {o : Oper} {v args ats b mx} (hb : (b = .max ∧ mx = true) ∨ (b = .min ∧ mx = false)) (ho : o.op = .call { callee := .builtin b, args, argTypes := ats }) {l} (hl : compL compO args.toList = some l) (hv : pOp ev h (.mxmn mx l) = some v) : PGood P S m w ρ o v := by
  have hL := compL_sound (l := args.toList) hE hl
  simp only [pOp] at hv
  split at hv <;> first | (cases hv; done) | skip
  rename_i k a r he
  rw [he] at hL
  obtain ⟨x, xr, h1, h2, h3⟩ := hL.head
  rw [vint h2] at h1
  obtain ⟨z, h4, h5⟩ := mxmn_fold (P := P) mx k r xr a v hv h3
  have hargs : (args.map ρ).toList = .int k a :: xr := by rw [Array.toList_map, h1]
  rcases hb with ⟨rfl, rfl⟩ | ⟨rfl, rfl⟩
  · refine PGood.of (s := Builtin.max_ ats o.type (args.map ρ)) (by rw [exe_builtin ho]; rfl) ?_ h5
    unfold Builtin.max_
    rw [hargs]
    exact h4
  · refine PGood.of (s := Builtin.min_ ats o.type (args.map ρ)) (by rw [exe_builtin ho]; rfl) ?_ h5
    unfold Builtin.min_
    rw [hargs]
    exact h4
theorem pOp_sound (hC : ∀ v, ρ (.const v) = v) (hE : ∀ x y, compO x = some y → VRel S m w (ev y) (ρ x)) (r : Rep S m h w) {o : Oper} {ao v} (hc : compOp P o = some ao) (hv : pOp ev h ao = some v) : PGood P S m w ρ o v := by
  cases ho : o.op with
  | move x => exact good_mv hE (.inl ⟨_, ho⟩) hc hv
  | assign x => exact good_mv hE (.inr ⟨_, ho⟩) hc hv
  | pick c a b => exact good_pick hE ho hc hv
  | build t ps => exact good_build hE ho hc hv
  | load t x => exact good_load hE r ho hc hv
  | nilCheck x => exact good_nilck hE ho hc hv
  | binOp op t x y u => exact good_cmp hC hE ho hc hv
  | unOp op t x => exact good_un hE ho hc hv
  | convert s d x =>
    by_cases hl : ao.loud = false
    · exact good_conv hE r ho hc hl hv
    · exfalso
      cases ao <;> simp [AOp.loud] at hl <;> simp [pOp] at hv
  | makeFunc f a c => exact good_mkfn hE ho hc hv
  | slice t x lo hi mx => exact good_slice hE r ho hc hv
  | fieldAddr t x f => exact good_fieldAddr hE ho hc hv
  | field t x f => exact good_field hE ho hc hv
  | indexAddr t x i => exact good_idxAddr hE ho hc hv
  | index t x i => exact good_index hE ho hc hv
  | lookup t x k ok => exact good_lookup hE r ho hc hv
  | extract x i => exact good_extract hE ho hc hv
  | call c =>
    obtain ⟨callee, args, ats⟩ := c
    cases callee with
    | builtin b =>
      by_cases hlen : b = .len
      · subst hlen; exact good_len hE r ho hc hv
      · have hc0 := hc
        simp only [compOp, ho] at hc
        split at hc
        · exact absurd rfl hlen
        · split at hc <;> first | (cases hc; done) | skip
          all_goals
            split at hc <;> first | (cases hc; done) | skip
            cases hc
            simp [pOp] at hv
        · split at hc <;> first | (cases hc; done) | skip
          split at hc <;> first | (cases hc; done) | skip
          cases hc
          simp [pOp] at hv
        · split at hc <;> first | (cases hc; done) | skip
          rw [Option.map_eq_some_iff] at hc
          obtain ⟨kk, _, rfl⟩ := hc
          simp [pOp] at hv
        · rename_i hl
          cases hc
          exact good_mxmn hE (.inl ⟨rfl, rfl⟩) ho hl hv
        · rename_i hl
          cases hc
          exact good_mxmn hE (.inr ⟨rfl, rfl⟩) ho hl hv
        · split at hc <;> first | (cases hc; done) | skip
          split at hc <;> cases hc
          simp [pOp] at hv
        · cases hc
    | value f =>
      simp only [compOp, ho] at hc
      split at hc <;> cases hc
      simp [pOp] at hv
    | invoke f n => simp only [compOp, ho] at hc; cases hc
  | alloc t => exact absurd hv (by simp only [compOp, ho] at hc; split at hc <;> cases hc; simp [pOp])
  | box t x => exact absurd hv (by simp only [compOp, ho] at hc; split at hc <;> first | (cases hc; done) | skip
                                   split at hc <;> cases hc; simp [pOp])
  | buildSlice t n ps => exact absurd hv (by simp only [compOp, ho] at hc; split at hc <;> first | (cases hc; done) | skip
                                             split at hc <;> first | (cases hc; done) | skip
                                             rw [Option.map_eq_some_iff] at hc; obtain ⟨_, _, rfl⟩ := hc; simp [pOp])
  | store t a x => exact absurd hv (by simp only [compOp, ho] at hc; split at hc <;> first | (cases hc; done) | skip
                                       split at hc <;> cases hc; simp [pOp])
  | makeMap t n => exact absurd hv (by cases n <;> simp only [compOp, ho] at hc <;> cases hc; simp [pOp])
  | makeSlice t l c => exact absurd hv (by simp only [compOp, ho] at hc; split at hc <;> first | (cases hc; done) | skip
                                           split at hc <;> cases hc; simp [pOp])
  | mapUpdate t a k x => exact absurd hv (by simp only [compOp, ho] at hc; split at hc <;> first | (cases hc; done) | skip
                                             rw [Option.map_eq_some_iff] at hc; obtain ⟨_, _, rfl⟩ := hc; simp [pOp])
  | insert t a k x => exact absurd hv (by simp only [compOp, ho] at hc; split at hc <;> first | (cases hc; done) | skip
                                          rw [Option.map_eq_some_iff] at hc; obtain ⟨_, _, rfl⟩ := hc; simp [pOp])
  | _ => simp [compOp, ho] at hc
end
open Go
section
variable {P : Program} {S : Nat → Prop} {m : Emb} {h : List Blk} {w : World}
def upd (m : Emb) (id : Nat) (x : Nat × Nat × Nat) : Emb := fun i => if i = id then some x else m i
theorem upd_self {id x} : upd m id x id = some x := if_pos rfl
theorem upd_ne {i id x} (hne : i ≠ id) : upd m id x i = m i := if_neg hne
theorem upd_le {id x} (hd : m id = none) : ∀ i y, m i = some y → upd m id x i = some y := fun i y hy => by
 by_cases e : i = id
 ·subst e; rw [hd] at hy; cases hy
 ·rw [upd_ne e]; exact hy
structure Like (w w' : World) : Prop where
 os : w'.os = w.os
 tape : w'.tape = w.tape
 output : w'.output = w.output
theorem live_append {id bl} (hl : live (h ++ [bl]) id) : live h id ∨ (id = h.length ∧ bl ≠ .gone) := by
 obtain ⟨b, h1, h2⟩ := hl
 by_cases hlt : id < h.length
 ·rw [List.getElem?_append_left hlt] at h1; exact .inl ⟨b, h1, h2⟩
 ·rw [List.getElem?_append_right (by omega)] at h1
  by_cases e : id = h.length
  ·subst e
   simp at h1
   exact .inr ⟨rfl, h1 ▸ h2⟩
  ·rw [List.getElem?_eq_none (by simp; omega)] at h1; cases h1
theorem lt_of_get {α : Type} {l : List α} {i : Nat} {x : α} (hx : l[i]? = some x) : i < l.length := (List.getElem?_eq_some_iff.1 hx).1
theorem BRel.keep {S' m' w'} (r : Rep S m h w) {id bl} (hb : BRel S m w id bl) (k : Kp S m w S' m' w') (hblk : ∀ b, (∃ d z, m id = some (b, d, z)) → bl ≠ .gone → w'.heap[b]? = w.heap[b]? ∧ ¬ S' b) : BRel S' m' w' id bl := by
 cases bl with
 | gone => trivial
 | cells cs =>
  obtain ⟨b, d, t, fz, c, h1, h2, h3, h4, h5, h6⟩ := hb
  have := hblk b ⟨_, _, h1⟩ (by simp)
  exact ⟨b, d, t, fz, c, k.km _ _ h1, this.1.trans h2, h3, h4, h5.keep k, this.2⟩
 | map es =>
  obtain ⟨b, ck, en, h1, h2, h3, h4, h5⟩ := hb
  have := hblk b ⟨_, _, h1⟩ (by simp)
  exact ⟨b, ck, en, k.km _ _ h1, this.1.trans h2, h3.keep k, h4.keep k, this.2, h5.2⟩
theorem rep_new (r : Rep S m h w) {w' : World} (lk : Like w w') {o : Obj} (hw : w'.heap = w.heap.push o) (z : Nat) {bl : Blk} (hne : bl ≠ .gone)
  (hb : ∀ S' m' w', m' h.length = some (w.heap.size, 0, z) → w'.heap[w.heap.size]? = some o → (∀ v x, VRel S m w v x → VRel S' m' w' v x) → ¬ S' w.heap.size → BRel S' m' w' h.length bl) :
  let m' := upd m h.length (w.heap.size, 0, z)
  Rep S m' (h ++ [bl]) w' ∧ Stp S m h w S m' (h ++ [bl]) w' := by
 intro m'
 have hdom : m h.length = none := r.dom _ (Nat.le_refl _)
 have hold : ∀ b, b < w.heap.size → w'.heap[b]? = w.heap[b]? := fun b hlt => by rw [hw, Array.getElem?_push, if_neg (by omega)]
 have hk : Kp S m w S m' w' := ⟨fun _ h => h, fun b hS => hold b (r.sb b hS), upd_le hdom⟩
 have hnS : ¬ S w.heap.size := fun hS => absurd (r.sb _ hS) (Nat.lt_irrefl _)
 have hsz : w'.heap.size = w.heap.size + 1 := by rw [hw]; simp
 have hown : ∀ id b, owns (h ++ [bl]) m' id b → (id = h.length ∧ b = w.heap.size) ∨ owns h m id b := by
  rintro id b ⟨⟨d, z', hm⟩, hl⟩
  by_cases e : id = h.length
  ·subst e
   have : m' h.length = some (w.heap.size, 0, z) := upd_self
   rw [this] at hm
   cases hm
   exact .inl ⟨rfl, rfl⟩
  ·rcases live_append hl with hl | ⟨e', _⟩
   ·exact .inr ⟨⟨d, z', by rw [show m' id = m id from upd_ne e] at hm; exact hm⟩, hl⟩
   ·exact absurd e' e
 refine ⟨⟨?_, ?_, ?_, ?_⟩, ⟨fun _ h => h, upd_le hdom, lk.os, lk.tape, lk.output, by omega, by simp, ?_, ?_, fun _ h => .inl h⟩⟩
 ·intro b hS; have := r.sb b hS; omega
 ·intro id hid
  have : id ≠ h.length := by simp at hid; omega
  rw [show m' id = m id from upd_ne this]
  exact r.dom id (by simp at hid; omega)
 ·intro id b' hb'
  by_cases hlt : id < h.length
  ·rw [List.getElem?_append_left hlt] at hb'
   refine (r.blk id b' hb').keep r hk fun b hm hg => ?_
   have ho : owns h m id b := ⟨hm, b', hb', hg⟩
   exact ⟨hold b (owns_lt r ho), owns_not_S r ho⟩
  ·have e : id = h.length := by have := lt_of_get hb'; simp at this; omega
   subst e
   simp at hb'
   subst hb'
   exact hb S m' w' upd_self (by rw [hw]; simp) (fun v x hv => hv.keep hk) hnS
 ·intro i j b hi hj
  rcases hown i b hi with ⟨rfl, rfl⟩ | hi
  ·rcases hown j _ hj with ⟨rfl, _⟩ | hj
   ·rfl
   ·exact absurd (owns_lt r hj) (Nat.lt_irrefl _)
  ·rcases hown j b hj with ⟨rfl, rfl⟩ | hj
   ·exact absurd (owns_lt r hi) (Nat.lt_irrefl _)
   ·exact r.inj i j b hi hj
 ·intro b hlt _; exact hold b hlt
 ·intro id b ho hlt
  rcases hown id b ho with ⟨rfl, rfl⟩ | ho
  ·omega
  ·exact ⟨id, ho⟩
theorem rep_cells (r : Rep S m h w) {w' : World} (lk : Like w w') {c : Array Value} {t fz} (hw : w'.heap = w.heap.push (.cells c t fz)) {cs : List AV} (hl : LRel S m w cs (c.toList.take cs.length)) (hle : cs.length ≤ c.size) (hfz : ∀ j, ¬ (fz.1 ≤ j ∧ j < fz.2)) :
  Rep S (upd m h.length (w.heap.size, 0, c.size)) (h ++ [.cells cs]) w' ∧ Stp S m h w S (upd m h.length (w.heap.size, 0, c.size)) (h ++ [.cells cs]) w' :=
 rep_new r lk hw c.size (by simp) fun S' m' w' h1 h2 h3 h4 => ⟨_, 0, t, fz, c, h1, h2, by omega, fun j _ => hfz j, ⟨by simpa using hl.1, fun i hi => h3 _ _ (by simpa using hl.2 i hi)⟩, h4⟩
theorem rep_set (r : Rep S m h w) {w' : World} (lk : Like w w') {id : Nat} {bl bl' : Blk} (hbl : h[id]? = some bl) (hg : bl ≠ .gone) {b : Nat} (hm : ∃ d z, m id = some (b, d, z)) (hw : ∀ k, k ≠ b → w'.heap[k]? = w.heap[k]?) (hsz : w'.heap.size = w.heap.size)
  (hb : ∀ S' m' w'', (∀ x, m id = some x → m' id = some x) → w''.heap[b]? = w'.heap[b]? → (∀ v x, VRel S m w v x → VRel S' m' w'' v x) → ¬ S' b → BRel S' m' w'' id bl') :
  Rep S m (h.set id bl') w' ∧ Stp S m h w S m (h.set id bl') w' := by
 have ho : owns h m id b := ⟨hm, bl, hbl, hg⟩
 have hid := lt_of_get hbl
 have hnS := owns_not_S r ho
 have hk : Kp S m w S m w' := ⟨fun _ h => h, fun k hS => hw k (fun e => hnS (e ▸ hS)), fun _ _ h => h⟩
 have hown : ∀ i k, owns (h.set id bl') m i k → owns h m i k := by
  rintro i k ⟨h1, b', h2, h3⟩
  by_cases e : id = i
  ·subst e; exact ⟨h1, bl, hbl, hg⟩
  ·rw [List.getElem?_set_ne e] at h2; exact ⟨h1, b', h2, h3⟩
 refine ⟨⟨?_, ?_, ?_, ?_⟩, ⟨fun _ h => h, fun _ _ h => h, lk.os, lk.tape, lk.output, by omega, by simp, ?_, ?_, fun _ h => .inl h⟩⟩
 ·intro k hS; rw [hsz]; exact r.sb k hS
 ·intro i hi; exact r.dom i (by simpa using hi)
 ·intro i b' hb'
  by_cases e : id = i
  ·subst e
   rw [List.getElem?_set_self hid] at hb'
   cases hb'
   exact hb S m w' (fun _ h => h) rfl (fun v x hv => hv.keep hk) hnS
  ·rw [List.getElem?_set_ne e] at hb'
   refine (r.blk i b' hb').keep r hk fun k hmk hgk => ?_
   have hok : owns h m i k := ⟨hmk, b', hb', hgk⟩
   have : k ≠ b := fun e' => e (r.inj _ _ _ ho (e' ▸ hok))
   exact ⟨hw k this, owns_not_S r hok⟩
 ·intro i j k hi hj; exact r.inj i j k (hown _ _ hi) (hown _ _ hj)
 ·intro k hk' hn; exact hw k (fun e => hn id (e ▸ ho))
 ·intro i k hi _; exact ⟨i, hown _ _ hi⟩
theorem rep_gone (r : Rep S m h w) {id : Nat} (hid : id < h.length) : Rep S m (h.set id .gone) w ∧ Stp S m h w S m (h.set id .gone) w := by
 have hown : ∀ i k, owns (h.set id .gone) m i k → owns h m i k := by
  rintro i k ⟨h1, b', h2, h3⟩
  by_cases e : id = i
  ·subst e
   rw [List.getElem?_set_self hid] at h2
   cases h2
   exact absurd rfl h3
  ·rw [List.getElem?_set_ne e] at h2; exact ⟨h1, b', h2, h3⟩
 refine ⟨⟨r.sb, fun i hi => r.dom i (by simpa using hi), ?_, fun i j k hi hj => r.inj i j k (hown _ _ hi) (hown _ _ hj)⟩, ⟨fun _ h => h, fun _ _ h => h, rfl, rfl, rfl, Nat.le_refl _, by simp, fun _ _ _ => rfl, fun i k hi _ => ⟨i, hown _ _ hi⟩, fun _ h => .inl h⟩⟩
 intro i b' hb'
 by_cases e : id = i
 ·subst e
  rw [List.getElem?_set_self hid] at hb'
  cases hb'
  trivial
 ·rw [List.getElem?_set_ne e] at hb'; exact r.blk i b' hb'
theorem rep_move (r : Rep S m h w) {w' : World} (lk : Like w w') {id : Nat} {cs : List AV} (hbl : h[id]? = some (.cells cs)) {b d z : Nat} (hm : m id = some (b, d, z)) (hw : ∀ k, k ≠ b → w'.heap[k]? = w.heap[k]?) (hsz : w'.heap.size = w.heap.size) (d' : Nat) {bl' : Blk}
  (hb : ∀ S' m' w'', m' h.length = some (b, d', z) → w''.heap[b]? = w'.heap[b]? → (∀ v x, VRel S m w v x → VRel S' m' w'' v x) → ¬ S' b → BRel S' m' w'' h.length bl') :
  Rep S (upd m h.length (b, d', z)) (h.set id .gone ++ [bl']) w' ∧ Stp S m h w S (upd m h.length (b, d', z)) (h.set id .gone ++ [bl']) w' := by
 have ho : owns h m id b := ⟨⟨_, _, hm⟩, _, hbl, by simp⟩
 have hid := lt_of_get hbl
 have hnS := owns_not_S r ho
 have hdom : m h.length = none := r.dom _ (Nat.le_refl _)
 have hk : Kp S m w S (upd m h.length (b, d', z)) w' := ⟨fun _ h => h, fun k hS => hw k (fun e => hnS (e ▸ hS)), upd_le hdom⟩
 have hown : ∀ i k, owns (h.set id .gone ++ [bl']) (upd m h.length (b, d', z)) i k → (i = h.length ∧ k = b) ∨ (owns h m i k ∧ i ≠ id) := by
  rintro i k ⟨⟨d2, z2, h1⟩, hl⟩
  by_cases e : i = h.length
  ·subst e
   rw [upd_self] at h1
   cases h1
   exact .inl ⟨rfl, rfl⟩
  ·rcases live_append hl with hl | ⟨e', _⟩
   ·rw [upd_ne e] at h1
    obtain ⟨b', h2, h3⟩ := hl
    by_cases e2 : id = i
    ·subst e2
     rw [List.getElem?_set_self hid] at h2
     cases h2
     exact absurd rfl h3
    ·rw [List.getElem?_set_ne e2] at h2
     exact .inr ⟨⟨⟨_, _, h1⟩, b', h2, h3⟩, fun e3 => e2 e3.symm⟩
   ·simp at e'; exact absurd e' e
 refine ⟨⟨?_, ?_, ?_, ?_⟩, ⟨fun _ h => h, upd_le hdom, lk.os, lk.tape, lk.output, by omega, by simp, ?_, ?_, fun _ h => .inl h⟩⟩
 ·intro k hS; rw [hsz]; exact r.sb k hS
 ·intro i hi
  have : i ≠ h.length := by simp at hi; omega
  rw [upd_ne this]; exact r.dom i (by simp at hi; omega)
 ·intro i b' hb'
  by_cases e : i = h.length
  ·subst e
   rw [List.getElem?_append_right (by simp)] at hb'
   simp at hb'
   subst hb'
   exact hb S _ w' upd_self rfl (fun v x hv => hv.keep hk) hnS
  ·have hlt : i < (h.set id Blk.gone).length := by have := lt_of_get hb'; simp at this ⊢; omega
   rw [List.getElem?_append_left hlt] at hb'
   by_cases e2 : id = i
   ·subst e2
    rw [List.getElem?_set_self hid] at hb'
    cases hb'
    trivial
   ·rw [List.getElem?_set_ne e2] at hb'
    refine (r.blk i b' hb').keep r hk fun k hmk hgk => ?_
    have hok : owns h m i k := ⟨hmk, b', hb', hgk⟩
    have : k ≠ b := fun e' => e2 (r.inj _ _ _ ho (e' ▸ hok))
    exact ⟨hw k this, owns_not_S r hok⟩
 ·intro i j k hi hj
  rcases hown i k hi with ⟨e1, e2⟩ | ⟨hi', hni⟩
  ·rcases hown j k hj with ⟨e3, _⟩ | ⟨hj', hnj⟩
   ·rw [e1, e3]
   ·exact absurd (r.inj _ _ _ (e2 ▸ hj') ho) hnj
  ·rcases hown j k hj with ⟨_, e4⟩ | ⟨hj', hnj⟩
   ·exact absurd (r.inj _ _ _ (e4 ▸ hi') ho) hni
   ·exact r.inj i j k hi' hj'
 ·intro k hk' hn; exact hw k (fun e => hn id (e ▸ ho))
 ·intro i k hi _
  rcases hown i k hi with ⟨_, rfl⟩ | ⟨hi, _⟩
  ·exact ⟨id, ho⟩
  ·exact ⟨i, hi⟩
theorem run_storeCells_fz (g o : Nat) (t : TypeId) (fz : Nat × Nat) : ∀ (vs : List Value) (i : Nat) (cur : Array Value) (w : World), w.heap[g]? = some (.cells cur t fz) → o + i + vs.length ≤ cur.size → (∀ j, o + i ≤ j → j < o + i + vs.length → ¬ (fz.1 ≤ j ∧ j < fz.2)) → (∀ v ∈ vs, v.oneCell' = true) →
  (storeCells ⟨g, o, none⟩ vs i).run P w = .ok () (w.setRow g (cur.toList.take (o + i) ++ (vs ++ cur.toList.drop (o + i + vs.length))).toArray)
 | [], i, cur, w, hg, _, _, _ => by
  simp only [storeCells, List.nil_append, List.length_nil, Nat.add_zero, List.take_append_drop, Array.toArray_toList]
  rw [setRow_self w g cur t fz hg]
  rfl
 | v :: rest, i, cur, w, hg, hl, hz, h1 => by
  have hi : o + i < cur.size := by simp at hl; omega
  have hcell : w.cell? ⟨g, o + i, none⟩ = some cur[o + i] := by simp [World.cell?, hg, hi]
  have hfro : w.frozen? ⟨g, o + i, none⟩ = false := by
   simp only [World.frozen?, hg]
   have := hz (o + i) (Nat.le_refl _) (by simp)
   simpa using this
  have hst : (store ((⟨g, o, none⟩ : Addr).add i) v).run P w = .ok () (w.setRow g (cur.setIfInBounds (o + i) v)) := by
   rw [add_mk, run_store P w _ v _ (h1 v (by simp)), hcell]
   simp [hfro, setCell_eq_setRow w g (o + i) cur t fz v hg]
  have ih := run_storeCells_fz g o t fz rest (i + 1) (cur.setIfInBounds (o + i) v) (w.setRow g (cur.setIfInBounds (o + i) v)) (setRow_heap w g cur _ t _ hg) (by simp at hl ⊢; omega)
   (fun j h2 h3 => hz j (by omega) (by simp; omega)) (fun x hx => h1 x (by simp [hx]))
  simp only [storeCells, Sem.run_bind, hst, Result.andThen_ok, ih, setRow_setRow]
  congr 3
  have e := list_seg_step cur.toList (o + i) v rest (by simp at hl ⊢; omega)
  simpa [Array.toList_setIfInBounds, Nat.add_assoc] using e
theorem like_setRow {g : Nat} {c : Array Value} : Like w (w.setRow g c) := ⟨rfl, rfl, rfl⟩
theorem seg_eq (C xs : List Value) (d off n : Nat) (h1 : d + n ≤ C.length) (h2 : off + xs.length ≤ n) :
  ((C.take (d + off) ++ (xs ++ C.drop (d + off + xs.length))).drop d).take n = ((C.drop d).take n).take off ++ (xs ++ ((C.drop d).take n).drop (off + xs.length)) := by
 have hd : d ≤ C.length := by omega
 have e1 : C.take (d + off) = C.take d ++ (C.drop d).take off := List.take_add
 have e2 : C.drop (d + off + xs.length) = (C.drop d).drop (off + xs.length) := by rw [List.drop_drop]; congr 1; omega
 have hE : (C.drop d).length = C.length - d := by simp
 rw [e1, e2]
 generalize C.drop d = E at hE
 rw [List.append_assoc, List.drop_left' (by simp; omega)]
 rw [List.take_append, List.take_append, List.take_take, List.take_take, List.take_of_length_le (l := xs) (by simp; omega)]
 rw [List.drop_take]
 congr 1
 ·congr 1; omega
 ·congr 2
  simp only [List.length_take]
  omega
theorem store_sound (r : Rep S m h w) {id off : Nat} {vs : List AV} {xs : List Value} {h' : List Blk} {b d z : Nat} (hw : wrCells h id off vs = some h') (hm : m id = some (b, d, z)) (hL : LRel S m w vs xs) :
  ∃ w', (storeCells ⟨b, d + off, none⟩ xs).run P w = .ok () w' ∧ Rep S m h' w' ∧ Stp S m h w S m h' w' := by
 unfold wrCells at hw
 split at hw <;> first | (cases hw; done) | skip
 rename_i cs hcs
 split at hw <;> first | (cases hw; done) | skip
 rename_i hcond
 cases hw
 simp only [Bool.and_eq_true, decide_eq_true_eq] at hcond
 obtain ⟨hle, hone⟩ := hcond
 obtain ⟨b', d', t, fz, c, h1, h2, h3, h4, h5, h6⟩ := r.blk _ _ hcs
 rw [hm] at h1
 cases h1
 have hxl : xs.length = vs.length := hL.1.symm
 have hrun := run_storeCells_fz (P := P) b (d + off) t fz xs 0 c w h2 (by omega) (fun j g1 g2 => h4 j (by omega)) (by
  intro x hx
  obtain ⟨i, hi, rfl⟩ := List.mem_iff_getElem.1 hx
  have h7 := hL.2 i (by omega)
  have h8 : vs[i]? = some vs[i] := List.getElem?_eq_getElem (by omega)
  have h9 : (vs[i]'(by omega)).one = true := List.all_eq_true.1 hone _ (List.getElem_mem _)
  simp only [List.getD_eq_getElem?_getD, h8, List.getElem?_eq_getElem hi, Option.getD_some] at h7
  exact h7.oneCell h9)
 simp only [Nat.add_zero] at hrun
 refine ⟨_, hrun, rep_set r like_setRow hcs (by simp) ⟨_, _, hm⟩ (fun k hk => setRow_other _ _ _ _ hk) (setRow_size _ _ _) fun S' m' w'' g1 g2 g3 g4 => ?_⟩
 have hsz : (c.toList.take (d + off) ++ (xs ++ c.toList.drop (d + off + xs.length))).toArray.size = c.size := by simp; omega
 refine ⟨b, d, t, fz, _, by rw [hsz]; exact g1 _ hm, by rw [g2]; exact setRow_heap w b c _ t fz h2, ?_, ?_, ?_, g4⟩
 ·rw [hsz, splice_len hle]; exact h3
 ·exact h4
 ·have hL2 : LRel S m w (splice cs off vs) (((c.toList.drop d).take cs.length).take off ++ (xs ++ ((c.toList.drop d).take cs.length).drop (off + xs.length))) := splice_rel h5 hL
  have e : (((c.toList.take (d + off) ++ (xs ++ c.toList.drop (d + off + xs.length))).toArray.toList.drop d).take (splice cs off vs).length) = (((c.toList.drop d).take cs.length).take off ++ (xs ++ ((c.toList.drop d).take cs.length).drop (off + xs.length))) := by
   rw [splice_len hle]
   exact seg_eq _ _ _ _ _ (by simpa using h3) (by omega)
  rw [e]
  exact ⟨hL2.1, fun i hi => g3 _ _ (hL2.2 i hi)⟩
end
open Go
section
variable {P : Program} {S : Nat → Prop} {m : Emb} {h : List Blk} {w : World} {ρ : Operand → Value} {ev : AO → AV}
def WGood (P : Program) (S : Nat → Prop) (m : Emb) (h : List Blk) (w : World) (ρ : Operand → Value) (o : Oper) (v : AV) (h' : List Blk) : Prop :=
 ∃ n x w' m' S', (execOp ρ o).run P w = .ok n w' ∧ (n = .value x ∨ (n = .skip ∧ x = undef)) ∧ VRel S' m' w' v x ∧ Rep S' m' h' w' ∧ Stp S m h w S' m' h' w'
theorem WGood.of {o : Oper} {v : AV} {h' : List Blk} {s : Sem Value} {x : Value} {w' : World} {m' : Emb} {S' : Nat → Prop} (he : execOp ρ o = (do pure (.value (← s)))) (hs : s.run P w = .ok x w') (hv : VRel S' m' w' v x) (hr : Rep S' m' h' w' ∧ Stp S m h w S' m' h' w') : WGood P S m h w ρ o v h' :=
 ⟨.value x, x, w', m', S', by rw [he]; simp [hs], .inl rfl, hv, hr.1, hr.2⟩
theorem elem?_sound {t n z b} (he : elem? P t = some (n, z, b)) : ∃ i v, P.info? t = some i ∧ i.zero = some v ∧ i.size = n ∧ i.bytes = b ∧ n = z.length ∧ 0 < n ∧ 0 < b ∧ z.all AV.one = true ∧ ∀ S m w, LRel S m w z v.cells.toList := by
 unfold elem? at he
 split at he
 ·rename_i i z' hi hz
  split at he
  ·rename_i hc
   cases he
   simp only [Bool.and_eq_true, decide_eq_true_eq] at hc
   obtain ⟨i', v, h1, h2, a, h3, rfl⟩ := zero?_sound hz
   rw [hi] at h1
   cases h1
   exact ⟨i, v, hi, h2, rfl, rfl, hc.1.1.1, hc.1.2, hc.2, hc.1.1.2, fun S m w => (ofV_sound h3).cells (ofV_ne_dead h3)⟩
  ·cases he
 ·cases he
theorem zero_run {t i v} (hi : P.info? t = some i) (hz : i.zero = some v) : (zeroValue t).run P w = .ok v w := by simp [zeroValue, info_run hi, hz]
theorem newRow_run (t : TypeId) (c : Array Value) : (newRow t c).run P w = .ok ⟨w.heap.size, 0, none⟩ (w.alloc (.cells c t)) := by simp only [newRow, Sem.run_bind, run_newObj, Result.andThen_ok, Sem.run_pure]; rfl
theorem like_alloc {o : Obj} : Like w (w.alloc o) := ⟨rfl, rfl, rfl⟩
theorem new_ptr (r : Rep S m h w) (t : TypeId) {c : Array Value} {cs : List AV} (hl : LRel S m w cs (c.toList.take cs.length)) (hle : cs.length ≤ c.size) :
  VRel S (upd m h.length (w.heap.size, 0, c.size)) (w.alloc (.cells c t)) (.ptr h.length 0) (.pointer (some ⟨w.heap.size, 0, none⟩)) ∧
  Rep S (upd m h.length (w.heap.size, 0, c.size)) (h ++ [.cells cs]) (w.alloc (.cells c t)) ∧ Stp S m h w S (upd m h.length (w.heap.size, 0, c.size)) (h ++ [.cells cs]) (w.alloc (.cells c t)) :=
 ⟨.ptr (b := w.heap.size) (d := 0) upd_self, rep_cells r like_alloc rfl hl hle (fun j => by omega)⟩
theorem w_alloc (r : Rep S m h w) {o : Oper} {ao v t h' lo} (ho : o.op = .alloc t) (hc : compOp P o = some ao) (hv : wOp ev h ao = some (v, h', lo)) : WGood P S m h w ρ o v h' := by
 simp only [compOp, ho] at hc
 split at hc <;> first | (cases hc; done) | skip
 rename_i n z b he
 cases hc
 cases hv
 obtain ⟨i, zv, hi, hz, h1, h2, h3, h4, h5, h6, h7⟩ := elem?_sound he
 have hL := h7 S m w
 have hlen : z.length = zv.cells.size := by simpa using hL.1
 obtain ⟨a1, a2⟩ := new_ptr (cs := z) (c := zv.cells) r t (by rw [List.take_of_length_le (by simp; omega)]; exact hL) (by omega)
 refine WGood.of (s := Instr.alloc t true (.tuple #[])) (by simp only [execOp, ho]) ?_ a1 a2
 simp [Instr.alloc, zero_run hi hz, newVar, newRow_run]
theorem w_box (hE : ∀ x y, compO x = some y → VRel S m w (ev y) (ρ x)) (r : Rep S m h w) {o : Oper} {ao v t x h' lo} (ho : o.op = .box t x) (hc : compOp P o = some ao) (hv : wOp ev h ao = some (v, h', lo)) : WGood P S m h w ρ o v h' := by
 simp only [compOp, ho] at hc
 split at hc <;> first | (cases hc; done) | skip
 rename_i n y hn hx
 split at hc <;> first | (cases hc; done) | skip
 cases hc
 cases hv
 have hxx := hE _ _ hx
 have hL : LRel S m w (ev y).cells ((ρ x).cells.toList.take (ev y).cells.length) ∧ (ev y).cells.length ≤ (ρ x).cells.size := by
  by_cases hd : ev y = .dead
  ·rw [hd]; exact ⟨LRel.nil, Nat.zero_le _⟩
  ·have := hxx.cells hd
   have hl := this.1
   simp only [Array.length_toList] at hl
   rw [List.take_of_length_le (by simp; omega)]
   exact ⟨this, by omega⟩
 obtain ⟨a1, a2⟩ := new_ptr r t hL.1 hL.2
 refine WGood.of (s := Instr.box t (ρ x)) (by simp only [execOp, ho]) ?_ a1 a2
 simp [Instr.box, newVar, newRow_run]
theorem w_store (hE : ∀ x y, compO x = some y → VRel S m w (ev y) (ρ x)) (r : Rep S m h w) {o : Oper} {ao v t a x h' lo} (ho : o.op = .store t a x) (hc : compOp P o = some ao) (hv : wOp ev h ao = some (v, h', lo)) : WGood P S m h w ρ o v h' := by
 simp only [compOp, ho] at hc
 split at hc <;> first | (cases hc; done) | skip
 rename_i n a' x' hn ha hx
 split at hc <;> first | (cases hc; done) | skip
 rename_i hn0
 cases hc
 simp only [wOp] at hv
 split at hv <;> first | (cases hv; done) | skip
 rename_i id off he
 split at hv <;> first | (cases hv; done) | skip
 rename_i hlen
 rw [Option.map_eq_some_iff] at hv
 obtain ⟨h2, hw, hv⟩ := hv
 cases hv
 have haa := hE _ _ ha
 have hxx := hE _ _ hx
 rw [he] at haa
 have hnd : ev x' ≠ .dead := by intro hd; rw [hd] at hlen; simp [AV.cells] at hlen; omega
 have hL := hxx.cells hnd
 generalize hav : ρ a = av at haa
 cases haa with
 | ptr hm =>
  obtain ⟨w', h3, h4, h5⟩ := store_sound (P := P) r hw hm hL
  have hsz : (ρ x).cells.size = n := by have := hL.1; simp at this; omega
  refine ⟨.skip, undef, w', m, S, ?_, .inr ⟨rfl, rfl⟩, LRel.tup LRel.nil, h4, h5⟩
  have : execOp ρ o = (do Instr.storeAt t (ρ a) (ρ x); pure .skip) := by simp only [execOp, ho]
  rw [this, hav]
  simp [Instr.storeAt, Instr.sureAddr, storeVar, size_run hn, hsz, h3]
theorem rep_flat {zero : Array Value} {st : Nat} (hz : zero.size = st) : ∀ k, ((Array.range (k * st)).map fun i => zero[i % zero.size]!).toList = (List.replicate k zero.toList).flatten
 | 0 => by simp
 | k + 1 => by
  have ih := rep_flat hz k
  rw [Array.toList_map, Array.toList_range] at ih ⊢
  rw [show (k + 1) * st = st + k * st by rw [Nat.succ_mul]; omega, List.range_add, List.map_append, List.map_map, List.replicate_succ, List.flatten_cons]
  congr 1
  ·apply List.ext_getElem?
   intro i
   rw [List.getElem?_map]
   by_cases hi : i < st
   ·rw [List.getElem?_range hi]
    simp only [Option.map_some, hz, Nat.mod_eq_of_lt hi]
    rw [Array.getElem?_toList, Array.getElem!_eq_getD, Array.getD_eq_getD_getElem?, Array.getElem?_eq_getElem (by omega)]
    rfl
   ·rw [List.getElem?_eq_none (by simp; omega), List.getElem?_eq_none (by simp; omega)]
    rfl
  ·rw [← ih]
   apply List.map_congr_left
   intro i _
   simp only [Function.comp_apply, hz, Nat.add_mod_left]
theorem LRel.flat {S m w v} {x : List Value} (hv : LRel S m w v x) : ∀ k, LRel S m w (List.replicate k v).flatten (List.replicate k x).flatten
 | 0 => LRel.nil
 | k + 1 => by rw [List.replicate_succ, List.replicate_succ, List.flatten_cons, List.flatten_cons]; exact hv.append (LRel.flat hv k)
theorem flat_len {α : Type} (l : List α) : ∀ k, (List.replicate k l).flatten.length = k * l.length
 | 0 => by simp
 | k + 1 => by rw [List.replicate_succ, List.flatten_cons, List.length_append, flat_len l k, Nat.succ_mul]; omega
theorem new_sl (r : Rep S m h w) (t : TypeId) {w' : World} {c : Array Value} {cs : List AV} {st len cap rc : Nat} {ex : Bool} (lk : Like w w') (hw : w'.heap = w.heap.push (.cells c t)) (hl : LRel S m w cs (c.toList.take cs.length)) (hle : cs.length ≤ c.size) (hx : ex = true → rc = cap) (hc : cap ≤ rc) (hlc : len ≤ cap) (hz : rc * st ≤ c.size) :
  VRel S (upd m h.length (w.heap.size, 0, c.size)) w' (.sl h.length st 0 len cap ex) (.slice (some ⟨w.heap.size, 0, none⟩) len rc) ∧
  Rep S (upd m h.length (w.heap.size, 0, c.size)) (h ++ [.cells cs]) w' ∧ Stp S m h w S (upd m h.length (w.heap.size, 0, c.size)) (h ++ [.cells cs]) w' :=
 ⟨.sl (b := w.heap.size) (d := 0) upd_self hx hc hlc (by omega), rep_cells r lk hw hl hle (fun j => by omega)⟩
theorem w_mksl (hE : ∀ x y, compO x = some y → VRel S m w (ev y) (ρ x)) (r : Rep S m h w) {o : Oper} {ao v t a x h' lo} (ho : o.op = .makeSlice t a x) (hc : compOp P o = some ao) (hv : wOp ev h ao = some (v, h', lo)) : WGood P S m h w ρ o v h' := by
 simp only [compOp, ho] at hc
 split at hc <;> first | (cases hc; done) | skip
 rename_i e ht
 split at hc <;> first | (cases hc; done) | skip
 rename_i n z b l' c' he hl hcc
 cases hc
 obtain ⟨i, zv, hi, hz, h1, h2, h3, h4, h5, h6, h7⟩ := elem?_sound he
 simp only [wOp] at hv
 split at hv <;> first | (cases hv; done) | skip
 rename_i k1 l k2 c hl2 hc2
 split at hv <;> first | (cases hv; done) | skip
 rename_i hcond
 cases hv
 simp only [Bool.and_eq_true, decide_eq_true_eq] at hcond
 obtain ⟨⟨⟨hl0, hlc⟩, hby⟩, hmax⟩ := hcond
 have hL := h7 S m w
 have hll := hE _ _ hl
 have hxx := hE _ _ hcc
 rw [hl2] at hll
 rw [hc2] at hxx
 have hzs : zv.cells.size = n := by have := hL.1; simp at this; omega
 have hwl : IntKind.i64.wrap l = l := by simp only [IntKind.wrap, IntKind.bits, IntKind.signed]; simp only [Bool.true_and]; split <;> rename_i hh <;> simp at hh <;> omega
 have hwc : IntKind.i64.wrap c = c := by simp only [IntKind.wrap, IntKind.bits, IntKind.signed]; simp only [Bool.true_and]; split <;> rename_i hh <;> simp at hh <;> omega
 have hcl := flat_len z c.toNat
 have hLf : LRel S m w (List.replicate c.toNat z).flatten (List.replicate c.toNat zv.cells.toList).flatten := hL.flat _
 obtain ⟨arr, harr, harr2⟩ : ∃ arr : Array Value, arr.toList = (List.replicate c.toNat zv.cells.toList).flatten ∧ (Instr.makeSlice t (ρ a) (ρ x)).run P w = .ok (.slice (some ⟨w.heap.size, 0, none⟩) l.toNat c.toNat) (w.alloc (.cells arr e)) := by
  refine ⟨((Array.range (c.toNat * n)).map fun i => (if c.toNat * n = 0 then #[] else zv.cells)[i % (if c.toNat * n = 0 then #[] else zv.cells).size]!), ?_, ?_⟩
  ·by_cases h0 : c.toNat * n = 0
   ·have hc0 : c.toNat = 0 := by rcases Nat.mul_eq_zero.1 h0 with h | h <;> omega
    rw [hc0]; simp
   ·rw [if_neg h0]; exact rep_flat hzs _
  ·rw [vint hll, vint hxx]
   have c1 : ¬ (c < 0) := by omega
   have c2 : ¬ (i.bytes * c > 2 ^ 48) := by rw [h2]; omega
   have c3 : ¬ (l < 0) := by omega
   have c4 : ¬ (l > c) := by omega
   simp only [Instr.makeSlice, Sem.run_bind, und_run ht, Result.andThen_ok, asInt, asIntOf, Sem.run_pure, info_run hi, hwl, hwc]
   rw [if_neg (by simp [c1, c2, c3, c4]; omega)]
   simp only [Sem.run_bind, run_askRoom, Result.andThen_ok, sizeOf, info_run hi, Sem.run_pure, h1]
   by_cases h0 : c.toNat * n = 0
   ·rw [if_pos h0, if_pos h0]
    simp only [Sem.run_bind, Sem.run_pure, Result.andThen_ok, newRow_run]
   ·rw [if_neg h0, if_neg h0]
    simp only [Sem.run_bind, zero_run hi hz, Sem.run_pure, Result.andThen_ok, newRow_run]
 have hsz : arr.size = c.toNat * n := by rw [← Array.length_toList, harr, flat_len]; simp [hzs]
 have hcs : (List.replicate c.toNat z).flatten.length = c.toNat * n := by rw [hcl, h3]
 obtain ⟨a1, a2⟩ := new_sl (st := z.length) (len := l.toNat) (cap := c.toNat) (rc := c.toNat) (ex := true) (c := arr) (cs := (List.replicate c.toNat z).flatten) r e like_alloc rfl (by rw [harr, List.take_of_length_le (by rw [flat_len, hcs]; simp [hzs])]; exact hLf) (by omega) (fun _ => rfl) (Nat.le_refl _) (by omega) (by rw [hsz, h3]; exact Nat.le_refl _)
 exact WGood.of (s := Instr.makeSlice t (ρ a) (ρ x)) (by simp only [execOp, ho]) harr2 a1 a2
theorem w_buildSl (hE : ∀ x y, compO x = some y → VRel S m w (ev y) (ρ x)) (r : Rep S m h w) {o : Oper} {ao v t len ps h' lo} (ho : o.op = .buildSlice t len ps) (hc : compOp P o = some ao) (hv : wOp ev h ao = some (v, h', lo)) : WGood P S m h w ρ o v h' := by
 simp only [compOp, ho] at hc
 split at hc <;> first | (cases hc; done) | skip
 rename_i e ht
 split at hc <;> first | (cases hc; done) | skip
 rename_i n z b he
 rw [Option.map_eq_some_iff] at hc
 obtain ⟨l, hl, rfl⟩ := hc
 obtain ⟨i, zv, hi, hz, h1, h2, h3, h4, h5, h6, h7⟩ := elem?_sound he
 simp only [wOp] at hv
 split at hv <;> first | (cases hv; done) | skip
 rename_i hcond
 cases hv
 simp only [Bool.and_eq_true, decide_eq_true_eq] at hcond
 obtain ⟨⟨hall, hfill⟩, hmax⟩ := hcond
 have hL := h7 S m w
 have hzs : zv.cells.size = n := by have := hL.1; simp at this; omega
 have hcl := flat_len z len
 obtain ⟨hlen, hget⟩ := compL_get hl
 obtain ⟨arr, harr, harr2⟩ : ∃ arr : Array Value, arr.toList = (List.replicate len zv.cells.toList).flatten ∧ arr = ((Array.range (len * n)).map fun i => (if len * n = 0 then #[] else zv.cells)[i % (if len * n = 0 then #[] else zv.cells).size]!) := by
  refine ⟨_, ?_, rfl⟩
  by_cases h0 : len * n = 0
  ·have hc0 : len = 0 := by rcases Nat.mul_eq_zero.1 h0 with h | h <;> omega
   rw [hc0]; simp
  ·rw [if_neg h0]; exact rep_flat hzs _
 have hLf : LRel S m w (List.replicate len z).flatten arr.toList := by rw [harr]; exact hL.flat _
 obtain ⟨c, g1, g2⟩ := fill_sound (S := S) (m := m) (w := w) (fun j => some (j * n, n)) (l.map fun x => (x.1 * z.length, (ev x.2).cells)) (ps.toList.map fun x => (x.1, ρ x.2)) _ arr hfill hLf (by simp [hlen])
  (by
   intro k p q hp hq
   rw [List.getElem?_map, Option.map_eq_some_iff] at hp hq
   obtain ⟨⟨j, x⟩, hp1, rfl⟩ := hp
   obtain ⟨⟨j', y⟩, hq1, rfl⟩ := hq
   obtain ⟨y', hy1, hy2⟩ := hget k _ hq1
   rw [hp1] at hy2
   cases hy2
   simp only [Option.map_eq_some_iff] at hy1
   obtain ⟨x', hx1, hx2⟩ := hy1
   cases hx2
   have hk := (List.all_eq_true.1 hall) (j, x) (List.mem_of_getElem? hp1)
   simp only [beq_iff_eq] at hk
   have hx := hE _ _ hx1
   have hnd : ev x ≠ .dead := by intro hd; rw [hd] at hk; simp [AV.cells] at hk; omega
   exact ⟨n, by simp [h3], by show (ev x).cells.length = n; omega, hx.cells hnd⟩)
 have hgl := g2.1
 have hfl : ∀ (ps : List (Nat × List AV)) (z : List AV), goodFill z.length ps = true → (fillL z ps).length = z.length := by
  intro ps
  induction ps with
  | nil => intro z _; rfl
  | cons p r ih =>
   intro z hg
   obtain ⟨off, vs⟩ := p
   simp only [goodFill, Bool.and_eq_true, decide_eq_true_eq] at hg
   rw [fillL, ih _ (by rw [splice_len hg.1]; exact hg.2), splice_len hg.1]
 have hcs : (fillL (List.replicate len z).flatten (l.map fun x => (x.1 * z.length, (ev x.2).cells))).length = len * n := by rw [hfl _ _ hfill, hcl, h3]
 rw [hcs] at hgl
 simp only [Array.length_toList] at hgl
 obtain ⟨a1, a2⟩ := new_sl (st := z.length) (len := len) (cap := len) (rc := len) (ex := true) (c := c) (cs := fillL (List.replicate len z).flatten (l.map fun x => (x.1 * z.length, (ev x.2).cells))) r e like_alloc rfl (by rw [List.take_of_length_le (by rw [hcs]; simp; omega)]; exact g2) (by omega) (fun _ => rfl) (Nat.le_refl _) (Nat.le_refl _) (by rw [← h3]; omega)
 refine WGood.of (s := Instr.buildSlice t len (ps.map fun (i, x) => (i, ρ x))) (by simp only [execOp, ho]) ?_ a1 a2
 have c1 : ¬ (len * n > 2 ^ 24) := by rw [← h3] at hmax; omega
 simp only [Instr.buildSlice, Sem.run_bind, und_run ht, Result.andThen_ok, sizeOf, info_run hi, Sem.run_pure, h1]
 rw [if_neg c1]
 have key : ∀ q : Array Value, q = (if len * n = 0 then #[] else zv.cells) → (Instr.fill (fun i => some (i * n, n)) ((Array.range (len * n)).map fun i => q[i % q.size]!) (ps.map fun x => (x.1, ρ x.2)).toList) = some c := by
  intro q hq
  subst hq
  rw [← harr2, Array.toList_map]
  exact g1
 by_cases h0 : len * n = 0
 ·rw [if_pos h0]
  simp only [Sem.run_bind, Sem.run_pure, Result.andThen_ok]
  rw [key #[] (by rw [if_pos h0])]
  simp [newRow_run]
 ·rw [if_neg h0]
  simp only [Sem.run_bind, zero_run hi hz, Sem.run_pure, Result.andThen_ok]
  rw [key zv.cells (by rw [if_neg h0])]
  simp [newRow_run]
end
end Go.Proofs.YtenpjpldjmoefaaGreat.AM

/-
  THE ABSTRACT MACHINE: what an operation that neither makes nor writes memory comes to is what Go's comes to.
-/
import Derived.Test.YtlogcjaigjcmiaaGreatAmC
set_option linter.unusedVariables false
set_option linter.unusedSimpArgs false
namespace Go.Proofs.YtlogcjaigjcmiaaGreat.AM
open Go

section
variable {P : Program} {S : Nat → Prop} {m : Emb} {h : List Blk} {w : World}

theorem add_mk (b o n : Nat) : Addr.add ⟨b, o, none⟩ n = ⟨b, o + n, none⟩ := by unfold Addr.add; split <;> simp_all
theorem cell_at {b o : Nat} {c : Array Value} {t fz} (hb : w.heap[b]? = some (.cells c t fz)) : w.cell? ⟨b, o, none⟩ = c[o]? := by simp [World.cell?, hb]
theorem und_run {t d} (hu : P.underlying t = some d) : (underlying t).run P w = .ok d w := run_underlying hu w
theorem info_run {t i} (hi : P.info? t = some i) : (typeInfo t).run P w = .ok i w := by simp [typeInfo, hi]
theorem size_run {t n} (hi : size? P t = some n) : (sizeOf t).run P w = .ok n w := by
  unfold size? at hi
  rw [Option.map_eq_some_iff] at hi
  obtain ⟨i, h1, rfl⟩ := hi
  simp [sizeOf, info_run h1]
theorem var?_size {t n} (hv : var? P t = some n) : size? P t = some (cellsN n) ∧ 0 < cellsN n := by
  unfold var? at hv
  split at hv
  · split at hv
    · cases hv
    · rename_i h1 h2; cases hv; exact ⟨h1, Nat.pos_of_ne_zero h2⟩
  · rename_i h1; cases hv; exact ⟨h1, Nat.one_pos⟩
  · cases hv
theorem var?_agg {t n} (hv : var? P t = some n) : (isAgg t).run P w = .ok n.isSome w := by
  unfold var? at hv
  have key : ∀ b, isAgg? P t = some b → (isAgg t).run P w = .ok b w := by
    intro b hb
    unfold isAgg? at hb
    rw [Option.map_eq_some_iff] at hb
    obtain ⟨d, h1, h2⟩ := hb
    unfold isAgg
    simp only [Sem.run_bind, und_run h1, Result.andThen_ok]
    cases d <;> simp_all
  split at hv
  · rename_i h0 h1
    split at hv
    · cases hv
    · cases hv; exact key _ h0
  · rename_i h0 h1; cases hv; exact key _ h0
  · cases hv

/-- What is read through a pointer. -/
theorem rdPtr_sound (r : Rep S m h w) {n v cs x} (hr : rdPtr h n v = some cs) (hv : VRel S m w v x) (hn : 0 < n) :
    ∃ ad vs, x = .pointer (some ad) ∧ LRel S m w cs vs ∧ vs.length = n ∧ ∀ j u, vs[j]? = some u → w.cell? (ad.add j) = some u := by
  cases hv <;> simp only [rdPtr] at hr <;> try cases hr
  case ptr id off b d z hm =>
    unfold rdCells at hr
    split at hr
    · rename_i cs' hb
      split at hr
      · rename_i hle
        cases hr
        obtain ⟨b', d', t, fz, c, h1, h2, h3, h4, h5, h6⟩ := r.blk _ _ hb
        rw [hm] at h1
        cases h1
        refine ⟨_, ((c.toList.drop d).take cs'.length |>.drop off).take n, rfl, (h5.drop off).take n, ?_, ?_⟩
        · have := h5.1; simp only [List.length_take, List.length_drop] at this ⊢; omega
        · intro j u hj
          rw [add_mk, cell_at h2]
          simp only [List.getElem?_take, List.getElem?_drop] at hj
          split at hj
          · split at hj
            · rw [← hj, Array.getElem?_toList, Nat.add_assoc]
            · cases hj
          · cases hj
      · cases hr
    · cases hr
  case rop es st i off b d f hS hc hl hrr =>
    split at hr
    · rename_i e he
      split at hr
      · rename_i hle
        cases hr
        have hi : i < es.length := (List.getElem?_eq_some_iff.1 he).1
        have hee : es.getD i .dead = e := by simp [List.getD_eq_getElem?_getD, he]
        have hst : e.cells.length = st := by have := hl i hi; rwa [hee] at this
        have hL : LRel S m w e.cells ((List.range st).map (f i)) := ⟨by simp [hst], fun j hj => by
          have := hrr i j hi (by omega)
          rw [hee] at this
          simpa [List.getD_eq_getElem?_getD, List.getElem?_range, show j < st by omega] using this⟩
        refine ⟨_, (((List.range st).map (f i)).drop off).take n, rfl, (hL.drop off).take n, by simp only [List.length_take, List.length_drop, List.length_map, List.length_range]; omega, ?_⟩
        intro j u hj
        simp only [List.getElem?_take, List.getElem?_drop, List.getElem?_map] at hj
        split at hj
        · rw [Option.map_eq_some_iff] at hj
          obtain ⟨k, h1, rfl⟩ := hj
          obtain ⟨hk, h1⟩ := List.getElem?_eq_some_iff.1 h1
          simp at h1 hk
          subst h1
          rw [add_mk, show d + (i * st + off) + j = d + (i * st + (off + j)) by omega]
          exact hc i _ hi hk
        · cases hj
      · cases hr
    · cases hr

theorem asVar_sound {n : Option Nat} {cs : List AV} {v : AV} {vs : List Value} (ha : asVar n cs = some v) (hL : LRel S m w cs vs) :
    VRel S m w v (if n.isSome then .agg vs.toArray else vs.headD undef) := by
  cases n with
  | none =>
    simp only [asVar] at ha
    unfold one? at ha
    split at ha
    · cases ha
      obtain ⟨x, r, rfl, h1, h2⟩ := hL.head
      exact h1
    · cases ha
  | some k => cases ha; exact LRel.agg (by simpa using hL)

theorem loadVar_sound {t n} (hv : var? P t = some n) {ad : Addr} {vs : List Value} (hl : vs.length = cellsN n) (hc : ∀ j u, vs[j]? = some u → w.cell? (ad.add j) = some u) :
    (loadVar t ad).run P w = .ok (if n.isSome then .agg vs.toArray else vs.headD undef) w := by
  unfold loadVar
  simp only [Sem.run_bind, var?_agg hv, Result.andThen_ok]
  cases n with
  | none =>
    simp only [Option.isSome_none, Bool.false_eq_true, if_false]
    match vs, hl with
    | [u], _ =>
      have := hc 0 u rfl
      rw [show ad.add 0 = ad by simp [Addr.add]] at this
      simp [this]
  | some k =>
    have hk : vs.length = k := hl
    simp only [Option.isSome_some, if_true, Sem.run_bind, size_run (var?_size hv).1, Result.andThen_ok, cellsN]
    have := run_loadCells_list (P := P) w ad vs hc
    rw [hk] at this
    rw [this]
    rfl

theorem part_sound {t n} (hv : var? P t = some n) {cs : Array Value} {off : Nat} (hl : off + cellsN n ≤ cs.size) :
    (part t cs off).run P w = .ok (if n.isSome then .agg ((cs.toList.drop off).take (cellsN n)).toArray else ((cs.toList.drop off).take (cellsN n)).headD undef) w := by
  unfold part
  simp only [Sem.run_bind, var?_agg hv, Result.andThen_ok]
  cases n with
  | none =>
    simp only [cellsN] at hl ⊢
    simp only [Option.isSome_none, Bool.false_eq_true, if_false]
    have h1 : cs[off]? = some cs[off] := Array.getElem?_eq_getElem (by omega)
    rw [h1]
    have h2 : (cs.toList.drop off).take 1 = [cs[off]] := by
      rw [List.drop_eq_getElem_cons (by simp; omega)]
      simp
    rw [h2]
    rfl
  | some k =>
    simp only [Option.isSome_some, if_true, Sem.run_bind, size_run (var?_size hv).1, Result.andThen_ok, cellsN, Sem.run_pure]
    congr 2
    apply Array.ext'
    simp [Array.toList_extract, List.extract]

theorem optNat_sound {ρ : Operand → Value} {ev : AO → AV} (hE : ∀ x y, compO x = some y → VRel S m w (ev y) (ρ x)) {x : Option Operand} {y : Option AO} {d n : Nat} (hc : compOpt x = some y)
    (hn : optNat d (y.map ev) = some n) : (x = none ∧ y = none ∧ n = d) ∨ ∃ o k, x = some o ∧ y.isSome = true ∧ ρ o = .int k (n : Int) := by
  cases x with
  | none => cases hc; cases hn; exact .inl ⟨rfl, rfl, rfl⟩
  | some o =>
    simp only [compOpt, Option.map_eq_some_iff] at hc
    obtain ⟨y', h1, rfl⟩ := hc
    simp only [Option.map_some, optNat] at hn
    have := hE _ _ h1
    refine .inr ⟨o, ?_⟩
    cases hev : ev y' <;> simp only [hev, asNat] at hn <;> try cases hn
    rename_i k z
    split at hn
    · rename_i hz
      cases hn
      rw [hev] at this
      cases hr : ρ o <;> rw [hr] at this <;> cases this
      exact ⟨k, rfl, rfl, by rw [Int.toNat_of_nonneg hz]⟩
    · cases hn
theorem bound_run {k : IntKind} {n y : Nat} {c : BoundsCode} (hn : n ≤ y) : (Instr.sliceBound (.int k (n : Int)) y c).run P w = .ok n w := by
  unfold Instr.sliceBound
  simp [asIntOf, hn]
end
end Go.Proofs.YtlogcjaigjcmiaaGreat.AM

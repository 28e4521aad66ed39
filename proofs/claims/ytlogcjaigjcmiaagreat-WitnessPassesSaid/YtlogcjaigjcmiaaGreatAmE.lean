/-
  THE ABSTRACT MACHINE: each operation that neither makes nor writes memory.
-/
import Derived.Test.YtlogcjaigjcmiaaGreatAmD
import Derived.Laws.Strings
set_option linter.unusedVariables false
set_option linter.unusedSimpArgs false
namespace Go.Proofs.YtlogcjaigjcmiaaGreat.AM
open Go

section
variable {P : Program} {S : Nat → Prop} {m : Emb} {h : List Blk} {w : World} {ρ : Operand → Value} {ev : AO → AV}

/-- What an operation comes to, in the world as it is. -/
def PGood (P : Program) (S : Nat → Prop) (m : Emb) (w : World) (ρ : Operand → Value) (o : Oper) (v : AV) : Prop :=
  ∃ x, (execOp ρ o).run P w = .ok (.value x) w ∧ VRel S m w v x
theorem PGood.of {o : Oper} {v : AV} {s : Sem Value} {x : Value} (he : execOp ρ o = (do pure (.value (← s)))) (hs : s.run P w = .ok x w) (hv : VRel S m w v x) : PGood P S m w ρ o v :=
  ⟨x, by rw [he]; simp [hs], hv⟩
theorem vint {k n x} (h : VRel S m w (.int k n) x) : x = .int k n := by cases h; rfl
theorem vbool {b x} (h : VRel S m w (.bool b) x) : x = .bool b := by cases h; rfl
theorem vstr {l x} (h : VRel S m w (.str l) x) : ∃ s, x = .string s ∧ s.data.toList = l := by cases h; exact ⟨_, rfl, by assumption⟩
theorem compL_sound {l : List Operand} (hE : ∀ x y, compO x = some y → VRel S m w (ev y) (ρ x)) : ∀ {l : List Operand} {l'}, compL compO l = some l' → LRel S m w (l'.map ev) (l.map ρ)
  | [], _, h => by cases h; exact LRel.nil
  | x :: r, l', h => by
    rw [compL] at h
    split at h
    · rename_i y l h1 h2
      cases h
      exact LRel.cons (hE _ _ h1) (compL_sound (l := r) hE h2)
    · cases h

theorem bytesEq_eq : ∀ a b : List UInt8, bytesEq a b = (a == b)
  | [], [] => rfl
  | [], _ :: _ => rfl
  | _ :: _, [] => rfl
  | a :: x, b :: y => by
    rw [bytesEq, bytesEq_eq x y]
    have : decide (a.toNat = b.toNat) = (a == b) := by
      rw [Bool.eq_iff_iff]; simp [UInt8.toNat_inj]
    rw [this]; rfl
theorem bytesLt_eq : ∀ a b : List UInt8, bytesLt a b = Op.bytesLess a b
  | [], [] => rfl
  | [], _ :: _ => rfl
  | _ :: _, [] => rfl
  | a :: x, b :: y => by
    rw [bytesLt, Op.bytesLess, bytesLt_eq x y]
    have h1 : decide (a.toNat = b.toNat) = (a == b) := by
      rw [Bool.eq_iff_iff]; simp [UInt8.toNat_inj]
    have h2 : decide (a.toNat < b.toNat) = decide (a < b) := by
      rw [Bool.eq_iff_iff]; simp [UInt8.lt_iff_toNat_lt]
    rw [h1, h2]

theorem aint_sound {op k a b v} (h : aint op k a b = some v) : ∀ t, op ≠ .shl → op ≠ .shr → ∃ x, (binOp op t (.int k a) (.int k b)).run P w = .ok x w ∧ VRel S m w v x := by
  intro t h1 h2
  cases op <;> simp only [aint] at h <;> first
    | (exact absurd rfl h1)
    | (exact absurd rfl h2)
    | (cases h; exact ⟨_, by simp only [binOp_add, binOp_sub, binOp_mul, binOp_and, binOp_or, binOp_xor, binOp_andNot, binOp_eql, binOp_neq, binOp_lss, binOp_leq, binOp_gtr, binOp_geq, Op.intArith, Op.intBits]; rfl, by constructor⟩)
    | (split at h
       · cases h
       · rename_i hb; cases h; exact ⟨_, by simp only [binOp_quo, binOp_rem, Op.intDiv, if_neg hb]; rfl, by constructor⟩)
theorem astr_sound {op l l' v} {s s' : ByteArray} (h : astr op l l' = some v) (hs : s.data.toList = l) (hs' : s'.data.toList = l') : ∀ t, ∃ x, (binOp op t (.string s) (.string s')).run P w = .ok x w ∧ VRel S m w v x := by
  subst hs
  subst hs'
  intro t
  have e1 : s.toList = s.data.toList := ByteArray.toList_eq s
  have e2 : s'.toList = s'.data.toList := ByteArray.toList_eq s'
  cases op <;> simp only [astr, bytesEq_eq, bytesLt_eq] at h <;> first
    | (cases h; exact ⟨_, by simp only [binOp, Op.stringOp, e1, e2]; rfl, by constructor⟩)
    | (split at h
       · rename_i hl
         cases h
         refine ⟨.string (s ++ s'), ?_, .str (by simp [ByteArray.data_append])⟩
         have : ¬ (((s.size + s'.size : Nat) : Int) > IntKind.i64.max) := by
           have := ByteArray.size_data (a := s); have := ByteArray.size_data (a := s'); simp at hl; simp [IntKind.max, IntKind.signed, IntKind.bits]; omega
         simp only [binOp, Op.stringOp]
         rw [if_neg this]
         rfl
       · cases h)
    | cases h
theorem abin_sound {op a b v x y} (h : abin op a b = some v) (hx : VRel S m w a x) (hy : VRel S m w b y) : ∀ t, ∃ z, (binOp op t x y).run P w = .ok z w ∧ VRel S m w v z := by
  intro t
  unfold abin at h
  split at h
  · rename_i k a k' b
    have hx := vint hx; have hy := vint hy
    subst hx; subst hy
    split at h
    · split at h
      · cases h
      · rename_i hb; cases h; exact ⟨_, by simp only [binOp_shl, Op.shift, if_neg hb]; rfl, by constructor⟩
    · split at h
      · cases h
      · rename_i hb; cases h; exact ⟨_, by simp only [binOp_shr, Op.shift, if_neg hb]; rfl, by constructor⟩
    · split at h
      · rename_i h1 h2 hk; subst hk; exact aint_sound h t (by intro e; exact h1 e) (by intro e; exact h2 e)
      · cases h
  · obtain ⟨s, rfl, h1⟩ := vstr hx
    obtain ⟨s', rfl, h2⟩ := vstr hy
    exact astr_sound h h1 h2 t
  · cases h
theorem guard_str {op t x y s v} : eqGuard op t x y (.string s) v = pure () := by cases op <;> rfl
theorem guard_int {op t x y k n v} : eqGuard op t x y (.int k n) v = pure () := by cases op <;> rfl

variable (hE : ∀ x y, compO x = some y → VRel S m w (ev y) (ρ x)) (r : Rep S m h w)
include hE

theorem good_mv {o : Oper} {ao v} (ho : (∃ x, o.op = .move x) ∨ ∃ x, o.op = .assign x) (hc : compOp P o = some ao) (hv : pOp ev h ao = some v) : PGood P S m w ρ o v := by
  rcases ho with ⟨x, ho⟩ | ⟨x, ho⟩
  all_goals
    simp only [compOp, ho, Option.map_eq_some_iff] at hc
    obtain ⟨y, h1, rfl⟩ := hc
    cases hv
    exact ⟨ρ x, by simp [execOp, ho], hE _ _ h1⟩
theorem good_pick {o : Oper} {ao v c a b} (ho : o.op = .pick c a b) (hc : compOp P o = some ao) (hv : pOp ev h ao = some v) : PGood P S m w ρ o v := by
  simp only [compOp, ho] at hc
  split at hc
  · rename_i c' a' b' h1 h2 h3
    cases hc
    have hcc := hE _ _ h1
    simp only [pOp] at hv
    split at hv
    · rename_i he; cases hv; rw [he] at hcc; exact ⟨ρ a, by simp [execOp, ho, vbool hcc, asBool], hE _ _ h2⟩
    · rename_i he; cases hv; rw [he] at hcc; exact ⟨ρ b, by simp [execOp, ho, vbool hcc, asBool], hE _ _ h3⟩
    · cases hv
  · cases hc
include r in
theorem good_load {o : Oper} {ao v t x} (ho : o.op = .load t x) (hc : compOp P o = some ao) (hv : pOp ev h ao = some v) : PGood P S m w ρ o v := by
  simp only [compOp, ho] at hc
  split at hc
  · rename_i n a h1 h2
    cases hc
    simp only [pOp, Option.bind_eq_some_iff] at hv
    obtain ⟨cs, h3, h4⟩ := hv
    obtain ⟨ad, vs, h5, h6, h7, h8⟩ := rdPtr_sound r h3 (hE _ _ h2) (var?_size h1).2
    refine PGood.of (s := Instr.loadAt t (ρ x)) (by simp [execOp, ho]) (x := if n.isSome then .agg vs.toArray else vs.headD undef) ?_ (asVar_sound h4 h6)
    rw [h5]
    simp [Instr.loadAt, Instr.sureAddr, loadVar_sound h1 h7 h8]
  · cases hc
theorem good_nilck {o : Oper} {ao v x} (ho : o.op = .nilCheck x) (hc : compOp P o = some ao) (hv : pOp ev h ao = some v) : PGood P S m w ρ o v := by
  simp only [compOp, ho, Option.map_eq_some_iff] at hc
  obtain ⟨y, h1, rfl⟩ := hc
  have hx := hE _ _ h1
  simp only [pOp] at hv
  split at hv
  · rename_i he; cases hv; rw [he] at hx
    obtain ⟨p, hp⟩ : ∃ p, ρ x = .pointer (some p) := by generalize ρ x = y at hx; cases hx; exact ⟨_, rfl⟩
    exact ⟨ρ x, by simp [execOp, ho, hp], hx⟩
  · rename_i he; cases hv; rw [he] at hx
    obtain ⟨p, hp⟩ : ∃ p, ρ x = .pointer (some p) := by generalize ρ x = y at hx; cases hx; exact ⟨_, rfl⟩
    exact ⟨ρ x, by simp [execOp, ho, hp], hx⟩
  · rename_i he
    split at hv
    · cases hv; rw [he] at hx
      obtain ⟨vs, us, h2, h3, h4⟩ := hx.fn_inv
      exact ⟨ρ x, by simp [execOp, ho, h2], hx⟩
    · cases hv
  · cases hv
theorem good_bin {o : Oper} {ao v op t x y u} (ho : o.op = .binOp op t x y u) (hc : compOp P o = some ao) (hv : pOp ev h ao = some v)
    (hk : (∃ a b, ao = .bin op a b ∧ compO x = some a ∧ compO y = some b)) : PGood P S m w ρ o v := by
  obtain ⟨a, b, rfl, h1, h2⟩ := hk
  obtain ⟨z, h3, h4⟩ := abin_sound (P := P) hv (hE _ _ h1) (hE _ _ h2) t
  refine PGood.of (s := do eqGuard op t x y (ρ x) (ρ y); binOp op t (ρ x) (ρ y)) (by simp only [execOp, ho]) (x := z) ?_ h4
  have hg : eqGuard op t x y (ρ x) (ρ y) = pure () := by
    have hx := hE _ _ h1
    simp only [pOp] at hv
    unfold abin at hv
    split at hv
    · rename_i he _; rw [he] at hx; rw [vint hx]; exact guard_int
    · rename_i he _; rw [he] at hx; obtain ⟨s, h5, _⟩ := vstr hx; rw [h5]; exact guard_str
    · cases hv
  rw [hg]
  simpa using h3
theorem good_beq {o : Oper} {v op t x y u a b} (ho : o.op = .binOp op t x y u) (hop : op = .eql ∨ op = .neq) (ht : P.underlying t = some .bool) (h1 : compO x = some a) (h2 : compO y = some b)
    (hv : pOp ev h (.beq (op = .neq) a b) = some v) : PGood P S m w ρ o v := by
  simp only [pOp] at hv
  split at hv
  · rename_i p q hp hq
    cases hv
    have hx := hE _ _ h1; rw [hp] at hx
    have hy := hE _ _ h2; rw [hq] at hy
    refine PGood.of (s := do eqGuard op t x y (ρ x) (ρ y); binOp op t (ρ x) (ρ y)) (by simp only [execOp, ho]) (x := .bool (if op = .neq then p != q else p == q)) ?_ (by rcases hop with rfl | rfl <;> exact .bool)
    rw [vbool hx, vbool hy]
    have hu : (Op.equal t (.bool p) (.bool q)).run P w = .ok (p == q) w := by
      unfold Op.equal
      rw [show Op.maxDepth = 9999 + 1 from rfl, Op.equalIn]
      simp only [Sem.run_bind, und_run ht, Result.andThen_ok, Sem.run_pure]
    rcases hop with rfl | rfl
    · simp [eqGuard, binOp, hu]
    · simp [eqGuard, binOp, hu, bne]
  · cases hv
omit hE in
theorem isNil_sound {kd d a v x y op t} {px py : Operand} (hd : descKind d = some kd) (ht : P.underlying t = some d) (hop : op = .eql ∨ op = .neq) (h : isNil kd a = some v) (hx : VRel S m w a x)
    (hy : (kd = 0 ∧ y = .pointer none) ∨ (kd = 1 ∧ ∃ n c, y = .slice none n c) ∨ (kd = 2 ∧ y = .map none) ∨ (kd = 3 ∧ y = .nilFunc)) :
    (do eqGuard op t px py x y; binOp op t x y : Sem Value).run P w = .ok (.bool (if op = .neq then !v else v)) w ∧ (do eqGuard op t px py y x; binOp op t y x : Sem Value).run P w = .ok (.bool (if op = .neq then !v else v)) w := by
  have hu : ∀ a b c, (Op.equalIn (9999 + 1) t a b).run P w = .ok c w → (Op.equal t a b).run P w = .ok c w := fun a b c h => h
  have fin : ∀ a b c, (Op.equal t a b).run P w = .ok c w → eqGuard op t px py a b = pure () → binOp op t a b = (if op = .neq then (do pure (.bool (!(← Op.equal t a b)))) else (do pure (.bool (← Op.equal t a b)))) →
      (do eqGuard op t px py a b; binOp op t a b : Sem Value).run P w = .ok (.bool (if op = .neq then !c else c)) w := by
    intro a b c h1 h2 h3
    rw [h2, h3]
    rcases hop with rfl | rfl <;> simp [h1]
  have gp : ∀ p b, eqGuard op t px py (.pointer p) b = pure () := fun p b => by cases op <;> rfl
  have gs : ∀ p n c b, eqGuard op t px py (.slice p n c) b = pure () := fun p n c b => by cases op <;> rfl
  have gm : ∀ p b, eqGuard op t px py (.map p) b = pure () := fun p b => by cases op <;> rfl
  have gf : ∀ f a c b, eqGuard op t px py (.func f a c) b = pure () := fun f a c b => by cases op <;> rfl
  have gn : ∀ b, eqGuard op t px py .nilFunc b = pure () := fun b => by cases op <;> rfl
  rcases hy with ⟨rfl, rfl⟩ | ⟨rfl, n, c, rfl⟩ | ⟨rfl, rfl⟩ | ⟨rfl, rfl⟩
  · have ⟨e, hde⟩ : ∃ e, d = .pointer e := by cases d <;> simp [descKind] at hd; exact ⟨_, rfl⟩
    subst hde
    have ⟨p, hxp, hpv⟩ : ∃ p, x = .pointer p ∧ p.isNone = v := by
      cases hx <;> simp only [isNil] at h <;> first | (cases h; done) | (cases h; exact ⟨_, rfl, rfl⟩)
    subst hxp; subst hpv
    refine ⟨fin _ _ _ ?_ (gp _ _) (by rcases hop with rfl | rfl <;> rfl), fin _ _ _ ?_ (gp _ _) (by rcases hop with rfl | rfl <;> rfl)⟩
    · refine hu _ _ _ ?_; cases p <;> (rw [Op.equalIn]; simp only [Sem.run_bind, und_run ht, Result.andThen_ok, Sem.run_pure, Option.isNone_none, Option.isNone_some])
    · refine hu _ _ _ ?_; cases p <;> (rw [Op.equalIn]; simp only [Sem.run_bind, und_run ht, Result.andThen_ok, Sem.run_pure, Option.isNone_none, Option.isNone_some])
  · have ⟨e, hde⟩ : ∃ e, d = .slice e := by cases d <;> simp [descKind] at hd; exact ⟨_, rfl⟩
    subst hde
    have ⟨p, n', c', hxp, hpv⟩ : ∃ p n' c', x = .slice p n' c' ∧ p.isNone = v := by
      cases hx <;> simp only [isNil] at h <;> first | (cases h; done) | (cases h; exact ⟨_, _, _, rfl, rfl⟩) | skip
      case sl => split at h <;> cases h; exact ⟨_, _, _, rfl, rfl⟩
      case sle id st off ex a h1 =>
        split at h
        · rename_i hc
          cases h
          simp only [Nat.lt_irrefl, decide_false, Bool.or_false] at hc
          have := h1 hc
          refine ⟨_, _, _, rfl, ?_⟩
          cases a with
          | none => cases this
          | some p => rfl
        · cases h
      case ro => split at h <;> cases h; exact ⟨_, _, _, rfl, rfl⟩
    subst hxp; subst hpv
    refine ⟨fin _ _ _ ?_ (gs _ _ _ _) (by rcases hop with rfl | rfl <;> rfl), fin _ _ _ ?_ (gs _ _ _ _) (by rcases hop with rfl | rfl <;> rfl)⟩
    · refine hu _ _ _ ?_; cases p <;> (rw [Op.equalIn]; simp only [Sem.run_bind, und_run ht, Result.andThen_ok, Sem.run_pure, Option.isNone_none, Option.isNone_some])
    · refine hu _ _ _ ?_; cases p <;> (rw [Op.equalIn]; simp only [Sem.run_bind, und_run ht, Result.andThen_ok, Sem.run_pure, Option.isNone_none, Option.isNone_some])
  · have ⟨e, e', hde⟩ : ∃ e e', d = .map e e' := by cases d <;> simp [descKind] at hd; exact ⟨_, _, rfl⟩
    subst hde
    have ⟨p, hxp, hpv⟩ : ∃ p, x = .map p ∧ p.isNone = v := by
      cases hx <;> simp only [isNil] at h <;> first | (cases h; done) | (cases h; exact ⟨_, rfl, rfl⟩)
    subst hxp; subst hpv
    refine ⟨fin _ _ _ ?_ (gm _ _) (by rcases hop with rfl | rfl <;> rfl), fin _ _ _ ?_ (gm _ _) (by rcases hop with rfl | rfl <;> rfl)⟩
    · refine hu _ _ _ ?_; cases p <;> (rw [Op.equalIn]; simp only [Sem.run_bind, und_run ht, Result.andThen_ok, Sem.run_pure, Option.isNone_none, Option.isNone_some])
    · refine hu _ _ _ ?_; cases p <;> (rw [Op.equalIn]; simp only [Sem.run_bind, und_run ht, Result.andThen_ok, Sem.run_pure, Option.isNone_none, Option.isNone_some])
  · have ⟨e, e', e'', hde⟩ : ∃ e e' e'', d = .func e e' e'' := by cases d <;> simp [descKind] at hd; exact ⟨_, _, _, rfl⟩
    subst hde
    have hxp : (x = .nilFunc ∧ v = true) ∨ ((∃ f a b, x = .func f a b) ∧ v = false) := by
      cases hx <;> simp only [isNil] at h <;> first | (cases h; done) | (cases h; exact .inl ⟨rfl, rfl⟩) | (cases h; exact .inr ⟨⟨_, _, _, rfl⟩, rfl⟩)
    rcases hxp with ⟨rfl, rfl⟩ | ⟨⟨f, a, b, rfl⟩, rfl⟩
    · exact ⟨fin _ _ _ (hu _ _ _ (by rw [Op.equalIn]; simp only [Sem.run_bind, und_run ht, Result.andThen_ok, Sem.run_pure, Option.isNone_none, Option.isNone_some])) (gn _) (by rcases hop with rfl | rfl <;> rfl), fin _ _ _ (hu _ _ _ (by rw [Op.equalIn]; simp only [Sem.run_bind, und_run ht, Result.andThen_ok, Sem.run_pure, Option.isNone_none, Option.isNone_some])) (gn _) (by rcases hop with rfl | rfl <;> rfl)⟩
    · exact ⟨fin _ _ _ (hu _ _ _ (by rw [Op.equalIn]; simp only [Sem.run_bind, und_run ht, Result.andThen_ok, Sem.run_pure, Option.isNone_none, Option.isNone_some])) (gf _ _ _ _) (by rcases hop with rfl | rfl <;> rfl), fin _ _ _ (hu _ _ _ (by rw [Op.equalIn]; simp only [Sem.run_bind, und_run ht, Result.andThen_ok, Sem.run_pure, Option.isNone_none, Option.isNone_some])) (gn _) (by rcases hop with rfl | rfl <;> rfl)⟩
end
end Go.Proofs.YtlogcjaigjcmiaaGreat.AM

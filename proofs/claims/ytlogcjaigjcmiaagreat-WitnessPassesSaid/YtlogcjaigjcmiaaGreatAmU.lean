/-
  THE ABSTRACT MACHINE IS SOUND: what a call comes to there, Go's call comes to ('callF_sound', 'am_call').
-/
import Derived.Test.YtlogcjaigjcmiaaGreatAmT
set_option linter.unusedVariables false
set_option linter.unusedSimpArgs false
namespace Go.Proofs.YtlogcjaigjcmiaaGreat.AM
open Go

section
variable {P : Program} {call : CallF}

/-- Which blocks a piece of code leaves alone. -/
structure PreS (s s' : St) : Prop where
  len : s.h.length ≤ s'.h.length
  lo : ∀ l, s.lo = some l → ∃ l', s'.lo = some l' ∧ l' ≤ l
  same : ∀ i, i < s.h.length → (∀ l, s'.lo = some l → i < l) → s'.h[i]? = s.h[i]?
theorem PreS.refl (s : St) : PreS s s := ⟨Nat.le_refl _, fun l h => ⟨l, h, Nat.le_refl _⟩, fun _ _ _ => rfl⟩
theorem PreS.trans {s s' s'' : St} (h : PreS s s') (k : PreS s' s'') : PreS s s'' :=
  ⟨Nat.le_trans h.len k.len, fun l hl => by obtain ⟨l', h1, h2⟩ := h.lo l hl; obtain ⟨l'', h3, h4⟩ := k.lo l' h1; exact ⟨l'', h3, by omega⟩,
   fun i hi hl => (k.same i (by have := h.len; omega) hl).trans (h.same i hi fun l' hl' => by obtain ⟨l'', h3, h4⟩ := k.lo l' hl'; have := hl l'' h3; omega)⟩
theorem omin_spec (a b : Option Nat) : (∀ l, a = some l → ∃ l', omin a b = some l' ∧ l' ≤ l) ∧ (∀ l, b = some l → ∃ l', omin a b = some l' ∧ l' ≤ l) := by
  cases a <;> cases b <;> simp [omin]
  split <;> omega
theorem PreS.step {s : St} {h' : List Blk} {lo : Option Nat} {t : List AV} (hp : Pre s.h h' lo) : PreS s { t := t, h := h', lo := omin s.lo lo } :=
  ⟨hp.len, (omin_spec _ _).1, fun i hi hl => hp.same i hi fun l hl' => by obtain ⟨l', h1, h2⟩ := (omin_spec s.lo lo).2 l hl'; have := hl l' h1; omega⟩
theorem PreS.slots {s : St} {t : List AV} : PreS s { s with t := t } := ⟨Nat.le_refl _, fun l h => ⟨l, h, Nat.le_refl _⟩, fun _ _ _ => rfl⟩
theorem runOps_pre (hC : CallOK P call) : ∀ (l : List AOper) (s s' : St), runOps call l s = some s' → PreS s s'
  | [], s, s', h => by cases h; exact PreS.refl _
  | o :: l, s, s', h => by
    rw [runOps] at h
    split at h <;> first | (cases h; done) | skip
    · exact PreS.slots.trans (runOps_pre hC l _ _ h)
    · split at h
      · split at h <;> first | (cases h; done) | skip
        rename_i hv
        exact (PreS.step (lOp_pre hC hv)).trans (runOps_pre hC l _ _ h)
      · split at h <;> first | (cases h; done) | skip
        exact PreS.slots.trans (runOps_pre hC l _ _ h)
theorem runDraw_pre (hC : CallOK P call) : ∀ (l : List AOper) (s s' : St) (hs H : List (List Blk)), runDraw call l s hs = some (s', H) → PreS s s'
  | [], s, s', hs, H, h => by cases h; exact PreS.refl _
  | o :: l, s, s', hs, H, h => by
    rw [runDraw] at h
    split at h <;> first | (cases h; done) | skip
    · exact PreS.slots.trans (runDraw_pre hC l _ _ _ _ h)
    · split at h
      · split at h <;> first | (cases h; done) | skip
        rename_i hv
        exact (PreS.step (lOp_pre hC hv)).trans (runDraw_pre hC l _ _ _ _ h)
      · split at h <;> first | (cases h; done) | skip
        split at h <;> first | (cases h; done) | skip
        split at h <;> first | (cases h; done) | skip
        rename_i h2
        split at h <;> cases h
        exact PreS.slots.trans (runDraw_pre hC l _ _ _ _ h2)
theorem exec_pre (hC : CallOK P call) : ∀ (n : Nat) (c : ACode) (s : St) (e : AExit) (s' : St), exec call n c s = some (e, s') → PreS s s'
  | 0, _, _, _, _, h => by simp [exec] at h
  | n + 1, c, s, e, s', h => by
    cases c <;> rw [exec] at h
    case skip => cases h; exact PreS.refl _
    case exit => cases h; exact PreS.refl _
    case ret => cases h; exact PreS.refl _
    case bad => cases h
    case reg =>
      rw [Option.map_eq_some_iff] at h
      obtain ⟨s2, h1, h2⟩ := h
      cases h2
      exact runOps_pre hC _ _ _ h1
    case dreg =>
      rw [Option.map_eq_some_iff] at h
      obtain ⟨s2, h1, h2⟩ := h
      cases h2
      exact runDraw_pre hC _ _ _ _ _ h1
    case seq =>
      split at h
      · rename_i h1; exact (exec_pre hC n _ _ _ _ h1).trans (exec_pre hC n _ _ _ _ h)
      · exact exec_pre hC n _ _ _ _ h
    case cond =>
      split at h <;> first | (cases h; done) | exact exec_pre hC n _ _ _ _ h
    case block =>
      split at h
      · rename_i h1; cases h; exact exec_pre hC n _ _ _ _ h1
      · exact exec_pre hC n _ _ _ _ h
    case loop =>
      split at h
      · rename_i h1; exact (exec_pre hC n _ _ _ _ h1).trans (exec_pre hC n _ _ _ _ h)
      · exact exec_pre hC n _ _ _ _ h

/-- What a function hands back. -/
theorem res_sound {S m w} {s : St} {a : Act} (r : Rep S m s.h w) (ht : TRel S m w s.t a.tmps) {rv : ResultVar} {ar : ARes} {v : AV} (hc : compRes P rv = some ar) (hv : resOf s ar = some v) :
    ∃ x, (match rv with
      | .tmp t => pure (a.tmps.getD t undef)
      | .cell b t => do loadVar t (← asAddr (a.tmps.getD b undef)) : Sem Value).run P w = .ok x w ∧ VRel S m w v x := by
  cases rv with
  | tmp t => cases hc; cases hv; exact ⟨_, rfl, TRel.get ht t⟩
  | cell b t =>
    simp only [compRes, Option.map_eq_some_iff] at hc
    obtain ⟨n, hn, rfl⟩ := hc
    simp only [resOf, Option.bind_eq_some_iff] at hv
    obtain ⟨cs, h1, h2⟩ := hv
    obtain ⟨ad, vs, h5, h6, h7, h8⟩ := rdPtr_sound r h1 (TRel.get ht b) (var?_size hn).2
    refine ⟨_, ?_, asVar_sound h2 h6⟩
    simp only [h5, asAddr, Sem.run_bind, Sem.run_pure, Result.andThen_ok]
    exact loadVar_sound hn h7 h8
theorem resAll_sound {S m w} {s : St} {a : Act} (r : Rep S m s.h w) (ht : TRel S m w s.t a.tmps) : ∀ (rs : List ResultVar) (ars : List ARes) (vs : List AV), compL (compRes P) rs = some ars → resAll s ars = some vs →
    ∃ xs, (rs.mapM fun rv => (match rv with
      | .tmp t => pure (a.tmps.getD t undef)
      | .cell b t => do loadVar t (← asAddr (a.tmps.getD b undef)) : Sem Value)).run P w = .ok xs w ∧ LRel S m w vs xs
  | [], ars, vs, hc, hv => by cases hc; cases hv; exact ⟨[], rfl, LRel.nil⟩
  | rv :: rs, ars, vs, hc, hv => by
    obtain ⟨ar, l, rfl, h1, h2⟩ := compL_cons hc
    rw [resAll] at hv
    split at hv <;> first | (cases hv; done) | skip
    rename_i v vs' h3 h4
    cases hv
    obtain ⟨x, h5, h6⟩ := res_sound r ht h1 h3
    obtain ⟨xs, h7, h8⟩ := resAll_sound r ht rs l vs' h2 h4
    refine ⟨x :: xs, ?_, LRel.cons h6 h8⟩
    rw [List.mapM_cons, Sem.run_bind, h5, Result.andThen_ok, Sem.run_bind, h7]
    rfl
theorem pack_sound {S m w} {vs : List AV} {xs : List Value} (hL : LRel S m w vs xs) : VRel S m w (packRes vs) (if h : xs.toArray.size = 1 then xs.toArray[0] else .tuple xs.toArray) := by
  match vs, hL with
  | [], hL => rw [hL.nil_r]; exact LRel.tup LRel.nil
  | [v], hL =>
    obtain ⟨x, r, rfl, h1, h2⟩ := hL.head
    rw [h2.nil_r]
    exact h1
  | v :: v' :: r, hL =>
    have hlen : xs.toArray.size ≠ 1 := by have := hL.1; simp at this ⊢; omega
    rw [dif_neg hlen]
    exact LRel.tup (by simpa using hL)

section
variable (Γ : FuncId → Option (List AV → List Blk → Option (AV × List Blk × Option Nat))) (tbl : FuncId → Option AFunc)
/-- What is known of functions, and their codes' forms. -/
structure Known (P : Program) : Prop where
  mixed : P.follows .mixedOrders = true
  known : ∀ f g, Γ f = some g → ∀ args h r h' lo, g args h = some (r, h', lo) → Pre h h' lo ∧ ((Body P f ∧ AMS P f args h r h') ∨ ExtS P f args h r h')
  code : ∀ f af, tbl f = some af → ∃ fn, P.funcs[f]? = some fn ∧ compFn P fn = some af
theorem code_sound (K : Known Γ tbl P) (n : Nat) (ih : CallOK P (callF Γ tbl n)) {f : FuncId} {args : List AV} {h : List Blk} {r : AV} {h' : List Blk} {lo : Option Nat} (hg : Γ f = none) (hc : callF Γ tbl (n + 1) f args h = some (r, h', lo)) : Pre h h' lo ∧ (Body P f ∧ AMS P f args h r h') := by
  rw [callF, hg] at hc
  simp only at hc
  split at hc <;> first | (cases hc; done) | skip
  rename_i af haf
  split at hc <;> first | (cases hc; done) | skip
  rename_i hle
  obtain ⟨fn, hfn, hcomp⟩ := K.code f af haf
  unfold compFn at hcomp
  split at hcomp <;> first | (cases hcomp; done) | skip
  rename_i c hbody
  split at hcomp <;> first | (cases hcomp; done) | skip
  rename_i hname
  split at hcomp <;> first | (cases hcomp; done) | skip
  rename_i b rs hb hrs
  cases hcomp
  have key : ∀ (e : AExit) (s : St) (vs : List AV), exec (callF Γ tbl n) n b { t := args ++ List.replicate (fn.ntmps - args.length) (.tup []), h := h } = some (e, s) → (∀ i, e ≠ .exit i) → resAll s rs = some vs → r = packRes vs → h' = s.h → lo = s.lo →
      Pre h h' lo ∧ (Body P f ∧ AMS P f args h r h') := by
    intro e s vs he hne hres hr1 hr2 hr3
    subst hr1; subst hr2; subst hr3
    refine ⟨?_, ⟨⟨fn, hfn, by rw [hbody]; rfl, by simpa using hname⟩, ?_⟩⟩
    · have hp := exec_pre ih n b _ e s he
      exact ⟨hp.len, hp.same⟩
    · intro S m w vals r0 hL
      have hvl : vals.size = args.length := by have := hL.1; simp at this; exact this.symm
      have ht : TRel S m w (args ++ List.replicate (fn.ntmps - args.length) (.tup [])) (vals ++ Array.replicate (fn.ntmps - vals.size) undef) := by
        show LRel S m w _ _
        rw [Array.toList_append, Array.toList_replicate, hvl]
        exact hL.append (LRel.replicate _ (LRel.tup LRel.nil))
      refine calls_of_wp hfn hbody (wp_mono (exec_sound K.mixed ih n b _ e s c hb he S m w { tmps := vals ++ Array.replicate (fn.ntmps - vals.size) undef, defers := [] } r0 ht) fun ex a' w' hp => ?_)
      obtain ⟨g1, S', m', g2, g3, g4, g5⟩ := hp
      obtain ⟨xs, h7, h8⟩ := resAll_sound g2 g3 fn.results.toList rs vs hrs hres
      have hrun : (results fn a'.tmps).run P w' = .ok (if h : xs.toArray.size = 1 then xs.toArray[0] else .tuple xs.toArray) w' := by
        unfold results
        rw [Array.mapM_eq_mapM_toList]
        simp only [Sem.run_bind, Sem.run_map]
        exact (congrArg (fun q : Result (List Value) => (q.andThen fun a w' => Result.ok a.toArray w').andThen fun a w' => Sem.run P (pure (if h : a.size = 1 then a[0] else .tuple a)) w') h7).trans rfl
      have fin : a'.defers = [] ∧ ∃ v, (results fn a'.tmps).run P w' = .ok v w' ∧ ∃ v_1 S'_1 m'_1, Ending.returned v = .returned v_1 ∧ VRel S'_1 m'_1 w' (packRes vs) v_1 ∧ Rep S'_1 m'_1 s.h w' ∧ Stp S m h w S'_1 m'_1 s.h w' :=
        ⟨g5, _, hrun, _, S', m', rfl, pack_sound h8, g2, g4⟩
      cases ex with
      | normal => exact fin
      | ret => exact fin
      | exit i => cases e <;> simp only [exRel] at g1; exact absurd rfl (hne _)
      | goto l => cases e <;> simp only [exRel] at g1
      | panic c => cases e <;> simp only [exRel] at g1
      | outgrown => cases e <;> simp only [exRel] at g1
  split at hc
  · cases hc
  · rename_i e s hne he
    rw [Option.map_eq_some_iff] at hc
    obtain ⟨vs, h1, h2⟩ := hc
    cases h2
    exact key _ _ vs he (fun i hi => by subst hi; exact hne _ rfl) h1 rfl rfl rfl
  · cases hc
theorem callF_sound (K : Known Γ tbl P) : ∀ n, CallOK P (callF Γ tbl n)
  | 0 => fun f args h r h' lo hc => by simp [callF] at hc
  | n + 1 => fun f args h r h' lo hc => by
    have ih := callF_sound K n
    cases hg : Γ f with
    | some g =>
      rw [callF, hg] at hc
      exact K.known f g hg _ _ _ _ _ hc
    | none =>
      obtain ⟨h1, h2⟩ := code_sound Γ tbl K n ih hg hc
      exact ⟨h1, .inl h2⟩
end
/-- A call without blocks of its own at the start: what there was stays as it was. -/
theorem am_call {Γ tbl} (K : Known Γ tbl P) {n f args r h' lo} (hc : callF Γ tbl n f args [] = some (r, h', lo)) (hb : Γ f = none) {S : Nat → Prop} {w : World} {vals : Array Value} (hS : ∀ b, S b → b < w.heap.size) (hL : LRel S (fun _ => none) w args vals.toList) :
    Calls P f vals w fun e w' => ∃ v S' m', e = .returned v ∧ VRel S' m' w' r v ∧ Rep S' m' h' w' ∧ (∀ b, S b → S' b) ∧ (∀ b, S' b → S b ∨ w.heap.size ≤ b) ∧ RowKit.Below w.heap.size w w' := by
  have hs : AMS P f args [] r h' := by
    cases n with
    | zero => simp [callF] at hc
    | succ n => exact (code_sound Γ tbl K n (callF_sound Γ tbl K n) hb hc).2.2
  refine Calls.mono (hs S (fun _ => none) w vals ⟨hS, fun _ _ => rfl, fun id bl hb => by simp at hb, fun i j b hi => by obtain ⟨_, bl, hb, _⟩ := hi; simp at hb⟩ hL) fun e w' he => ?_
  obtain ⟨v, S', m', h1, h2, h3, h4⟩ := he
  exact ⟨v, S', m', h1, h2, h3, h4.ts, h4.sn, h4.below⟩
end
end Go.Proofs.YtlogcjaigjcmiaaGreat.AM

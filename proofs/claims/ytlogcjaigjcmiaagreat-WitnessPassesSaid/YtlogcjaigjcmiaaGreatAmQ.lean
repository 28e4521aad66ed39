/-
  THE ABSTRACT MACHINE: one operation of a region, calls too.
-/
import Derived.Test.YtlogcjaigjcmiaaGreatAmP
import Derived.Calls
set_option linter.unusedVariables false
set_option linter.unusedSimpArgs false
namespace Go.Proofs.YtlogcjaigjcmiaaGreat.AM
open Go

/-- Of the blocks that were there only those from lo on are others. -/
structure Pre (h h' : List Blk) (lo : Option Nat) : Prop where
  len : h.length ≤ h'.length
  same : ∀ i, i < h.length → (∀ l, lo = some l → i < l) → h'[i]? = h[i]?
theorem Pre.refl (h : List Blk) (lo) : Pre h h lo := ⟨Nat.le_refl _, fun _ _ _ => rfl⟩
theorem Pre.append (h : List Blk) (x lo) : Pre h (h ++ x) lo := ⟨by simp, fun i hi _ => List.getElem?_append_left hi⟩
theorem Pre.set (h : List Blk) (id : Nat) (bl x) : Pre h (h.set id bl ++ x) (some id) :=
  ⟨by simp, fun i hi hl => by have := hl id rfl; rw [List.getElem?_append_left (by simpa using hi), List.getElem?_set_ne (by omega)]⟩
theorem Pre.set' (h : List Blk) (id : Nat) (bl) : Pre h (h.set id bl) (some id) := by have := Pre.set h id bl []; simpa using this
theorem wrCells_pre {h : List Blk} {id off vs h'} (hw : wrCells h id off vs = some h') : Pre h h' (some id) := by
  unfold wrCells at hw
  split at hw <;> first | (cases hw; done) | skip
  split at hw <;> cases hw
  exact Pre.set' _ _ _
theorem wOp_pre {ev : AO → AV} {h : List Blk} {o v h' lo} (hv : wOp ev h o = some (v, h', lo)) : Pre h h' lo := by
  cases o <;> simp only [wOp] at hv <;> first | (cases hv; done) | (cases hv; exact Pre.append _ _ _) | skip
  case buildSl => split at hv <;> cases hv; exact Pre.append _ _ _
  case store =>
    split at hv <;> first | (cases hv; done) | skip
    split at hv <;> first | (cases hv; done) | skip
    rw [Option.map_eq_some_iff] at hv
    obtain ⟨h2, hw, hv⟩ := hv
    cases hv
    exact wrCells_pre hw
  case s2b => split at hv <;> cases hv; exact Pre.append _ _ _
  case mksl =>
    split at hv <;> first | (cases hv; done) | skip
    split at hv <;> cases hv
    exact Pre.append _ _ _
  case mapUpd =>
    split at hv <;> first | (cases hv; done) | skip
    split at hv <;> first | (cases hv; done) | skip
    split at hv <;> first | (cases hv; done) | skip
    rw [Option.map_eq_some_iff] at hv
    obtain ⟨res, _, hv⟩ := hv
    split at hv <;> (cases hv; exact Pre.set' _ _ _)
  case append =>
    split at hv <;> first | (cases hv; done) | skip
    split at hv
    · split at hv <;> cases hv <;> exact Pre.refl _ _
    · split at hv <;> first | (cases hv; done) | skip
      · split at hv <;> cases hv; exact Pre.append _ _ _
      · split at hv <;> cases hv; exact Pre.append _ _ _
      · split at hv <;> first | (cases hv; done) | skip
        split at hv
        · rw [Option.map_eq_some_iff] at hv
          obtain ⟨h2, hw, hv⟩ := hv
          cases hv
          exact wrCells_pre hw
        · split at hv <;> first | (cases hv; done) | skip
          split at hv
          · cases hv; exact Pre.append _ _ _
          · split at hv <;> cases hv; exact Pre.set _ _ _ _
  case copy =>
    have fin : ∀ (c st : Nat) (id off : Nat) (xs : List AV), (if c = 0 then some (AV.int .i64 0, h, none) else (wrCells h id off (xs.take (c * st))).map fun h' => (AV.int .i64 c, h', some id)) = some (v, h', lo) → Pre h h' lo := by
      intro c st id off xs hv
      split at hv
      · cases hv; exact Pre.refl _ _
      · rw [Option.map_eq_some_iff] at hv
        obtain ⟨h2, hw, hv⟩ := hv
        cases hv
        exact wrCells_pre hw
    split at hv <;> first | (cases hv; done) | skip
    split at hv <;> first | (cases hv; done) | skip
    · cases hv; exact Pre.refl _ _
    · split at hv <;> first | (cases hv; done) | skip
      exact fin _ _ _ _ _ hv
  case del =>
    split at hv <;> first | (cases hv; done) | skip
    split at hv <;> first | (cases hv; done) | skip
    · cases hv; exact Pre.refl _ _
    · split at hv <;> first | (cases hv; done) | skip
      rw [Option.map_eq_some_iff] at hv
      obtain ⟨res, _, hv⟩ := hv
      split at hv
      · cases hv; exact Pre.set' _ _ _
      · cases hv; exact Pre.refl _ _
  case clear =>
    split at hv <;> first | (cases hv; done) | skip
    · cases hv; exact Pre.refl _ _
    · split at hv <;> first | (cases hv; done) | skip
      split at hv
      · cases hv; exact Pre.refl _ _
      · rw [Option.map_eq_some_iff] at hv
        obtain ⟨h2, hw, hv⟩ := hv
        cases hv
        exact wrCells_pre hw

/-- A call is what the abstract machine says. -/
def AMS (P : Program) (f : FuncId) (args : List AV) (h : List Blk) (r : AV) (h' : List Blk) : Prop :=
  ∀ (S : Nat → Prop) (m : Emb) (w : World) (vals : Array Value), Rep S m h w → LRel S m w args vals.toList →
    Calls P f vals w fun e w' => ∃ v S' m', e = .returned v ∧ VRel S' m' w' r v ∧ Rep S' m' h' w' ∧ Stp S m h w S' m' h' w'
/-- A function with a body. -/
def Body (P : Program) (f : FuncId) : Prop := ∃ fn, P.funcs[f]? = some fn ∧ fn.body.isNone = false ∧ (fn.name == "runtime.NumGoroutine") = false
/-- A function without a Go body, as the model has it. -/
def ExtS (P : Program) (f : FuncId) (args : List AV) (h : List Blk) (r : AV) (h' : List Blk) : Prop :=
  h' = h ∧ ∀ (S : Nat → Prop) (m : Emb) (w : World) (vals : Array Value), Rep S m h w → LRel S m w args vals.toList → ∃ x, (callFunc f vals).run P w = .ok (.value x) w ∧ VRel S m w r x
def CallOK (P : Program) (call : CallF) : Prop := ∀ f args h r h' lo, call f args h = some (r, h', lo) → Pre h h' lo ∧ ((Body P f ∧ AMS P f args h r h') ∨ ExtS P f args h r h')

section
variable {P : Program} {S : Nat → Prop} {m : Emb} {h : List Blk} {w : World} {call : CallF}

theorem lOp_pre (hC : CallOK P call) {ev : AO → AV} {o v h' lo} (hv : lOp call ev h o = some (v, h', lo)) : Pre h h' lo := by
  unfold lOp at hv
  split at hv
  · split at hv <;> first | (cases hv; done) | skip
    rw [Option.map_eq_some_iff] at hv
    obtain ⟨⟨r, h2, l⟩, h1, hv⟩ := hv
    cases hv
    obtain ⟨hp, _⟩ := hC _ _ _ _ _ _ h1
    refine ⟨hp.len, fun i hi hl => hp.same i hi fun l' hl' => ?_⟩
    subst hl'
    simp only [Option.bind_some] at hl
    by_cases hlt : l' < h.length
    · exact hl l' (by rw [if_pos hlt])
    · omega
  · exact wOp_pre hv
/-- One operation, wherever it stands. -/
theorem lOp_sound (hC : CallOK P call) {ev : AO → AV} {a : Act} (hE : ∀ x y, compO x = some y → VRel S m w (ev y) (a.eval x)) (r : Rep S m h w) {o : Oper} {ao v h' lo} (hc : compOp P o = some ao) (hv : lOp call ev h ao = some (v, h', lo)) (K : Act → World → Prop) (Q : Exit → Act → World → Prop)
    (hK : ∀ x S' m' w', VRel S' m' w' v x → Rep S' m' h' w' → Stp S m h w S' m' h' w' → K (a.put o.dst x) w') : o.wp P a w K Q := by
  unfold lOp at hv
  split at hv
  · rename_i f args
    split at hv <;> first | (cases hv; done) | skip
    rename_i g first cap hf
    rw [Option.map_eq_some_iff] at hv
    obtain ⟨⟨r', h2, l⟩, h1, hv⟩ := hv
    cases hv
    obtain ⟨hp, hcases⟩ := hC _ _ _ _ _ _ h1
    -- the operation is a call of a value
    have hop : ∃ fo ao ats, o.op = .call { callee := .value fo, args := ao, argTypes := ats } ∧ compO fo = some f ∧ compL compO ao.toList = some args := by
      cases ho : o.op with
      | call c =>
        obtain ⟨callee, cargs, ats⟩ := c
        cases callee with
        | value fo =>
          simp only [compOp, ho] at hc
          split at hc <;> first | (cases hc; done) | skip
          rename_i f' l' hf' hl'
          cases hc
          exact ⟨fo, cargs, ats, rfl, hf', hl'⟩
        | builtin b =>
          simp only [compOp, ho] at hc
          exfalso
          repeat' (split at hc <;> first | (cases hc; done) | (rw [Option.map_eq_some_iff] at hc; obtain ⟨_, _, hc⟩ := hc; cases hc; done) | skip)
          all_goals first | (cases hc; done) | (rw [Option.map_eq_some_iff] at hc; obtain ⟨_, _, hc⟩ := hc; cases hc; done)
        | invoke f n => simp [compOp, ho] at hc
      | makeMap t n => cases n <;> simp [compOp, ho] at hc
      | _ =>
        exfalso
        simp only [compOp, ho, compBin] at hc
        repeat' (split at hc <;> first | (cases hc; done) | (rw [Option.map_eq_some_iff] at hc; obtain ⟨_, _, hc⟩ := hc; cases hc; done) | skip)
        all_goals first | (cases hc; done) | (rw [Option.map_eq_some_iff] at hc; obtain ⟨_, _, hc⟩ := hc; cases hc; done)
    obtain ⟨fo, cargs, ats, ho, hfo, hl⟩ := hop
    have hfv := hE _ _ hfo
    rw [hf] at hfv
    obtain ⟨fs, cs, hfe, hf1, hf2⟩ := hfv.fn_inv
    have hargs := compL_sound (l := cargs.toList) hE hl
    have hall : LRel S m w (first ++ (args.map ev ++ cap)) (fs ++ cargs.map a.eval ++ cs).toList := by
      simp only [Array.toList_append, Array.toList_map, List.append_assoc]
      exact hf1.append (hargs.append hf2)
    rcases hcases with ⟨⟨fn, hfn, hbody, hname⟩, hs⟩ | ⟨hh, hx⟩
    · have hexe : (execOp a.eval o).run P w = .ok (.enter g (fs ++ cargs.map a.eval ++ cs)) w := by
        simp only [execOp, ho, resolve, hfe, Deferred.ofValue, Sem.run_bind, Sem.run_pure, Result.andThen_ok, invoke, callFunc, run_program, hfn, hname, hbody, Bool.false_eq_true, if_false]
      unfold Oper.wp
      rw [hexe, Oper.upon_enter]
      refine Calls.mono (hs S m w _ r hall) fun e w' he => ?_
      obtain ⟨x, S', m', rfl, k1, k2, k3⟩ := he
      exact hK x S' m' w' k1 k2 k3
    · obtain ⟨x, hx1, hx2⟩ := hx S m w _ r hall
      have hexe : (execOp a.eval o).run P w = .ok (.value x) w := by
        simp only [execOp, ho, resolve, hfe, Deferred.ofValue, Sem.run_bind, Sem.run_pure, Result.andThen_ok, invoke]
        exact hx1
      unfold Oper.wp
      rw [hexe, Oper.upon_value]
      subst hh
      exact hK x S m w hx2 r (Stp.refl ..)
  · obtain ⟨n, x, w', m', h1, h2, h3, h4, h5⟩ := wOp_sound hE r hc hv
    unfold Oper.wp
    rw [h1]
    rcases h2 with rfl | ⟨rfl, rfl⟩
    · exact hK x S m' w' h3 h4 h5
    · exact hK undef S m' w' h3 h4 h5
theorem pOp_wp {ev : AO → AV} {a : Act} (hE : ∀ x y, compO x = some y → VRel S m w (ev y) (a.eval x)) (r : Rep S m h w) {o : Oper} {ao v} (hc : compOp P o = some ao) (hv : pOp ev h ao = some v) (K : Act → World → Prop) (Q : Exit → Act → World → Prop)
    (hK : ∀ x, VRel S m w v x → K (a.put o.dst x) w) : o.wp P a w K Q := by
  obtain ⟨x, h1, h2⟩ := pOp_sound (fun _ => rfl) hE r hc hv
  unfold Oper.wp
  rw [h1]
  exact hK x h2
theorem pOp_ne_bad {ev : AO → AV} {h : List Blk} {o v} (hv : pOp ev h o = some v) : o ≠ .bad := by rintro rfl; simp [pOp] at hv
theorem lOp_ne_bad {ev : AO → AV} {h : List Blk} {o x} (hv : lOp call ev h o = some x) : o ≠ .bad := by rintro rfl; simp [lOp, wOp] at hv
theorem wanted_sound {ops : Array Oper} {o : Oper} {ao : AOper} {t : List AV} {a : Act} {b : Bool} (ht : TRel S m w t a.tmps) (hc : compOper P ops o = some ao) (hw : wanted t ao.g = some b) : Region.wanted o (yielded ops a.tmps) = b ∧ (ao.o ≠ .bad → compOp P o = some ao.o) ∧ ao.d = o.dst := by
  have hap : (compOp P o).getD .bad ≠ .bad → compOp P o = some ((compOp P o).getD .bad) := by
    intro hne
    cases hco : compOp P o with
    | none => rw [hco] at hne; exact absurd rfl hne
    | some x => rfl
  unfold compOper at hc
  split at hc
  · rename_i hg
    cases hc
    simp only [wanted, Option.some.injEq] at hw
    subst hw
    exact ⟨by simp [Region.wanted, hg], hap, rfl⟩
  · rename_i j want hg
    split at hc <;> first | (cases hc; done) | skip
    rename_i d hd
    cases hc
    refine ⟨?_, hap, rfl⟩
    simp only [wanted] at hw
    simp only [Region.wanted, hg]
    split at hw
    · rename_i c hc'
      cases hw
      obtain ⟨y, h1, h2⟩ := LRel.get ht hc'
      rw [vbool h2] at h1
      rw [Array.getElem?_toList] at h1
      simp [yielded, hd, h1]
    · rename_i hc'
      cases hw
      obtain ⟨y, h1, h2⟩ := LRel.get ht hc'
      rw [Array.getElem?_toList] at h1
      have : ∀ q, y ≠ .bool q := by rintro q rfl; cases h2
      have hy : yielded ops a.tmps j = none := by
        simp only [yielded, hd, Option.bind_some, h1]
        cases y <;> first | rfl | exact absurd rfl (this _)
      rw [hy]; rfl
    · cases hw

theorem compL_cons {α β : Type} {f : α → Option β} {x : α} {r : List α} {l : List β} (hc : compL f (x :: r) = some l) : ∃ y l', l = y :: l' ∧ f x = some y ∧ compL f r = some l' := by
  rw [compL] at hc
  split at hc <;> cases hc
  exact ⟨_, _, rfl, by assumption, by assumption⟩
/-- A region in the order of the text. -/
theorem runOps_sound (hC : CallOK P call) {ops : Array Oper} {Q : Exit → Act → World → Prop} : ∀ (os : List Oper) (i : Nat) (l : List AOper) (s s' : St) (S : Nat → Prop) (m : Emb) (w : World) (a : Act), ops.toList.drop i = os → compL (compOper P ops) os = some l → runOps call l s = some s' →
    Rep S m s.h w → TRel S m w s.t a.tmps → (∀ S' m' w' a', Rep S' m' s'.h w' → TRel S' m' w' s'.t a'.tmps → Stp S m s.h w S' m' s'.h w' → a'.defers = a.defers → Q .normal a' w') → wpOps P ops Q (List.range' i os.length) a w
  | [], i, l, s, s', S, m, w, a, ho, hl, hr, r, ht, hQ => by
    cases hl
    cases hr
    exact hQ S m w a r ht (Stp.refl ..) rfl
  | o :: os, i, l, s, s', S, m, w, a, ho, hl, hr, r, ht, hQ => by
    obtain ⟨ao, l', rfl, h1, h2⟩ := compL_cons hl
    have hoi : ops[i]? = some o := by
      rw [← Array.getElem?_toList, ← List.head?_drop, ho]; rfl
    have hos : ops.toList.drop (i + 1) = os := by rw [← List.tail_drop, ho]; rfl
    rw [List.length_cons, List.range'_succ]
    rw [runOps] at hr
    have next : ∀ x S' m' w' (s2 : St), runOps call l' s2 = some s' → VRel S' m' w' ((s2.t[0]?).getD .dead) x → True := fun _ _ _ _ _ _ _ => trivial
    have go : ∀ (x : Value) (v : AV) (S' : Nat → Prop) (m' : Emb) (w' : World) (h' : List Blk) (lo : Option Nat), runOps call l' { t := put s.t ao.d v, h := h', lo := lo } = some s' → ao.d = o.dst → VRel S' m' w' v x → Rep S' m' h' w' → Stp S m s.h w S' m' h' w' →
        wpOps P ops Q (List.range' (i + 1) os.length) (a.put o.dst x) w' := by
      intro x v S' m' w' h' lo g1 g2 g3 g4 g5
      refine runOps_sound hC os (i + 1) l' _ s' S' m' w' (a.put o.dst x) hos h2 g1 g4 ?_ ?_
      · rw [g2]; exact TRel.put (ht.keep (g5.kp r)) _ g3
      · intro S2 m2 w2 a2 k1 k2 k3 k4
        exact hQ S2 m2 w2 a2 k1 k2 (g5.trans k3) (k4.trans (by cases o.dst <;> rfl))
    simp only [wpOps, hoi]
    split at hr <;> first | (cases hr; done) | skip
    · rename_i hw
      obtain ⟨k1, k2, k3⟩ := wanted_sound (P := P) ht h1 hw
      rw [if_neg (by rw [k1]; decide)]
      exact go undef (.tup []) S m w s.h s.lo hr k3 (LRel.tup LRel.nil) r (Stp.refl ..)
    · rename_i hw
      obtain ⟨k1, k2, k3⟩ := wanted_sound (P := P) ht h1 hw
      rw [if_pos k1]
      refine .inl ?_
      split at hr
      · split at hr <;> first | (cases hr; done) | skip
        rename_i v h' lo hv
        exact lOp_sound hC (fun x y hx => compO_sound ht hx) r (k2 (lOp_ne_bad hv)) hv _ _ fun x S' m' w' g1 g2 g3 => go x v S' m' w' h' _ hr k3 g1 g2 g3
      · split at hr <;> first | (cases hr; done) | skip
        rename_i v hv
        exact pOp_wp (fun x y hx => compO_sound ht hx) r (k2 (pOp_ne_bad hv)) hv _ _ fun x g1 => go x v S m w s.h s.lo hr k3 g1 r (Stp.refl ..)
end
end Go.Proofs.YtlogcjaigjcmiaaGreat.AM

/-
  THE ABSTRACT MACHINE: more fuel does no harm; rules for codes with variables in them ('Wp': it comes to an end, and the end is such).
-/
import Derived.Test.YtlogcjaigjcmiaaGreatAmY
set_option linter.unusedVariables false
set_option linter.unusedSimpArgs false
namespace Go.Proofs.YtlogcjaigjcmiaaGreat.AM
open Go

def CLe (c c' : CallF) : Prop := ∀ f a h r, c f a h = some r → c' f a h = some r
theorem CLe.refl (c : CallF) : CLe c c := fun _ _ _ _ h => h
theorem lOp_mono {c c' : CallF} (hc : CLe c c') {ev h o r} (he : lOp c ev h o = some r) : lOp c' ev h o = some r := by
  unfold lOp at he ⊢
  split at he
  · split at he <;> first | (cases he; done) | skip
    rw [Option.map_eq_some_iff] at he ⊢
    obtain ⟨x, h1, h2⟩ := he
    exact ⟨x, hc _ _ _ _ h1, h2⟩
  · exact he
theorem runOps_mono {c c' : CallF} (hc : CLe c c') : ∀ (l : List AOper) (s r : St), runOps c l s = some r → runOps c' l s = some r
  | [], _, _, h => h
  | o :: l, s, r, h => by
    rw [runOps] at h ⊢
    split at h <;> first | (cases h; done) | skip
    · exact runOps_mono hc l _ _ h
    · split at h
      · rename_i hl
        rw [if_pos hl]
        split at h <;> first | (cases h; done) | skip
        rename_i v h' lo hv
        rw [lOp_mono hc hv]
        exact runOps_mono hc l _ _ h
      · rename_i hl
        rw [if_neg hl]
        split at h <;> first | (cases h; done) | skip
        exact runOps_mono hc l _ _ h
theorem runDraw_mono {c c' : CallF} (hc : CLe c c') : ∀ (l : List AOper) (s : St) (hs : List (List Blk)) (r), runDraw c l s hs = some r → runDraw c' l s hs = some r
  | [], _, _, _, h => h
  | o :: l, s, hs, r, h => by
    rw [runDraw] at h ⊢
    split at h <;> first | (cases h; done) | skip
    · exact runDraw_mono hc l _ _ _ h
    · split at h
      · rename_i hl
        rw [if_pos hl]
        split at h <;> first | (cases h; done) | skip
        rename_i v h' lo hv
        rw [lOp_mono hc hv]
        exact runDraw_mono hc l _ _ _ h
      · rename_i hl
        rw [if_neg hl]
        split at h <;> first | (cases h; done) | skip
        split at h <;> first | (cases h; done) | skip
        split at h <;> first | (cases h; done) | skip
        rename_i h2
        rw [runDraw_mono hc l _ _ _ h2]
        exact h
theorem exec_mono {c c' : CallF} (hc : CLe c c') : ∀ (n n' : Nat), n ≤ n' → ∀ (k : ACode) (s : St) (r), exec c n k s = some r → exec c' n' k s = some r
  | 0, _, _, _, _, _, h => by simp [exec] at h
  | n + 1, 0, hn, _, _, _, _ => by omega
  | n + 1, n' + 1, hn, k, s, r, h => by
    have ih := exec_mono hc n n' (by omega)
    cases k <;> rw [exec] at h ⊢ <;> try exact h
    case reg =>
      rw [Option.map_eq_some_iff] at h ⊢
      obtain ⟨x, h1, h2⟩ := h
      exact ⟨x, runOps_mono hc _ _ _ h1, h2⟩
    case dreg =>
      rw [Option.map_eq_some_iff] at h ⊢
      obtain ⟨x, h1, h2⟩ := h
      exact ⟨x, runDraw_mono hc _ _ _ _ h1, h2⟩
    case seq a b =>
      cases ha : exec c n a s with
      | none => rw [ha] at h; cases h
      | some x =>
        rw [ha] at h
        rw [ih _ _ _ ha]
        obtain ⟨e, s2⟩ := x
        cases e <;> first | exact ih _ _ _ h | exact h
    case cond =>
      split at h <;> first | (cases h; done) | exact ih _ _ _ h
    case block i b =>
      cases ha : exec c n b s with
      | none => rw [ha] at h; cases h
      | some x => rw [ha] at h; rw [ih _ _ _ ha]; exact h
    case loop b =>
      cases ha : exec c n b s with
      | none => rw [ha] at h; cases h
      | some x =>
        rw [ha] at h
        rw [ih _ _ _ ha]
        obtain ⟨e, s2⟩ := x
        cases e <;> first | exact ih _ _ _ h | exact h

section
variable {Γ : FuncId → Option (List AV → List Blk → Option (AV × List Blk × Option Nat))} {tbl : FuncId → Option AFunc}
theorem callF_mono : ∀ (n n' : Nat), n ≤ n' → CLe (callF Γ tbl n) (callF Γ tbl n')
  | 0, _, _ => fun _ _ _ _ h => by simp [callF] at h
  | n + 1, 0, hn => by omega
  | n + 1, n' + 1, hn => fun f a h r hc => by
    rw [callF] at hc ⊢
    cases hg : Γ f with
    | some g => rw [hg] at hc; exact hc
    | none =>
      rw [hg] at hc
      simp only at hc ⊢
      cases ht : tbl f with
      | none => rw [ht] at hc; cases hc
      | some af =>
        rw [ht] at hc
        simp only at hc ⊢
        split at hc <;> first | (cases hc; done) | skip
        rename_i hle
        rw [if_pos hle]
        cases he : exec (callF Γ tbl n) n af.body { t := a ++ List.replicate (af.nt - a.length) (.tup []), h := h } with
        | none => rw [he] at hc; cases hc
        | some x =>
          rw [he] at hc
          rw [exec_mono (callF_mono n n' (by omega)) n n' (by omega) _ _ _ he]
          exact hc

variable (Γ tbl)
/-- A call comes to this. -/
def Cl (f : FuncId) (args : List AV) (h : List Blk) (r : AV × List Blk × Option Nat) : Prop := ∃ n, callF Γ tbl n f args h = some r
/-- The code comes to an end, and to such a one. -/
def Wp (c : ACode) (s : St) (Q : AExit → St → Prop) : Prop := ∃ n e s', exec (callF Γ tbl n) n c s = some (e, s') ∧ Q e s'
def WpO (l : List AOper) (s : St) (Q : St → Prop) : Prop := ∃ n s', runOps (callF Γ tbl n) l s = some s' ∧ Q s'
variable {Γ tbl}
theorem Wp.mono {c s} {Q Q' : AExit → St → Prop} (h : Wp Γ tbl c s Q) (hQ : ∀ e s', Q e s' → Q' e s') : Wp Γ tbl c s Q' := by
  obtain ⟨n, e, s', h1, h2⟩ := h
  exact ⟨n, e, s', h1, hQ _ _ h2⟩
theorem Wp.skip {s} {Q : AExit → St → Prop} (h : Q .normal s) : Wp Γ tbl .skip s Q := ⟨1, _, _, by rw [exec], h⟩
theorem Wp.exit {i s} {Q : AExit → St → Prop} (h : Q (.exit i) s) : Wp Γ tbl (.exit i) s Q := ⟨1, _, _, by rw [exec], h⟩
theorem Wp.ret {s} {Q : AExit → St → Prop} (h : Q .ret s) : Wp Γ tbl .ret s Q := ⟨1, _, _, by rw [exec], h⟩
theorem Wp.reg {l s} {Q : AExit → St → Prop} (h : WpO Γ tbl l s (Q .normal)) : Wp Γ tbl (.reg l) s Q := by
  obtain ⟨n, s', h1, h2⟩ := h
  refine ⟨n + 1, .normal, s', ?_, h2⟩
  rw [exec, runOps_mono (callF_mono n (n + 1) (by omega)) _ _ _ h1]
  rfl
theorem Wp.seq {a b s} {Q : AExit → St → Prop} (h : Wp Γ tbl a s fun e s' => match e with | .normal => Wp Γ tbl b s' Q | e => Q e s') : Wp Γ tbl (.seq a b) s Q := by
  obtain ⟨n, e, s', h1, h2⟩ := h
  cases e with
  | normal =>
    obtain ⟨m, e2, s2, h3, h4⟩ := h2
    have l1 : n ≤ n + m + 1 := by omega
    have l2 : m ≤ n + m + 1 := by omega
    refine ⟨n + m + 1, e2, s2, ?_, h4⟩
    rw [exec, exec_mono (callF_mono n _ l1) n (n + m) (by omega) _ _ _ h1]
    exact exec_mono (callF_mono m _ l2) m (n + m) (by omega) _ _ _ h3
  | exit i => exact ⟨n + 1, _, _, by rw [exec, exec_mono (callF_mono n _ (by omega)) n n (by omega) _ _ _ h1], h2⟩
  | ret => exact ⟨n + 1, _, _, by rw [exec, exec_mono (callF_mono n _ (by omega)) n n (by omega) _ _ _ h1], h2⟩
theorem Wp.cond {c a b s} {Q : AExit → St → Prop} (v : Bool) (hv : evalO s.t c = .bool v) (h : Wp Γ tbl (if v then a else b) s Q) : Wp Γ tbl (.cond c a b) s Q := by
  obtain ⟨n, e, s', h1, h2⟩ := h
  refine ⟨n + 1, e, s', ?_, h2⟩
  rw [exec, hv]
  cases v <;> exact exec_mono (callF_mono n _ (by omega)) n n (by omega) _ _ _ h1
theorem Wp.block {i b s} {Q : AExit → St → Prop} (h : Wp Γ tbl b s fun e s' => match e with | .exit j => Q (if j = i then .normal else .exit j) s' | e => Q e s') : Wp Γ tbl (.block i b) s Q := by
  obtain ⟨n, e, s', h1, h2⟩ := h
  cases e with
  | exit j => exact ⟨n + 1, _, _, by rw [exec, exec_mono (callF_mono n _ (by omega)) n n (by omega) _ _ _ h1], h2⟩
  | normal => exact ⟨n + 1, _, _, by rw [exec, exec_mono (callF_mono n _ (by omega)) n n (by omega) _ _ _ h1], h2⟩
  | ret => exact ⟨n + 1, _, _, by rw [exec, exec_mono (callF_mono n _ (by omega)) n n (by omega) _ _ _ h1], h2⟩
/-- A loop, by an invariant and a number that falls. -/
theorem Wp.loop {b} {Q : AExit → St → Prop} (I : Nat → St → Prop) (hb : ∀ k s, I k s → Wp Γ tbl b s fun e s' => match e with | .normal => ∃ j, j < k ∧ I j s' | e => Q e s') : ∀ k s, I k s → Wp Γ tbl (.loop b) s Q := by
  intro k
  induction k using Nat.strongRecOn with
  | _ k ih =>
    intro s hI
    obtain ⟨n, e, s', h1, h2⟩ := hb k s hI
    cases e with
    | normal =>
      obtain ⟨j, hj, hI'⟩ := h2
      obtain ⟨m, e2, s2, h3, h4⟩ := ih j hj s' hI'
      have l1 : n ≤ n + m + 1 := by omega
      have l2 : m ≤ n + m + 1 := by omega
      refine ⟨n + m + 1, e2, s2, ?_, h4⟩
      rw [exec, exec_mono (callF_mono n _ l1) n (n + m) (by omega) _ _ _ h1]
      exact exec_mono (callF_mono m _ l2) m (n + m) (by omega) _ _ _ h3
    | exit i => exact ⟨n + 1, _, _, by rw [exec, exec_mono (callF_mono n _ (by omega)) n n (by omega) _ _ _ h1], h2⟩
    | ret => exact ⟨n + 1, _, _, by rw [exec, exec_mono (callF_mono n _ (by omega)) n n (by omega) _ _ _ h1], h2⟩

/-! Operations. -/
theorem WpO.nil {s} {Q : St → Prop} (h : Q s) : WpO Γ tbl [] s Q := ⟨0, s, rfl, h⟩
theorem WpO.off {o l s} {Q : St → Prop} (hw : wanted s.t o.g = some false) (h : WpO Γ tbl l { s with t := put s.t o.d (.tup []) } Q) : WpO Γ tbl (o :: l) s Q := by
  obtain ⟨n, s', h1, h2⟩ := h
  exact ⟨n, s', by rw [runOps, hw]; exact h1, h2⟩
theorem WpO.pure {o l s} {Q : St → Prop} (v : AV) (hw : wanted s.t o.g = some true) (hl : o.o.loud = false) (hv : pOp (evalO s.t) s.h o.o = some v) (h : WpO Γ tbl l { s with t := put s.t o.d v } Q) : WpO Γ tbl (o :: l) s Q := by
  obtain ⟨n, s', h1, h2⟩ := h
  refine ⟨n, s', ?_, h2⟩
  rw [runOps, hw]
  simp only [hl, Bool.false_eq_true, if_false, hv]
  exact h1
theorem WpO.call {o l s f args} {Q : St → Prop} (g : FuncId) (first cap : List AV) (v : AV) (h' : List Blk) (lo : Option Nat) (hw : wanted s.t o.g = some true) (ho : o.o = .call f args) (hf : evalO s.t f = .fn (.func g) first cap)
    (hv : Cl Γ tbl g (first ++ (args.map (evalO s.t) ++ cap)) s.h (v, h', lo)) (h : WpO Γ tbl l { t := put s.t o.d v, h := h', lo := omin s.lo (lo.bind fun l => if l < s.h.length then some l else none) } Q) : WpO Γ tbl (o :: l) s Q := by
  obtain ⟨n, s', h1, h2⟩ := h
  obtain ⟨m, h3⟩ := hv
  refine ⟨n + m, s', ?_, h2⟩
  have hL : lOp (callF Γ tbl (n + m)) (evalO s.t) s.h o.o = some (v, h', lo.bind fun l => if l < s.h.length then some l else none) := by
    rw [ho]
    simp only [lOp, hf]
    rw [callF_mono m (n + m) (by omega) _ _ _ _ h3]
    rfl
  rw [runOps, hw]
  have hl : o.o.loud = true := by rw [ho]; rfl
  simp only [hl, if_true, hL]
  exact runOps_mono (callF_mono n (n + m) (by omega)) _ _ _ h1
/-- A function, by its code. -/
theorem Cl.of {f af args h r h' lo} (hg : Γ f = none) (ht : tbl f = some af) (hle : args.length ≤ af.nt) (hw : Wp Γ tbl af.body { t := args ++ List.replicate (af.nt - args.length) (.tup []), h := h } fun e s => (∀ i, e ≠ .exit i) ∧ ∃ vs, resAll s af.res = some vs ∧ r = packRes vs ∧ h' = s.h ∧ lo = s.lo) : Cl Γ tbl f args h (r, h', lo) := by
  obtain ⟨n, e, s, h1, h2, vs, h3, rfl, rfl, rfl⟩ := hw
  refine ⟨n + 1, ?_⟩
  rw [callF, hg]
  simp only [ht, if_pos hle, h1]
  cases e with
  | exit i => exact absurd rfl (h2 i)
  | normal => simp [h3]
  | ret => simp [h3]
/-- By the kernel. -/
theorem Cl.ev {n f args h r} (hc : callX Γ tbl n f args h = some r) : Cl Γ tbl f args h r := ⟨n, by rw [← callX_eq]; exact hc⟩
/-- By a contract. -/
theorem Cl.known {f g args h r} (hg : Γ f = some g) (hc : g args h = some r) : Cl Γ tbl f args h r := ⟨1, by rw [callF, hg]; exact hc⟩
end
end Go.Proofs.YtlogcjaigjcmiaaGreat.AM

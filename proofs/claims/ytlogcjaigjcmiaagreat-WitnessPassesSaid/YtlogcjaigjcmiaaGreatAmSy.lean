/-
  THE ABSTRACT MACHINE WITH VARIABLES: an evaluator that takes each decision off a list and hands the conditions back ('symC'); where they hold, the code comes to that ('symC_sound').
-/
import Derived.Test.YtlogcjaigjcmiaaGreatAmFr
set_option linter.unusedVariables false
set_option linter.unusedSimpArgs false
namespace Go.Proofs.YtlogcjaigjcmiaaGreat.AM
open Go

/-- A decision: a bool; what an element is; what a call comes to; what one that reads comes to; what one that writes comes to. -/
inductive Dec where
  | b (x : Bool)
  | v (x : AV)
  | r (x : AV) (h : List Blk) (lo : Option Nat)
  | f (x : AV)
  | g (x : AV)
  | w (x : AV) (h : List Blk) (lo : Option Nat)
/-- A value, the decisions that are left, what must hold. -/
abbrev SV := Option (AV × List Dec × List Prop)
def allP : List Prop → Prop
  | [] => True
  | p :: r => p ∧ allP r
theorem allP_append : ∀ {a b : List Prop}, allP (a ++ b) → allP a ∧ allP b
  | [], b, h => ⟨trivial, h⟩
  | p :: a, b, h => ⟨⟨h.1, (allP_append h.2).1⟩, (allP_append h.2).2⟩
/-- A pure operation, with decisions. Of those that decide on nothing: as ever. -/
def symP (ev : AO → AV) (h : List Blk) (ds : List Dec) (o : AOp) : SV :=
  match o with
  | .bin op x y => match op, ds with
    | .eql, .b q :: r | .neq, .b q :: r | .lss, .b q :: r | .leq, .b q :: r | .gtr, .b q :: r | .geq, .b q :: r => some (.bool q, r, [pOp ev h o = some (.bool q)])
    | .quo, _ | .rem, _ => match ev x, ev y with
      | .int k a, .int k' c => some (.int k (if op = .quo then k.wrap (a.tdiv c) else a.tmod c), ds, [k = k', c ≠ 0])
      | _, _ => none
    | _, _ => (pOp ev h o).map fun v => (v, ds, [])
  | .beq .. | .eqS .. | .isNil .. => match ds with
    | .b q :: r => some (.bool q, r, [pOp ev h o = some (.bool q)])
    | _ => none
  | .idxAddr st x i => match ev x, ev i with
    | .sl id st' off len _ _, .int _ n => some (.ptr id (off + n.toNat * st), ds, [st = st', 0 ≤ n, n < (len : Int)])
    | .ro es st' _, .int _ n => some (.rop es st n.toNat 0, ds, [st = st', 0 ≤ n, n < (es.length : Int)])
    | _, _ => none
  | .load n a => match ev a with
    | .rop es st i off => match ds with
      | .v e :: r => if off + cellsN n ≤ e.cells.length then (asVar n ((e.cells.drop off).take (cellsN n))).map fun v => (v, r, [es[i]? = some e]) else none
      | _ => none
    | _ => (pOp ev h o).map fun v => (v, ds, [])
  | o => (pOp ev h o).map fun v => (v, ds, [])
theorem symP_sound {ev h ds o v ds'} {c : List Prop} (hs : symP ev h ds o = some (v, ds', c)) (hc : allP c) : pOp ev h o = some v := by
  have dflt : ∀ {o : AOp}, ((pOp ev h o).map fun v => (v, ds, [])) = some (v, ds', c) → pOp ev h o = some v := by
    intro o h1
    rw [Option.map_eq_some_iff] at h1
    obtain ⟨x, h2, h3⟩ := h1
    cases h3
    exact h2
  unfold symP at hs
  split at hs
  · split at hs
    case h_7 => 
      split at hs <;> cases hs
      rename_i h1 h2
      obtain ⟨rfl, h3, _⟩ := hc
      simp [pOp, abin, aint, h1, h2, h3]
    case h_8 =>
      split at hs <;> cases hs
      rename_i h1 h2
      obtain ⟨rfl, h3, _⟩ := hc
      simp [pOp, abin, aint, h1, h2, h3]
    case h_9 => exact dflt hs
    all_goals (cases hs; exact hc.1)
  · split at hs <;> cases hs; exact hc.1
  · split at hs <;> cases hs; exact hc.1
  · split at hs <;> cases hs; exact hc.1
  · split at hs <;> cases hs
    · rename_i h1 h2
      obtain ⟨rfl, h3, h4, _⟩ := hc
      simp [pOp, h1, h2, h3, h4]
    · rename_i h1 h2
      obtain ⟨rfl, h3, h4, _⟩ := hc
      simp [pOp, h1, h2, h3, h4]
  · split at hs
    · rename_i h1
      split at hs <;> first | (cases hs; done) | skip
      split at hs <;> first | (cases hs; done) | skip
      rename_i hle
      rw [Option.map_eq_some_iff] at hs
      obtain ⟨x, h2, h3⟩ := hs
      cases h3
      simp only [pOp, h1, rdPtr, hc.1, if_pos hle, Option.bind_some]
      exact h2
    · exact dflt hs
  · exact dflt hs

/-- Those whose value may be told. -/
def told : AOp → Bool
  | .load .. | .idxS .. | .idxA .. | .idxAddrA .. | .slc .. | .slcS .. | .slcA .. | .lookup .. | .b2s .. => true
  | _ => false
/-- The others. -/
def told' : AOp → Bool
  | .idxAddr .. | .len .. | .build .. | .isNil .. | .field .. | .extract .. | .nilck .. | .fieldAddr .. | .eqS .. | .bin .. | .mxmn .. | .conv .. => true
  | _ => false
def symF (ev : AO → AV) (h : List Blk) (ds : List Dec) (o : AOp) : SV :=
  match ds with
  | .f x :: r => if told o then some (x, r, [pOp ev h o = some x]) else symP ev h ds o
  | .g x :: r => if told' o then some (x, r, [pOp ev h o = some x]) else symP ev h ds o
  | _ => symP ev h ds o
theorem symF_sound {ev h ds o v ds'} {c : List Prop} (hs : symF ev h ds o = some (v, ds', c)) (hc : allP c) : pOp ev h o = some v := by
  unfold symF at hs
  split at hs
  · split at hs
    · cases hs; exact hc.1
    · exact symP_sound hs hc
  · split at hs
    · cases hs; exact hc.1
    · exact symP_sound hs hc
  · exact symP_sound hs hc

section
variable (Γ : FuncId → Option (List AV → List Blk → Option (AV × List Blk × Option Nat))) (tbl : FuncId → Option AFunc)
/-- One that is loud. -/
def symL (ev : AO → AV) (h : List Blk) (ds : List Dec) (o : AOp) : Option ((AV × List Blk × Option Nat) × List Dec × List Prop) :=
  match o with
  | .call f args => match ev f, ds with
    | .fn (.func g) first cap, .r x h' lo :: r => some ((x, h', lo.bind fun l => if l < h.length then some l else none), r, [Cl Γ tbl g (first ++ (args.map ev ++ cap)) h (x, h', lo)])
    | _, _ => none
  | o => match ds with
    | .w x h' lo :: r => some ((x, h', lo), r, [wOp ev h o = some (x, h', lo)])
    | _ => (wOp ev h o).map fun x => (x, ds, [])
/-- One operation. -/
def symO (ev : AO → AV) (h : List Blk) (ds : List Dec) (o : AOp) : Option ((AV × List Blk × Option Nat) × List Dec × List Prop) :=
  if o.loud then symL Γ tbl ev h ds o else (symF ev h ds o).map fun x => ((x.1, h, none), x.2.1, x.2.2)
def symOps : List AOper → St → List Dec → Option (St × List Dec × List Prop)
  | [], s, ds => some (s, ds, [])
  | o :: l, s, ds => match wanted s.t o.g with
    | some false => symOps l { s with t := put s.t o.d (.tup []) } ds
    | some true => match symO Γ tbl (evalO s.t) s.h ds o.o with
      | some ((v, h, lo), ds, c) => (symOps l { t := put s.t o.d v, h := h, lo := omin s.lo lo } ds).map fun x => (x.1, x.2.1, c ++ x.2.2)
      | none => none
    | none => none
/-- A region whose order is drawn. -/
def symD : List AOper → St → List (List Blk) → List Dec → Option (St × List (List Blk) × List Dec × List Prop)
  | [], s, hs, ds => some (s, hs, ds, [])
  | o :: l, s, hs, ds => match wanted s.t o.g with
    | some false => symD l { s with t := put s.t o.d (.tup []) } (if o.o.loud then hs ++ [s.h] else hs) ds
    | some true => if o.o.loud then
        match symL Γ tbl (evalM o.o.slots s.t) s.h ds o.o with
        | some ((v, h, lo), ds, c) => (symD l { t := put s.t o.d v, h := h, lo := omin s.lo lo } (hs ++ [h]) ds).map fun x => (x.1, x.2.1, x.2.2.1, c ++ x.2.2.2)
        | none => none
      else match hs[o.k]? with
        | some h => match symF (evalM o.o.slots s.t) h ds o.o with
          | some (v, ds, c) => (symD l { s with t := put s.t o.d v } hs ds).map fun x => (x.1, x.2.1, x.2.2.1, (if !o.o.reads || Nat.ble o.e o.k then c else (stays (evalM o.o.slots s.t) o v x.2.1 = true) :: c) ++ x.2.2.2)
          | none => none
        | none => none
    | none => none
/-- Code without loops, but such as end in their first round. -/
def symC : ACode → St → List Dec → Option (AExit × St × List Dec × List Prop)
  | .skip, s, ds => some (.normal, s, ds, [])
  | .reg ops, s, ds => (symOps Γ tbl ops s ds).map fun x => (.normal, x)
  | .dreg ops, s, ds => (symD Γ tbl ops s [s.h] ds).map fun x => (.normal, x.1, x.2.2)
  | .seq a b, s, ds => match symC a s ds with
    | some (.normal, s, ds, c) => (symC b s ds).map fun x => (x.1, x.2.1, x.2.2.1, c ++ x.2.2.2)
    | r => r
  | .cond c a b, s, ds => match evalO s.t c with
    | .bool true => symC a s ds
    | .bool false => symC b s ds
    | _ => none
  | .block id b, s, ds => match symC b s ds with
    | some (.exit i, s, ds, c) => some (if i = id then .normal else .exit i, s, ds, c)
    | r => r
  | .exit i, s, ds => some (.exit i, s, ds, [])
  | .ret, s, ds => some (.ret, s, ds, [])
  | .loop b, s, ds => match symC b s ds with
    | some (.normal, _) => none
    | r => r
  | _, _, _ => none
variable {Γ tbl}
theorem symL_sound {ev h ds o v h' lo ds'} {c : List Prop} (hl : AOp.loud o = true) (hs : symL Γ tbl ev h ds o = some ((v, h', lo), ds', c)) (hc : allP c) : ∃ n, lOp (callF Γ tbl n) ev h o = some (v, h', lo) := by
  unfold symL at hs
  split at hs
  · split at hs <;> first | (cases hs; done) | skip
    rename_i g first cap x h1 lo1 r hf
    cases hs
    obtain ⟨n, h3⟩ := hc.1
    exact ⟨n, by simp only [lOp, hf, h3]; rfl⟩
  · rename_i hne
    have hw : ∀ {y}, wOp ev h o = some y → lOp (callF Γ tbl 0) ev h o = some y := by
      intro y hy
      unfold lOp
      split
      · rename_i f args; exact absurd rfl (hne f args)
      · exact hy
    split at hs
    · cases hs; exact ⟨0, hw hc.1⟩
    · rw [Option.map_eq_some_iff] at hs
      obtain ⟨x, h1, h2⟩ := hs
      cases h2
      exact ⟨0, hw h1⟩
theorem symO_sound {o : AOper} {l : List AOper} {s : St} {ds ds' : List Dec} {v : AV} {h : List Blk} {lo : Option Nat} {c : List Prop} {Q : St → Prop} (hw : wanted s.t o.g = some true) (hs : symO Γ tbl (evalO s.t) s.h ds o.o = some ((v, h, lo), ds', c)) (hc : allP c)
    (hQ : WpO Γ tbl l { t := put s.t o.d v, h := h, lo := omin s.lo lo } Q) : WpO Γ tbl (o :: l) s Q := by
  unfold symO at hs
  split at hs
  · rename_i hl
    obtain ⟨m, h1⟩ := symL_sound hl hs hc
    obtain ⟨n, s', h2, h3⟩ := hQ
    refine ⟨n + m, s', ?_, h3⟩
    rw [runOps, hw]
    simp only [hl, if_true, lOp_mono (callF_mono m (n + m) (by omega)) h1]
    exact runOps_mono (callF_mono n (n + m) (by omega)) _ _ _ h2
  · rename_i hl
    rw [Option.map_eq_some_iff] at hs
    obtain ⟨x, h1, h2⟩ := hs
    obtain ⟨x1, x2, x3⟩ := x
    cases h2
    refine WpO.pure _ hw (by simpa using hl) (symF_sound h1 hc) ?_
    rw [omin_none] at hQ
    exact hQ
theorem symD_sound : ∀ (l : List AOper) (s : St) (hs : List (List Blk)) (ds : List Dec) (s' : St) (H : List (List Blk)) (ds' : List Dec) (c : List Prop), symD Γ tbl l s hs ds = some (s', H, ds', c) → allP c → ∃ n, runDraw (callF Γ tbl n) l s hs = some (s', H)
  | [], s, hs, ds, s', H, ds', c, h, hc => by cases h; exact ⟨0, rfl⟩
  | o :: l, s, hs, ds, s', H, ds', c, h, hc => by
    rw [symD] at h
    split at h <;> first | (cases h; done) | skip
    · rename_i hw
      obtain ⟨n, h1⟩ := symD_sound l _ _ _ _ _ _ _ h hc
      exact ⟨n, by rw [runDraw, hw]; exact h1⟩
    · rename_i hw
      split at h
      · rename_i hl
        split at h <;> first | (cases h; done) | skip
        rename_i v h2 lo ds2 c2 ho
        rw [Option.map_eq_some_iff] at h
        obtain ⟨x, h3, h4⟩ := h
        obtain ⟨x1, x2, x3, x4⟩ := x
        cases h4
        obtain ⟨m, k1⟩ := symL_sound hl ho (allP_append hc).1
        obtain ⟨n, k2⟩ := symD_sound l _ _ _ _ _ _ _ h3 (allP_append hc).2
        refine ⟨n + m, ?_⟩
        rw [runDraw, hw]
        simp only [hl, if_true, lOp_mono (callF_mono m (n + m) (by omega)) k1]
        exact runDraw_mono (callF_mono n (n + m) (by omega)) _ _ _ _ k2
      · rename_i hl
        split at h <;> first | (cases h; done) | skip
        rename_i h0 hk
        split at h <;> first | (cases h; done) | skip
        rename_i v ds2 c2 ho
        rw [Option.map_eq_some_iff] at h
        obtain ⟨x, h3, h4⟩ := h
        obtain ⟨x1, x2, x3, x4⟩ := x
        simp only [Prod.mk.injEq, Option.some.injEq] at h4
        obtain ⟨rfl, rfl, rfl, rfl⟩ := h4
        have hc2 := allP_append hc
        obtain ⟨n, k2⟩ := symD_sound l _ _ _ _ _ _ _ h3 hc2.2
        have hst : allP c2 ∧ stays (evalM o.o.slots s.t) o v x2 = true := by
          have hc1 := hc2.1
          split at hc1
          · rename_i hq
            refine ⟨hc1, ?_⟩
            unfold stays
            rw [hq]
            rfl
          · exact ⟨hc1.2, hc1.1⟩
        refine ⟨n, ?_⟩
        rw [runDraw, hw]
        simp only [Bool.not_eq_true] at hl
        simp only [hl, Bool.false_eq_true, if_false, hk, symF_sound ho hst.1, k2, hst.2, if_true]
theorem Wp.dreg {l s} {Q : AExit → St → Prop} (h : ∃ n s' H, runDraw (callF Γ tbl n) l s [s.h] = some (s', H) ∧ Q .normal s') : Wp Γ tbl (.dreg l) s Q := by
  obtain ⟨n, s', H, h1, h2⟩ := h
  refine ⟨n + 1, .normal, s', ?_, h2⟩
  rw [exec, runDraw_mono (callF_mono n (n + 1) (by omega)) _ _ _ _ h1]
  rfl
theorem symOps_sound : ∀ (l : List AOper) (s : St) (ds : List Dec) (s' : St) (ds' : List Dec) (c : List Prop), symOps Γ tbl l s ds = some (s', ds', c) → allP c → WpO Γ tbl l s fun s2 => s2 = s'
  | [], s, ds, s', ds', c, h, hc => by cases h; exact WpO.nil rfl
  | o :: l, s, ds, s', ds', c, h, hc => by
    rw [symOps] at h
    split at h <;> first | (cases h; done) | skip
    · rename_i hw
      exact WpO.off hw (symOps_sound l _ _ _ _ _ h hc)
    · rename_i hw
      split at h <;> first | (cases h; done) | skip
      rename_i v h2 lo ds2 c2 ho
      rw [Option.map_eq_some_iff] at h
      obtain ⟨x, h3, h4⟩ := h
      obtain ⟨x1, x2, x3⟩ := x
      cases h4
      exact symO_sound hw ho (allP_append hc).1 (symOps_sound l _ _ _ _ _ h3 (allP_append hc).2)
theorem symC_sound : ∀ (k : ACode) (s : St) (ds : List Dec) (e : AExit) (s' : St) (ds' : List Dec) (c : List Prop), symC Γ tbl k s ds = some (e, s', ds', c) → allP c → Wp Γ tbl k s fun e2 s2 => e2 = e ∧ s2 = s' := by
  intro k
  induction k with
  | skip => intro s ds e s' ds' c h hc; cases h; exact Wp.skip ⟨rfl, rfl⟩
  | reg ops =>
    intro s ds e s' ds' c h hc
    simp only [symC, Option.map_eq_some_iff] at h
    obtain ⟨x, h1, h2⟩ := h
    obtain ⟨x1, x2, x3⟩ := x
    cases h2
    obtain ⟨n, s2, h3, h4⟩ := symOps_sound ops _ _ _ _ _ h1 hc
    exact Wp.reg ⟨n, s2, h3, rfl, h4⟩
  | dreg ops =>
    intro s ds e s' ds' c h hc
    simp only [symC, Option.map_eq_some_iff] at h
    obtain ⟨x, h1, h2⟩ := h
    obtain ⟨x1, x2, x3, x4⟩ := x
    cases h2
    obtain ⟨n, h3⟩ := symD_sound ops _ _ _ _ _ _ _ h1 hc
    exact Wp.dreg ⟨n, _, _, h3, rfl, rfl⟩
  | seq a b iha ihb =>
    intro s ds e s' ds' c h hc
    simp only [symC] at h
    split at h
    · rename_i s1 ds1 c1 h1
      rw [Option.map_eq_some_iff] at h
      obtain ⟨x, h2, h3⟩ := h
      obtain ⟨x1, x2, x3, x4⟩ := x
      cases h3
      refine Wp.seq ((iha _ _ _ _ _ _ h1 (allP_append hc).1).mono ?_)
      rintro e2 s2 ⟨rfl, rfl⟩
      exact ihb _ _ _ _ _ _ h2 (allP_append hc).2
    · rename_i hne
      refine Wp.seq ((iha _ _ _ _ _ _ h hc).mono ?_)
      rintro e2 s2 ⟨rfl, rfl⟩
      cases e2 with
      | normal => exact absurd h (hne _ _ _)
      | exit i => exact ⟨rfl, rfl⟩
      | ret => exact ⟨rfl, rfl⟩
  | cond c a b iha ihb =>
    intro s ds e s' ds' c' h hc
    simp only [symC] at h
    split at h <;> first | (cases h; done) | skip
    · rename_i hv; exact Wp.cond true hv (iha _ _ _ _ _ _ h hc)
    · rename_i hv; exact Wp.cond false hv (ihb _ _ _ _ _ _ h hc)
  | block id b ih =>
    intro s ds e s' ds' c h hc
    simp only [symC] at h
    split at h
    · rename_i i s1 ds1 c1 h1
      cases h
      refine Wp.block ((ih _ _ _ _ _ _ h1 hc).mono ?_)
      rintro e2 s2 ⟨rfl, rfl⟩
      exact ⟨rfl, rfl⟩
    · rename_i hne
      refine Wp.block ((ih _ _ _ _ _ _ h hc).mono ?_)
      rintro e2 s2 ⟨rfl, rfl⟩
      cases e2 with
      | exit i => exact absurd h (hne _ _ _ _)
      | normal => exact ⟨rfl, rfl⟩
      | ret => exact ⟨rfl, rfl⟩
  | loop b ih =>
    intro s ds e s' ds' c h hc
    simp only [symC] at h
    split at h
    · cases h
    · rename_i hne
      obtain ⟨n, e2, s2, h1, h2, h3⟩ := ih _ _ _ _ _ _ h hc
      refine ⟨n + 1, e2, s2, ?_, h2, h3⟩
      rw [exec, exec_mono (callF_mono n _ (by omega)) n n (by omega) _ _ _ h1]
      cases e2 with
      | normal => subst h2; exact absurd h (hne _)
      | exit i => rfl
      | ret => rfl
  | exit i => intro s ds e s' ds' c h hc; cases h; exact Wp.exit ⟨rfl, rfl⟩
  | ret => intro s ds e s' ds' c h hc; cases h; exact Wp.ret ⟨rfl, rfl⟩
  | bad => intro s ds e s' ds' c h hc; cases h
end
end Go.Proofs.YtlogcjaigjcmiaaGreat.AM

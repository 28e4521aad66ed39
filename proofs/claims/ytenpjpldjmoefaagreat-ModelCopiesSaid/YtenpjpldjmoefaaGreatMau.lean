/-
  'gauger's law ModelCopies holds of every input: it returns true, and each argument reads behind the call as it read before.
  This text: part 21 of 22 of the proof (MoAj, MoAk, MoAl, MoAn).
-/
import Derived.Test.YtenpjpldjmoefaaGreatMat
import Derived.Test.YtenpjpldjmoefaaGreatMai
set_option linter.unusedVariables false
set_option linter.unusedSimpArgs false
set_option maxRecDepth 100000
set_option maxHeartbeats 4000000
namespace Go.Proofs.YtenpjpldjmoefaaGreat.AM.Mo
open Go
noncomputable def kdA (T : List (List Int)) (V : List Vw) (free : Bool) (s : DS) (w : Wi) : An × DS :=
 if w.kd = 1 then (⟨(insS T V free s.now w).1, [], [], 0⟩, { s with now := (insS T V free s.now w).2 })
 else if w.kd = 2 ∨ w.kd = 3 then (⟨(cgS T V free s.now w).1, [], [], 0⟩, { s with now := (cgS T V free s.now w).2 })
 else if w.kd = 4 then (⟨0, rowsS (s.now.getD w.tb.toNat []) w.key w.key, [], 0⟩, s)
 else if w.kd = 5 then (⟨0, rowsS (s.now.getD w.tb.toNat []) w.key w.hi, [], 0⟩, s)
 else if w.kd = 6 then (⟨0, [], sumsS (groupsS T V s.now w.tb) w.key w.key, 0⟩, s)
 else if w.kd = 7 then (⟨0, [], sumsS (groupsS T V s.now w.tb) w.key w.hi, 0⟩, s)
 else if w.kd = 8 then (if 4 ≤ s.marks.length then (⟨5, [], [], 0⟩, s) else (⟨0, [], [], (s.marks.length : Int)⟩, { s with marks := s.marks ++ [s.now] }))
 else if w.kd = 9 then (⟨(backS s w.n).1, [], [], 0⟩, (backS s w.n).2) else (⟨0, [], [], 0⟩, s)
noncomputable def doA (T : List (List Int)) (V : List Vw) (free : Bool) (s : DS) (w : Wi) : An × DS := match s.was with
 | none => (⟨13, [], [], 0⟩, s)
 | some _ => if wishB T V w then kdA T V free s w else (⟨1, [], [], 0⟩, s)
theorem kd_cv {T : List (List Int)} {V : List Vw} {free : Bool} {s : DS} {w : Wi} : Cv (kdS T V free s w).1 (anV (kdA T V free s w).1) ∧ (kdS T V free s w).2 = (kdA T V free s w).2 := by
 unfold kdS kdA
 split
 ·exact ⟨cv_err _, rfl⟩
 split
 ·exact ⟨cv_err _, rfl⟩
 split
 ·exact ⟨cv_rows _, rfl⟩
 split
 ·exact ⟨cv_rows _, rfl⟩
 split
 ·exact ⟨cv_sums _, rfl⟩
 split
 ·exact ⟨cv_sums _, rfl⟩
 split
 ·unfold saveM saveS
  split
  ·exact ⟨cv_err _, rfl⟩
  ·exact ⟨cv_num _, rfl⟩
 split
 ·exact ⟨cv_err _, rfl⟩
 ·exact ⟨cv_err _, rfl⟩
theorem do_cv {T : List (List Int)} {V : List Vw} {free : Bool} {s : DS} {w : Wi} : Cv (doS T V free s w).1 (anV (doA T V free s w).1) ∧ (doS T V free s w).2 = (doA T V free s w).2 := by
 cases h : s.was with
 | none =>
  simp only [doS, doA, h]
  exact ⟨cv_err _, trivial⟩
 | some ts =>
  simp only [doS, doA, h]
  by_cases hw : wishB T V w = true
  ·rw [if_pos hw, if_pos hw]; exact kd_cv
  ·rw [if_neg hw, if_neg hw]; exact ⟨cv_err _, rfl⟩
theorem doA_ok {T : List (List Int)} {V : List Vw} {free : Bool} {k : Nat} {s : DS} {w : Wi} (pl : OkP T V) (ok : OkS T k s) (hk : k ≤ 99999) : OkS T (k + 1) (doA T V free s w).2 := do_cv.2 ▸ do_ok pl ok hk
theorem doA_m {T : List (List Int)} {V : List Vw} {free : Bool} {k p : Nat} {s : DS} {H : List Blk} {w : Wi} (pl : OkP T V) (ok : OkS T k s) (hk9 : k ≤ 99999) (hrl : w.row.length ≤ 9223372036854775807) (hd : DBA T V free H p s) :
  ∃ h', AMS Tryz.prog 19 [.ptr p 0, .agg (enWi w)] H (anV (doA T V free s w).1) h' ∧ DBA T V free h' p (doA T V free s w).2 ∧ Step H p h' := by
 obtain ⟨h', g1, g2, g3⟩ := do_m pl ok hk9 hrl hd (w := w)
 exact ⟨h', g1.cv (CvH.refl _) do_cv.1, do_cv.2 ▸ g2, g3⟩
theorem okAn_err (e n : Int) : OkAn ⟨e, [], [], n⟩ := ⟨by simp, (fun x hx => by cases hx), by simp, (fun x hx => by cases hx)⟩
theorem okAn_rows {T : List (List Int)} {V : List Vw} {k : Nat} {s : DS} (pl : OkPl T V) (ok : OkTb T k s.now) (hk : k ≤ 99999) (t : Nat) (lo hi : Val) : OkAn ⟨0, rowsS (s.now.getD t []) lo hi, [], 0⟩ := by
 have h : ∀ rows, s.now.getD t [] = rows → rows.length ≤ k ∧ ∀ r ∈ rows, r.length ≤ 1000 := fun rows hr => by
  rw [List.getD_eq_getElem?_getD] at hr
  cases h1 : s.now[t]? with
  | none => rw [h1] at hr; rw [← hr]; exact ⟨Nat.zero_le _, fun r hm => by cases hm⟩
  | some r1 =>
   rw [h1] at hr
   cases hr
   exact ⟨(ok.rows t _ h1).1, fun r hm => (fit_len pl ((ok.rows t _ h1).2 r hm)).2.1⟩
 obtain ⟨h1, h2⟩ := h _ rfl
 have hl : (rowsS (s.now.getD t []) lo hi).length ≤ (s.now.getD t []).length := List.length_filter_le ..
 exact ⟨by simp only; omega, fun x hx => by have := h2 x ((List.mem_filter.1 hx).1); omega, by simp, (fun x hx => by cases hx)⟩
theorem okAn_sums {T : List (List Int)} {V : List Vw} {k : Nat} {s : DS} (pl : OkP T V) (ok : OkTb T k s.now) (hk : k ≤ 99999) {v : Int} (h0 : 0 ≤ v) {vw : Vw} (hv : V[v.toNat]? = some vw) (lo hi : Val) : OkAn ⟨0, [], sumsS (groupsS T V s.now v) lo hi, 0⟩ := by
 obtain ⟨rows, hok, h1, hr⟩ := ok.okNow pl (by omega) v.toNat vw hv
 have ev : ((v.toNat : Nat) : Int) = v := by omega
 rw [ev] at hok
 have e : groupsS T V s.now v = viewS T V v rows := by
  rw [groupsS, hv]
  simp only [List.getD_eq_getElem?_getD, hr, Option.getD_some]
 rw [e]
 have hl : (sumsS (viewS T V v rows) lo hi).length ≤ (viewS T V v rows).length := by rw [sumsS, List.length_map]; exact List.length_filter_le ..
 have h2 := viewS_len hok
 have h3 := hok.len
 refine ⟨by simp, (fun x hx => by cases hx), by simp only; omega, fun x hx => ?_⟩
 obtain ⟨e, he, rfl⟩ := List.mem_map.1 hx
 have := viewS_tot hok e ((List.mem_filter.1 he).1)
 simp only [sumOf, List.length_map]
 omega
theorem doA_an {T : List (List Int)} {V : List Vw} {free : Bool} {k : Nat} {s : DS} {w : Wi} (pl : OkP T V) (ok : OkS T k s) (hk : k ≤ 99999) : OkAn (doA T V free s w).1 := by
 unfold doA
 split
 ·exact okAn_err _ _
 ·split
  ·rename_i hwb
   unfold kdA
   split
   ·exact okAn_err _ _
   split
   ·exact okAn_err _ _
   split
   ·exact okAn_rows pl.toOkPl ok.now hk _ _ _
   split
   ·exact okAn_rows pl.toOkPl ok.now hk _ _ _
   split
   ·rename_i h
    obtain ⟨h0, vw, hv⟩ := wish_vw hwb (.inl h)
    exact okAn_sums pl ok.now hk h0 hv _ _
   split
   ·rename_i h
    obtain ⟨h0, vw, hv⟩ := wish_vw hwb (.inr h)
    exact okAn_sums pl ok.now hk h0 hv _ _
   split
   ·split <;> exact okAn_err _ _
   split <;> exact okAn_err _ _
  ·exact okAn_err _ _
theorem AMS.cvA {P : Program} {f : FuncId} {args args' : List AV} {h h' : List Blk} {r : AV} (hs : AMS P f args' h r h') (hc : CvL args args') : AMS P f args h r h' := fun S m w vals r0 hL => hs S m w vals r0 (hL.cvl hc)
def rB : Nat → List Blk → AV → List Nat
 | n + 1, h, .agg cs => cs.flatMap (rB n h)
 | n + 1, h, .sl id _ _ _ _ _ => id :: (match h[id]? with | some (.cells cs) => cs.flatMap (rB n h) | _ => [])
 | _, _, _ => []
def nr1 : AV → AV
 | .nils => .ro [] 3 false
 | .ro es st _ => .ro es st false
 | v => v
theorem nr1_cv (v : AV) : Cv v (nr1 v) := by
 cases v <;> first | exact .refl _ | exact Cv.nils | exact Cv.ex
def nrW : AV → AV
 | .agg cs => .agg (cs.map nr1)
 | v => v
theorem cvl_map {f : AV → AV} (h : ∀ v, Cv v (f v)) : ∀ l : List AV, CvL l (l.map f)
 | [] => .nil
 | v :: r => .cons (h v) (cvl_map h r)
theorem nrW_cv (v : AV) : Cv v (nrW v) := by
 cases v <;> first | exact .refl _ | exact Cv.agg (cvl_map nr1_cv _)
def nrT : AV → AV
 | .agg [.ro c st _] => .agg [.ro c st false]
 | .agg [.nils] => .agg [.ro [] 1 false]
 | .ro c st _ => .agg [.ro c st false]
 | .nils => .agg [.ro [] 1 false]
 | v => v
def nrV : AV → AV
 | .agg [a, b, .ro c st _] => .agg [a, b, .ro c st false]
 | .agg [a, b, .nils] => .agg [a, b, .ro [] 1 false]
 | v => v
theorem nrT_cv (v : AV) : CvL v.cells (nrT v).cells := by
 unfold nrT
 split
 ·exact .cons Cv.ex .nil
 ·exact .cons Cv.nils .nil
 ·exact .cons Cv.ex .nil
 ·exact .cons Cv.nils .nil
 ·exact .refl _
theorem nrV_cv (v : AV) : CvL v.cells (nrV v).cells := by
 unfold nrV
 split
 ·exact .cons (.refl _) (.cons (.refl _) (.cons Cv.ex .nil))
 ·exact .cons (.refl _) (.cons (.refl _) (.cons Cv.nils .nil))
 ·exact .refl _
def nrP : AV → AV
 | .agg [.ro t st _, .ro v sv _] => .agg [.ro (t.map nrT) st false, .ro (v.map nrV) sv false]
 | v => v
theorem cv_rmap {f : AV → AV} (h : ∀ v, CvL v.cells (f v).cells) (l : List AV) (st : Nat) (ex : Bool) : Cv (.ro l st ex) (.ro (l.map f) st false) := Cv.ro (by simp) fun i hi => by
 have e1 : l.getD i .dead = l[i] := by simp [List.getD_eq_getElem?_getD, hi]
 have e2 : (l.map f).getD i .dead = f l[i] := by simp [List.getD_eq_getElem?_getD, hi]
 rw [e1, e2]
 exact h _
theorem nrP_cv (v : AV) : Cv v (nrP v) := by
 unfold nrP
 split
 ·exact Cv.agg (.cons (cv_rmap nrT_cv _ _ _) (.cons (cv_rmap nrV_cv _ _ _) .nil))
 ·exact .refl _
def WA (h : List Blk) (x : AV) (w : Wi) : Prop := ∃ y, AM.frz (subB (rB 6 h x) h) 8 x = some y ∧ nrW y = .agg (enWi w)
def PA (h : List Blk) (x : AV) (T : List (List Int)) (V : List Vw) : Prop := ∃ y, AM.frz (subB (rB 6 h x) h) 8 x = some y ∧ nrP y = pA T V
theorem WA.inj {h x w w'} (a : WA h x w) (b : WA h x w') : w = w' := by
 obtain ⟨y, h1, h2⟩ := a
 obtain ⟨y', h3, h4⟩ := b
 rw [h1] at h3
 cases h3
 rw [h2] at h4
 exact wi_inj (AV.agg.inj h4)
theorem PA.inj {h x T V T' V'} (a : PA h x T V) (b : PA h x T' V') : T = T' ∧ V = V' := by
 obtain ⟨y, h1, h2⟩ := a
 obtain ⟨y', h3, h4⟩ := b
 rw [h1] at h3
 cases h3
 rw [h2] at h4
 exact pA_inj h4
theorem frz_wi {F : List Blk} (w : Wi) : AM.frz F 8 (.agg (enWi w)) = some (.agg (enWi w)) := by
 have e1 : ∀ i, AM.frz F 7 (.int .i64 i) = some (.int .i64 i) := fun _ => rfl
 have e2 : ∀ s, AM.frz F 7 (.str s) = some (.str s) := fun _ => rfl
 have e3 := frz_vs (h := F) (n := 4) w.row
 rw [AM.frz]
 simp only [mapO, e1, e2, e3, Option.map_some]
theorem wa_wi (h : List Blk) (w : Wi) : WA h (.agg (enWi w)) w := ⟨_, frz_wi w, rfl⟩
theorem rB_wi (h : List Blk) (w : Wi) : rB 6 h (.agg (enWi w)) = [] := rfl
theorem frz_iV {F : List Blk} {n : Nat} (c : List Int) : AM.frz F (n + 2) (.ro (c.map iV) 1 false) = some (.ro (c.map iV) 1 false) := by
 have e : mapO (AM.frz F (n + 1)) (c.map iV) = some (c.map iV) := mapO_of rfl fun i x y h1 h2 => by
  rw [h1] at h2; cases h2
  obtain ⟨z, _, rfl⟩ := List.mem_map.1 (List.mem_of_getElem? h1)
  rfl
 show ((mapO (AM.frz F (n + 1)) (c.map iV)).bind fun es' => if (es'.all fun e => Nat.beq e.cells.length 1) then some (AV.ro es' 1 false) else none) = _
 rw [e, Option.bind_some, if_pos]
 rw [List.all_eq_true]
 intro x hx
 obtain ⟨y, _, rfl⟩ := List.mem_map.1 hx
 rfl
theorem frz_pA {F : List Blk} (T : List (List Int)) (V : List Vw) : AM.frz F 8 (pA T V) = some (pA T V) := by
 have h1 : ∀ c, AM.frz F 6 (tV c) = some (tV c) := fun c => by
  rw [AM.frz]
  simp only [mapO, frz_iV (n := 3), Option.map_some]
 have h2 : ∀ v, AM.frz F 6 (vwV v) = some (vwV v) := fun v => by
  have e1 : ∀ i, AM.frz F 5 (.int .i64 i) = some (.int .i64 i) := fun _ => rfl
  rw [AM.frz]
  simp only [mapO, frz_iV (n := 3), e1, Option.map_some]
 have e1 : AM.frz F 7 (.ro (T.map tV) 1 false) = some (.ro (T.map tV) 1 false) := by
  have e : mapO (AM.frz F 6) (T.map tV) = some (T.map tV) := mapO_of rfl fun i x y a1 a2 => by
   rw [a1] at a2; cases a2
   obtain ⟨z, _, rfl⟩ := List.mem_map.1 (List.mem_of_getElem? a1)
   exact h1 z
  show ((mapO (AM.frz F 6) (T.map tV)).bind fun es' => if (es'.all fun e => Nat.beq e.cells.length 1) then some (AV.ro es' 1 false) else none) = _
  rw [e, Option.bind_some, if_pos]
  rw [List.all_eq_true]
  intro x hx
  obtain ⟨y, _, rfl⟩ := List.mem_map.1 hx
  rfl
 have e2 : AM.frz F 7 (.ro (V.map vwV) 3 false) = some (.ro (V.map vwV) 3 false) := by
  have e : mapO (AM.frz F 6) (V.map vwV) = some (V.map vwV) := mapO_of rfl fun i x y a1 a2 => by
   rw [a1] at a2; cases a2
   obtain ⟨z, _, rfl⟩ := List.mem_map.1 (List.mem_of_getElem? a1)
   exact h2 z
  show ((mapO (AM.frz F 6) (V.map vwV)).bind fun es' => if (es'.all fun e => Nat.beq e.cells.length 3) then some (AV.ro es' 3 false) else none) = _
  rw [e, Option.bind_some, if_pos]
  rw [List.all_eq_true]
  intro x hx
  obtain ⟨y, _, rfl⟩ := List.mem_map.1 hx
  rfl
 rw [AM.frz]
 simp only [mapO, e1, e2, Option.map_some]
theorem nrP_pA (T : List (List Int)) (V : List Vw) : nrP (pA T V) = pA T V := by
 have e1 : (T.map tV).map nrT = T.map tV := by rw [List.map_map]; exact List.map_congr_left fun c _ => rfl
 have e2 : (V.map vwV).map nrV = V.map vwV := by rw [List.map_map]; exact List.map_congr_left fun c _ => rfl
 show AV.agg [.ro ((T.map tV).map nrT) 1 false, .ro ((V.map vwV).map nrV) 3 false] = _
 rw [e1, e2]
theorem pa_pA (h : List Blk) (T : List (List Int)) (V : List Vw) : PA h (pA T V) T V := ⟨_, frz_pA T V, nrP_pA T V⟩
theorem rB_pA (h : List Blk) (T : List (List Int)) (V : List Vw) : rB 6 h (pA T V) = [] := rfl
def NW (args : List AV) (h : List Blk) (r : AV) (h' : List Blk) : Prop :=
 (args = [.agg [.nils, .nils], .bool false] ∧ r = .nilp ∧ h' = h) ∨
 ∃ T V free x, args = [x, .bool free] ∧ x ≠ .agg [.nils, .nils] ∧ PA h x T V ∧ r = .ptr (h.length + 2) 0 ∧ DBA T V free h' (h.length + 2) (newS T) ∧ h.length ≤ h'.length ∧ (∀ i y, i ∉ rB 6 h x → h[i]? = some y → h'[i]? = some y) ∧ ∀ i ∈ ids h' (h.length + 2), h.length ≤ i
theorem nw_e {Γ : FuncId → Option GF} (hg : Γ 8 = some (anyG Tryz.prog 8 NW)) {T : List (List Int)} {V : List Vw} {x : AV} (free : Bool) (hg9 : okG9 (T, V)) (hT : T.length ≤ 1000) {H : List Blk} (hx : PA H x T V) (hne : x ≠ .agg [.nils, .nils]) :
  ∃ H' lo, Cl Γ Mo.T 8 [x, .bool free] H (.ptr (H.length + 2) 0, H', lo) ∧ DBA T V free H' (H.length + 2) (newS T) ∧ H.length ≤ H'.length ∧ (∀ i y, i ∉ rB 6 H x → H[i]? = some y → H'[i]? = some y) ∧ ∀ i ∈ ids H' (H.length + 2), H.length ≤ i := by
 have hx0 := hx
 obtain ⟨y, hf, hy⟩ := hx
 obtain ⟨h', g1, g2, g3, g4⟩ := new_m free hg9 hT (offB (rB 6 H x) H)
 rw [offB_len] at g1 g2 g4
 have ha := AMS.freezeA (k := 8) (args := [x, .bool free]) (subB_ok (rB 6 H x) H) (offB_ok (rB 6 H x) H) (.cons (.inr hf) (.cons (.inl rfl) .nil)) (AMS.cvA g1 (.cons (hy ▸ nrP_cv y) (.cons (.refl _) .nil)))
 have hl : H.length ≤ h'.length := by have := g3.1; rw [offB_len] at this; exact this
 have hk : ∀ i z, i ∉ rB 6 H x → H[i]? = some z → h'[i]? = some z := fun i z hi hz => g3.2 i z (offB_get hz hi)
 obtain ⟨r, H', lo, hI, hc⟩ := anyG_cl (Γ := Γ) (tbl := Mo.T) (args := [x, .bool free]) hg (.inr ⟨T, V, free, x, rfl, hne, hx0, rfl, g2, hl, hk, g4⟩) ha hl
 rcases hI with ⟨h1, _⟩ | ⟨T', V', free', x', h1, _, h2, rfl, h3, h4, h5, h6⟩
 ·simp only [List.cons.injEq, and_true] at h1
  exact absurd h1.1 hne
 ·simp only [List.cons.injEq, AV.bool.injEq, and_true] at h1
  obtain ⟨rfl, rfl⟩ := h1
  obtain ⟨rfl, rfl⟩ := hx0.inj h2
  exact ⟨H', lo, hc, h3, h4, h5, h6⟩
theorem nw_nil {Γ : FuncId → Option GF} (hg : Γ 8 = some (anyG Tryz.prog 8 NW)) (H : List Blk) : ∃ lo, Cl Γ Mo.T 8 [.agg [.nils, .nils], .bool false] H (.nilp, H, lo) := by
 have key : res1 (callX (gGet gam0) Mo.T 100 8 [.agg [.nils, .nils], .bool false] []) = some .nilp := by kernel_rfl
 obtain ⟨h', lo, h⟩ := res1_some key
 rw [callX_eq] at h
 have hp := pureS_cl K0 ⟨100, h⟩ (by kernel_rfl) rfl
 obtain ⟨r, H', lo, hI, hc⟩ := anyG_cl (Γ := Γ) (tbl := Mo.T) (args := [.agg [.nils, .nils], .bool false]) hg (.inl ⟨rfl, rfl, rfl⟩) (hp.ams rfl rfl H) (Nat.le_refl _)
 rcases hI with ⟨_, rfl, rfl⟩ | ⟨T', V', free', x', h1, h2, _⟩
 ·exact ⟨lo, hc⟩
 ·simp only [List.cons.injEq, and_true] at h1
  exact absurd h1.1.symm h2
def MRN {X : Type} (nr : AV) (enc : X → List AV) (step : List (List Int) → List Vw → Bool → DS → X → AV × DS) (args : List AV) (h : List Blk) (r : AV) (h' : List Blk) : Prop := (args.head? = some .nilp ∧ r = nr ∧ Kept h h') ∨ MR enc step args h r h'
section
variable {X : Type} {nr : AV} {enc : X → List AV} {step : List (List Int) → List Vw → Bool → DS → X → AV × DS} {Γ : FuncId → Option GF} {f : FuncId}
theorem mrn_e (hinj : ∀ a b, enc a = enc b → a = b) (hg : Γ f = some (anyG Tryz.prog f (MRN nr enc step))) {T : List (List Int)} {V : List Vw} {free : Bool} {p : Nat} {s : DS} {x : X} {H : List Blk} (hd : DBA T V free H p s)
  (ha : ∃ h', AMS Tryz.prog f (.ptr p 0 :: enc x) H (step T V free s x).1 h' ∧ DBA T V free h' p (step T V free s x).2 ∧ Step H p h') : ∃ H' lo, Cl Γ Mo.T f (.ptr p 0 :: enc x) H ((step T V free s x).1, H', lo) ∧ DBA T V free H' p (step T V free s x).2 ∧ Step H p H' := by
 obtain ⟨h', ha, hd', hs⟩ := ha
 obtain ⟨r, H', lo, hI, hc⟩ := anyG_cl (Γ := Γ) (tbl := Mo.T) hg (.inr ⟨T, V, free, p, s, x, rfl, hd, rfl, hd', hs⟩) ha hs.1
 rcases hI with ⟨h1, _⟩ | ⟨T2, V2, free2, p2, s2, x2, h1, h2, rfl, h4, h5⟩
 ·cases h1
 ·simp only [List.cons.injEq, AV.ptr.injEq, and_true] at h1
  obtain ⟨rfl, hx⟩ := h1
  have := hinj _ _ hx
  subst this
  obtain ⟨rfl, rfl, rfl, rfl⟩ := hd.inj h2
  exact ⟨H', lo, hc, h4, h5⟩
theorem mrn_nil (hg : Γ f = some (anyG Tryz.prog f (MRN nr enc step))) {rest : List AV} {H H1 : List Blk} (ha : AMS Tryz.prog f (.nilp :: rest) H nr H1) (hk : Kept H H1) : ∃ H' lo, Cl Γ Mo.T f (.nilp :: rest) H (nr, H', lo) ∧ Kept H H' := by
 obtain ⟨r, H', lo, hI, hc⟩ := anyG_cl (Γ := Γ) (tbl := Mo.T) hg (.inl ⟨rfl, rfl, hk⟩) ha hk.1
 rcases hI with ⟨_, rfl, h2⟩ | ⟨T2, V2, free2, p2, s2, x2, h1, _⟩
 ·exact ⟨H', lo, hc, h2⟩
 ·cases h1
end
def begM (T : List (List Int)) (V : List Vw) (free : Bool) (s : DS) (x : Unit) : AV × DS := (.int .i64 (begS s).1, (begS s).2)
def comM (T : List (List Int)) (V : List Vw) (free : Bool) (s : DS) (x : Unit) : AV × DS := (.int .i64 (endS s true).1, (endS s true).2)
def aboM (T : List (List Int)) (V : List Vw) (free : Bool) (s : DS) (x : Unit) : AV × DS := (.int .i64 (endS s false).1, (endS s false).2)
noncomputable def gam20 : List (Nat × GF) := (51, anyG Tryz.prog 51 (CP false true)) :: gam8
theorem K20 : Known (gGet gam20) tree.get Tryz.prog := known_of (by kernel_rfl) ⟨anyG_ok ⟨_, Tryz.func51, by kernel_rfl, by kernel_rfl⟩, oft_ok, ofv_ok, isVal_ok, view_ok, grp_ok, tot_ok, adt_ok, fit_ok, code_ok, int_ok, of_ok, add_ok, cmp_ok, good_ok, xSub_ok, xAdd_ok, trivial⟩ all
section
variable {T : List (List Int)} {V : List Vw} {free : Bool} {k p : Nat} {s : DS} {H : List Blk}
theorem beg_m (pl : OkPl T V) (ok : OkS T k s) (hk : k ≤ 99999) (hd : DBA T V free H p s) : ∃ h', AMS Tryz.prog 12 [.ptr p 0] H (begM T V free s ()).1 h' ∧ DBA T V free h' p (begM T V free s ()).2 ∧ Step H p h' := by
 obtain ⟨H', lo, g1, g2⟩ := begin_cl (Γ := gGet gam20) (by kernel_rfl) (by kernel_rfl) hd (ok.now.okTs pl (by omega))
 exact ⟨H', Cl.ams K20 g1 (by kernel_rfl), g2⟩
theorem com_m (hd : DBA T V free H p s) : ∃ h', AMS Tryz.prog 14 [.ptr p 0] H (comM T V free s ()).1 h' ∧ DBA T V free h' p (comM T V free s ()).2 ∧ Step H p h' := by
 obtain ⟨H', lo, g1, g2⟩ := commit_cl (Γ := gGet gam20) (by kernel_rfl) (by kernel_rfl) hd
 exact ⟨H', Cl.ams K20 g1 (by kernel_rfl), g2⟩
theorem abo_m (hd : DBA T V free H p s) : ∃ h', AMS Tryz.prog 16 [.ptr p 0] H (aboM T V free s ()).1 h' ∧ DBA T V free h' p (aboM T V free s ()).2 ∧ Step H p h' := by
 obtain ⟨H', lo, g1, g2⟩ := abort_cl (Γ := gGet gam20) (by kernel_rfl) (by kernel_rfl) hd
 exact ⟨H', Cl.ams K20 g1 (by kernel_rfl), g2⟩
end
theorem nil_pure {f : FuncId} {args : List AV} {r : AV} (hc : cloL args = true) (hr : clo r = true) (hf : gGet gam0 f = none) (h : res1 (callX (gGet gam0) Mo.T 100 f args []) = some r) (H : List Blk) : AMS Tryz.prog f args H r H := by
 obtain ⟨h', lo, h⟩ := res1_some h
 rw [callX_eq] at h
 exact (pureS_cl K0 ⟨100, h⟩ hf hr).ams hc hr H
def MD (args : List AV) (h : List Blk) (r : AV) (h' : List Blk) : Prop :=
 (args.head? = some .nilp ∧ r = anV ⟨2, [], [], 0⟩ ∧ Kept h h') ∨
 ∃ T V free p s w x, args = [.ptr p 0, x] ∧ DBA T V free h p s ∧ WA h x w ∧ r = anV (doA T V free s w).1 ∧ DBA T V free h' p (doA T V free s w).2 ∧ h.length ≤ h'.length ∧ (∀ i ∈ ids h' p, i ∈ ids h p ∨ h.length ≤ i) ∧ ∀ i y, i ∉ ids h p → i ∉ rB 6 h x → h[i]? = some y → h'[i]? = some y
theorem md_e {Γ : FuncId → Option GF} (hg : Γ 19 = some (anyG Tryz.prog 19 MD)) {T : List (List Int)} {V : List Vw} {free : Bool} {k p : Nat} {s : DS} {H : List Blk} {w : Wi} {x : AV} (pl : OkP T V) (ok : OkS T k s) (hk9 : k ≤ 99999) (hrl : w.row.length ≤ 9223372036854775807) (hd : DBA T V free H p s) (hx : WA H x w) (hdis : ∀ i ∈ ids H p, i ∉ rB 6 H x) :
  ∃ H' lo, Cl Γ Mo.T 19 [.ptr p 0, x] H (anV (doA T V free s w).1, H', lo) ∧ DBA T V free H' p (doA T V free s w).2 ∧ H.length ≤ H'.length ∧ (∀ i ∈ ids H' p, i ∈ ids H p ∨ H.length ≤ i) ∧ ∀ i y, i ∉ ids H p → i ∉ rB 6 H x → H[i]? = some y → H'[i]? = some y := by
 have hx0 := hx
 obtain ⟨y, hf, hy⟩ := hx
 have hk1 : ∀ i z, i ∈ ids H p → H[i]? = some z → (offB (rB 6 H x) H)[i]? = some z := fun i z hi hz => offB_get hz (hdis i hi)
 have hd1 := hd.keep hk1
 have hid := hd.ids_keep hk1
 obtain ⟨h', g1, g2, g3⟩ := doA_m pl ok hk9 hrl hd1 (w := w)
 have ha := AMS.freezeA (k := 8) (args := [.ptr p 0, x]) (subB_ok (rB 6 H x) H) (offB_ok (rB 6 H x) H) (.cons (.inl rfl) (.cons (.inr hf) .nil)) (AMS.cvA g1 (.cons (.refl _) (.cons (hy ▸ nrW_cv y) .nil)))
 obtain ⟨s1, s2, s3⟩ := g3
 rw [offB_len] at s1 s2
 rw [hid] at s2 s3
 have s4 : ∀ i z, i ∉ ids H p → i ∉ rB 6 H x → H[i]? = some z → h'[i]? = some z := fun i z hi hB hz => s3 i z hi (offB_get hz hB)
 obtain ⟨r, H', lo, hI, hc⟩ := anyG_cl (Γ := Γ) (tbl := Mo.T) (args := [.ptr p 0, x]) hg (.inr ⟨T, V, free, p, s, w, x, rfl, hd, hx0, rfl, g2, s1, s2, s4⟩) ha s1
 rcases hI with ⟨h1, _⟩ | ⟨T2, V2, free2, p2, s2', w2, x2, h1, h2, h3, rfl, h4, h5, h6, h7⟩
 ·cases h1
 ·simp only [List.cons.injEq, AV.ptr.injEq, and_true] at h1
  obtain ⟨rfl, rfl⟩ := h1
  obtain ⟨rfl, rfl, rfl, rfl⟩ := hd.inj h2
  have := hx0.inj h3
  subst this
  exact ⟨H', lo, hc, h4, h5, h6, h7⟩
theorem md_w {Γ : FuncId → Option GF} (hg : Γ 19 = some (anyG Tryz.prog 19 MD)) {T : List (List Int)} {V : List Vw} {free : Bool} {k p : Nat} {s : DS} {H : List Blk} {w : Wi} (pl : OkP T V) (ok : OkS T k s) (hk9 : k ≤ 99999) (hrl : w.row.length ≤ 9223372036854775807) (hd : DBA T V free H p s) :
  ∃ H' lo, Cl Γ Mo.T 19 [.ptr p 0, .agg (enWi w)] H (anV (doA T V free s w).1, H', lo) ∧ DBA T V free H' p (doA T V free s w).2 ∧ Step H p H' := by
 obtain ⟨H', lo, g1, g2, g3, g4, g5⟩ := md_e hg pl ok hk9 hrl hd (wa_wi H w) (fun i _ h => by rw [rB_wi] at h; cases h)
 exact ⟨H', lo, g1, g2, g3, g4, fun i y hi hy => g5 i y hi (by rw [rB_wi]; simp) hy⟩
def CPY (args : List AV) (h : List Blk) (r : AV) (h' : List Blk) : Prop :=
 (args = [.nilp] ∧ r = .nilp ∧ h' = h) ∨
 ∃ T V free p s p2, args = [.ptr p 0] ∧ DBA T V free h p s ∧ r = .ptr p2 0 ∧ DBA T V free h' p2 s ∧ Kept h h' ∧ ∀ i ∈ ids h' p2, h.length ≤ i
theorem cpy_e {Γ : FuncId → Option GF} (hg : Γ 28 = some (anyG Tryz.prog 28 CPY)) {T : List (List Int)} {V : List Vw} {free : Bool} {k p : Nat} {s : DS} {H : List Blk} (pl : OkPl T V) (ok : OkS T k s) (hk : k ≤ 99999) (hd : DBA T V free H p s) :
  ∃ p2 H' lo, Cl Γ Mo.T 28 [.ptr p 0] H (.ptr p2 0, H', lo) ∧ DBA T V free H' p2 s ∧ Kept H H' ∧ ∀ i ∈ ids H' p2, H.length ≤ i := by
 obtain ⟨p2, H1, lo1, g1, g2, g3, g4⟩ := copy_cl (Γ := gGet gam20) (by kernel_rfl) (by kernel_rfl) hd (ok.now.okTs pl (by omega)) (fun ts h => (ok.was ts h).okTs pl (by omega)) (fun ts h => (ok.marks ts h).okTs pl (by omega)) (by have := ok.ml; omega)
 obtain ⟨r, H', lo, hI, hc⟩ := anyG_cl (Γ := Γ) (tbl := Mo.T) (args := [.ptr p 0]) hg (.inr ⟨T, V, free, p, s, p2, rfl, hd, rfl, g2, g3, g4⟩) (Cl.ams K20 g1 (by kernel_rfl)) g3.1
 rcases hI with ⟨h1, _⟩ | ⟨T2, V2, free2, p', s2, p3, h1, h2, rfl, h4, h5, h6⟩
 ·cases h1
 ·simp only [List.cons.injEq, AV.ptr.injEq, and_true] at h1
  subst h1
  obtain ⟨rfl, rfl, rfl, rfl⟩ := hd.inj h2
  exact ⟨p3, H', lo, hc, h4, h5, h6⟩
theorem cpy_nil {Γ : FuncId → Option GF} (hg : Γ 28 = some (anyG Tryz.prog 28 CPY)) (H : List Blk) : ∃ lo, Cl Γ Mo.T 28 [.nilp] H (.nilp, H, lo) := by
 obtain ⟨r, H', lo, hI, hc⟩ := anyG_cl (Γ := Γ) (tbl := Mo.T) (args := [.nilp]) hg (.inl ⟨rfl, rfl, rfl⟩) (nil_pure rfl rfl (by kernel_rfl) (by kernel_rfl) H) (Nat.le_refl _)
 rcases hI with ⟨_, rfl, rfl⟩ | ⟨T2, V2, free2, p', s2, p3, h1, _⟩
 ·exact ⟨lo, hc⟩
 ·cases h1
def TBN (args : List AV) (h : List Blk) (r : AV) (h' : List Blk) : Prop := (args = [.nilp] ∧ r = .nils ∧ h' = h) ∨ TB args h r h'
theorem tbn_e {Γ : FuncId → Option GF} (hg : Γ 23 = some (anyG Tryz.prog 23 TBN)) {T : List (List Int)} {V : List Vw} {free : Bool} {k p : Nat} {s : DS} {H : List Blk} (pl : OkPl T V) (ok : OkTb T k s.now) (hk : k ≤ 99999) (hd : DBA T V free H p s) : ∃ H' lo, Cl Γ Mo.T 23 [.ptr p 0] H (tsV s.now, H', lo) ∧ Kept H H' := by
 obtain ⟨h', g1, g2⟩ := tables_m pl ok hk hd
 obtain ⟨r, H', lo, hI, hc⟩ := anyG_cl (Γ := Γ) (tbl := Mo.T) (args := [.ptr p 0]) hg (.inr ⟨T, V, free, p, s, rfl, hd, rfl, g2⟩) g1 g2.1
 rcases hI with ⟨h1, _⟩ | ⟨T', V', free', p', s', h1, h2, rfl, h3⟩
 ·cases h1
 ·simp only [List.cons.injEq, AV.ptr.injEq, and_true] at h1
  subst h1
  obtain ⟨rfl, rfl, rfl, rfl⟩ := hd.inj h2
  exact ⟨H', lo, hc, h3⟩
theorem tbn_nil {Γ : FuncId → Option GF} (hg : Γ 23 = some (anyG Tryz.prog 23 TBN)) (H : List Blk) : ∃ lo, Cl Γ Mo.T 23 [.nilp] H (.nils, H, lo) := by
 obtain ⟨r, H', lo, hI, hc⟩ := anyG_cl (Γ := Γ) (tbl := Mo.T) (args := [.nilp]) hg (.inl ⟨rfl, rfl, rfl⟩) (nil_pure rfl rfl (by kernel_rfl) (by kernel_rfl) H) (Nat.le_refl _)
 rcases hI with ⟨_, rfl, rfl⟩ | ⟨T', V', free', p', s', h1, _⟩
 ·exact ⟨lo, hc⟩
 ·cases h1
noncomputable def gamA : List (Nat × GF) := (8, anyG Tryz.prog 8 NW) :: (12, anyG Tryz.prog 12 (MRN (.int .i64 2) encU begM)) :: (14, anyG Tryz.prog 14 (MRN (.int .i64 2) encU comM)) :: (16, anyG Tryz.prog 16 (MRN (.int .i64 2) encU aboM)) :: (19, anyG Tryz.prog 19 MD) :: (28, anyG Tryz.prog 28 CPY) :: (29, anyG Tryz.prog 29 SM) :: (23, anyG Tryz.prog 23 TBN) :: (18, pureG g18) :: (17, pureG g17) :: (11, pureG g11) :: (27, pureG g27) :: gam8
theorem KA : Known (gGet gamA) tree.get Tryz.prog := known_of (by kernel_rfl) ⟨anyG_ok ⟨_, Tryz.func8, by kernel_rfl, by kernel_rfl⟩, anyG_ok ⟨_, Tryz.func12, by kernel_rfl, by kernel_rfl⟩, anyG_ok ⟨_, Tryz.func14, by kernel_rfl, by kernel_rfl⟩, anyG_ok ⟨_, Tryz.func16, by kernel_rfl, by kernel_rfl⟩, anyG_ok ⟨_, Tryz.func19, by kernel_rfl, by kernel_rfl⟩, anyG_ok ⟨_, Tryz.func28, by kernel_rfl, by kernel_rfl⟩, anyG_ok ⟨_, Tryz.func29, by kernel_rfl, by kernel_rfl⟩, anyG_ok ⟨_, Tryz.func23, by kernel_rfl, by kernel_rfl⟩, told_ok, eq17_ok, great_ok, plans_ok, oft_ok, ofv_ok, isVal_ok, view_ok, grp_ok, tot_ok, adt_ok, fit_ok, code_ok, int_ok, of_ok, add_ok, cmp_ok, good_ok, xSub_ok, xAdd_ok, trivial⟩ all
noncomputable abbrev GA : FuncId → Option GF := gGet gamA
open Go
theorem Cl.detM {Γ : FuncId → Option GF} {tbl : FuncId → Option AFunc} {f : FuncId} {a : List AV} {h : List Blk} {r r' : AV × List Blk × Option Nat} (h1 : Cl Γ tbl f a h r) (h2 : Cl Γ tbl f a h r') : r = r' := by
 obtain ⟨n, h1⟩ := h1
 obtain ⟨m, h2⟩ := h2
 have e1 := callF_mono (Γ := Γ) (tbl := tbl) n (max n m) (Nat.le_max_left _ _) f a h _ h1
 have e2 := callF_mono (Γ := Γ) (tbl := tbl) m (max n m) (Nat.le_max_right _ _) f a h _ h2
 rw [e1] at e2
 exact Option.some.inj e2
theorem readK_5 : readK (codeNum 5) = (⟨1, 5, []⟩, 0) := by
 have key : res1 (callX G3 Mo.T 100 98 [.str (codeNum 5)] []) = some (.tup [vV ⟨1, 5, []⟩, .int .i64 0]) := by kernel_rfl
 obtain ⟨h', lo, h⟩ := res1_some key
 rw [callX_eq] at h
 obtain ⟨H', lo', h2⟩ := readK_cl (k := codeNum 5) ⟨5, rfl⟩
 have := Cl.detM ⟨100, h⟩ h2
 simp only [Prod.mk.injEq, AV.tup.injEq, List.cons.injEq, AV.int.injEq, AV.agg.injEq, AV.str.injEq, true_and, and_true] at this
 obtain ⟨⟨⟨h1, h2, h3⟩, h4⟩, _⟩ := this
 have e : readK (codeNum 5) = (⟨(readK (codeNum 5)).1.k, (readK (codeNum 5)).1.n, (readK (codeNum 5)).1.s⟩, (readK (codeNum 5)).2) := rfl
 rw [e, ← h1, ← h2, ← h3, ← h4]
abbrev v5 : Val := ⟨1, 5, []⟩
def T1 : List (List Int) := [[1]]
def V1 : List Vw := [(0, 0, [0])]
def w1 : Wi := ⟨1, 0, ⟨0, 0, []⟩, ⟨0, 0, []⟩, [v5], 0, ⟨0, 0, []⟩, 0⟩
def w2 : Wi := ⟨6, 0, v5, ⟨0, 0, []⟩, [], 0, ⟨0, 0, []⟩, 0⟩
def s1 : DS := ⟨[[]], some [[]], []⟩
def s2 : DS := ⟨[[[v5]]], some [[]], []⟩
theorem okP1 : OkP T1 V1 where
 tl := by decide
 cl := by decide
 vl := by decide
 vw := by
  intro w hw
  simp only [V1, List.mem_cons, List.not_mem_nil, or_false] at hw
  subst hw
  exact ⟨by decide, by decide, by decide, [1], rfl, by decide, by decide⟩
 num := by
  intro w hw c hc
  simp only [V1, List.mem_cons, List.not_mem_nil, or_false] at hw
  subst hw
  cases hc
  rfl
theorem okTb_of {T : List (List Int)} {k : Nat} {ts : Tabs} (hl : ts.length = T.length) (h : ∀ t (ht : t < ts.length), ts[t].length ≤ k ∧ ∀ r ∈ ts[t], fitsB T (t : Int) r = true) : OkTb T k ts := ⟨hl, fun t rows hr => by
 obtain ⟨ht, rfl⟩ := List.getElem?_eq_some_iff.1 hr
 exact h t ht⟩
theorem okE1 : OkTb T1 1 [[]] := okTb_of rfl fun t ht => by
 match t, ht with
 | 0, _ => exact ⟨by show ([] : List (List Val)).length ≤ 1; decide, fun r hr => by cases hr⟩
theorem okN1 : OkTb T1 1 [[[v5]]] := okTb_of rfl fun t ht => by
 match t, ht with
 | 0, _ =>
  refine ⟨by show ([[v5]] : List (List Val)).length ≤ 1; decide, fun r hr => ?_⟩
  have : r = [v5] := by simpa using hr
  subst this
  decide
theorem okS1 : OkS T1 1 s1 := ⟨okE1, fun ts h => by cases h; exact okE1, (fun ts h => by cases h), by decide⟩
theorem okS2 : OkS T1 1 s2 := ⟨okN1, fun ts h => by cases h; exact okE1, (fun ts h => by cases h), by decide⟩
theorem bsK_nil (v : Val) : bsK [] v = (0, false) := by
 obtain ⟨_, _, h, _⟩ := bsK_spec (x := ([], v)) ⟨by simp, fun r hr => by cases hr⟩
 simp only [List.length_nil, Nat.le_zero] at h
 obtain ⟨h1, h2⟩ := h
 cases hb : (bsK [] v).2 with
 | true => have := h2 hb; omega
 | false => exact Prod.ext h1 hb
theorem view5 : viewS T1 V1 0 [[v5]] = [(codeNum 5, ⟨(0, 1), [(0, 5)]⟩)] := by
 have e1 : foldS T1 V1 0 (0, 0, [0]) [[v5]] = [(codeNum 5, ⟨(0, 1), [(0, 5)]⟩)] := by kernel_rfl
 have e2 : viewS T1 V1 0 [[v5]] = grpL (foldS T1 V1 0 (0, 0, [0]) [[v5]]) := rfl
 rw [e2, e1]
 simp [grpL, keysL, lkK]
theorem aw1 : doA T1 V1 false s1 w1 = (⟨0, [], [], 0⟩, s2) := by
 have hw : wishB T1 V1 w1 = true := by decide
 have hov : overB T1 V1 [[[v5]]] 0 = false := by
  have e1 : viewsOf V1 0 = [0] := by decide
  rw [overB, e1]
  show (ovV T1 V1 [[[v5]]] 0 || false) = false
  have e2 : ovV T1 V1 [[[v5]]] 0 = ovG1 (viewS T1 V1 0 [[v5]]) := rfl
  rw [e2, view5]
  decide
 have hins : insS T1 V1 false [[]] w1 = (0, [[[v5]]]) := by
  have e1 : insS T1 V1 false [[]] w1 = if (bsK [] v5).2 then (6, [[]]) else chS T1 V1 false [[]] 0 (insL [] (bsK [] v5).1 [v5]) := rfl
  rw [e1, bsK_nil]
  show chS T1 V1 false [[]] 0 [[v5]] = _
  have e2 : chS T1 V1 false [[]] 0 [[v5]] = if (!false && overB T1 V1 [[[v5]]] 0) = true then (8, [[]]) else (0, [[[v5]]]) := rfl
  rw [e2, hov]
  rfl
 rw [show doA T1 V1 false s1 w1 = if wishB T1 V1 w1 = true then kdA T1 V1 false s1 w1 else (⟨1, [], [], 0⟩, s1) from rfl, if_pos hw]
 show ((⟨(insS T1 V1 false [[]] w1).1, [], [], 0⟩, { s1 with now := (insS T1 V1 false [[]] w1).2 }) : An × DS) = _
 rw [hins]
 rfl
theorem aw2 : doA T1 V1 false s2 w2 = (⟨0, [], [⟨v5, 1, [5]⟩], 0⟩, s2) := by
 have hw : wishB T1 V1 w2 = true := by decide
 have hs : sumsS (groupsS T1 V1 [[[v5]]] 0) v5 v5 = [⟨v5, 1, [5]⟩] := by
  have e1 : groupsS T1 V1 [[[v5]]] 0 = viewS T1 V1 0 [[v5]] := rfl
  rw [e1, view5]
  have e2 : inSum v5 v5 (codeNum 5, ⟨(0, 1), [(0, 5)]⟩) = true := by
   unfold inSum
   simp only [readK_5]
   decide
  have e3 : sumOf (codeNum 5, ⟨(0, 1), [(0, 5)]⟩) = ⟨v5, 1, [5]⟩ := by
   unfold sumOf
   simp only [readK_5]
   rfl
  rw [sumsS, List.filter_cons_of_pos e2, List.filter_nil, List.map_cons, List.map_nil, e3]
 rw [show doA T1 V1 false s2 w2 = if wishB T1 V1 w2 = true then kdA T1 V1 false s2 w2 else (⟨1, [], [], 0⟩, s2) from rfl, if_pos hw]
 show ((⟨0, [], sumsS (groupsS T1 V1 [[[v5]]] 0) v5 v5, 0⟩, s2) : An × DS) = _
 rw [hs]
theorem good1 : okG9 (T1, V1) := by
 have key : res1 (callX (gGet gam0) Mo.T 100 9 [pA T1 V1] []) = some (.bool true) := by kernel_rfl
 obtain ⟨h', lo, h⟩ := res1_some key
 rw [callX_eq] at h
 exact pureS_cl K0 ⟨100, h⟩ (by kernel_rfl) rfl
def g43 : List AV → Option AV
 | [.int .i64 n] => some (vV ⟨1, n, []⟩)
 | _ => none
theorem num_cl (n : Int) (H : List Blk) : ∃ lo, Cl GA Mo.T 43 [.int .i64 n] H (vV ⟨1, n, []⟩, (ap H [(.int .i64 1), (.int .i64 n), (.str [])]), lo) := clV 1 (af := a43) (r := (.agg [(.int .i64 1), (.int .i64 n), (.str [])])) (h' := (ap H [(.int .i64 1), (.int .i64 n), (.str [])])) [.w (.alloc [(.int .i64 0), (.int .i64 0), (.str [])]) (.ptr H.length 0) (ap H [(.int .i64 0), (.int .i64 0), (.str [])]) none, .w (.store 3 (.c (.ptr H.length 0)) (.c (.agg [(.int .i64 1), (.int .i64 n), (.str [])]))) (.tup []) (ap H [(.int .i64 1), (.int .i64 n), (.str [])]) (some H.length), .l (.load (some 3) (.c (.ptr H.length 0))) (.agg [(.int .i64 1), (.int .i64 n), (.str [])])] [(.agg [(.int .i64 1), (.int .i64 n), (.str [])])] (by kernel_rfl) ⟨rfl, stZ, (ldV gl), trivial⟩
theorem num_ok : GOk Tryz.prog 43 (pureG g43) := by
 refine pureG_known ⟨_, Tryz.func43, by kernel_rfl, by kernel_rfl⟩ fun args r hr _ => ?_
 unfold g43 at hr
 split at hr <;> cases hr
 rename_i n _
 obtain ⟨lo, h⟩ := num_cl n []
 exact pureS_cl KA h (by kernel_rfl) rfl
theorem num_e {Γ : FuncId → Option GF} (hg : Γ 43 = some (pureG g43)) (n : Int) (H : List Blk) : Cl Γ Mo.T 43 [.int .i64 n] H (vV ⟨1, n, []⟩, H, none) := Cl.pure (g := g43) hg rfl rfl rfl H
noncomputable def gamC : List (Nat × GF) := (43, pureG g43) :: gamA
theorem KC : Known (gGet gamC) tree.get Tryz.prog := known_of (by kernel_rfl) ⟨num_ok, anyG_ok ⟨_, Tryz.func8, by kernel_rfl, by kernel_rfl⟩, anyG_ok ⟨_, Tryz.func12, by kernel_rfl, by kernel_rfl⟩, anyG_ok ⟨_, Tryz.func14, by kernel_rfl, by kernel_rfl⟩, anyG_ok ⟨_, Tryz.func16, by kernel_rfl, by kernel_rfl⟩, anyG_ok ⟨_, Tryz.func19, by kernel_rfl, by kernel_rfl⟩, anyG_ok ⟨_, Tryz.func28, by kernel_rfl, by kernel_rfl⟩, anyG_ok ⟨_, Tryz.func29, by kernel_rfl, by kernel_rfl⟩, anyG_ok ⟨_, Tryz.func23, by kernel_rfl, by kernel_rfl⟩, told_ok, eq17_ok, great_ok, plans_ok, oft_ok, ofv_ok, isVal_ok, view_ok, grp_ok, tot_ok, adt_ok, fit_ok, code_ok, int_ok, of_ok, add_ok, cmp_ok, good_ok, xSub_ok, xAdd_ok, trivial⟩ all
noncomputable abbrev GC : FuncId → Option GF := gGet gamC
abbrev HP : List Blk := (ap (ap (ap (ap (ap ([] : List Blk) [(.int .i64 1)]) [(.sl (List.length ([] : List Blk)) 1 0 1 1 true)]) [(.int .i64 0)]) [(.int .i64 0), (.int .i64 0), (.sl (List.length (ap (ap ([] : List Blk) [(.int .i64 1)]) [(.sl (List.length ([] : List Blk)) 1 0 1 1 true)])) 1 0 1 1 true)]) [(.sl (List.length (ap ([] : List Blk) [(.int .i64 1)])) 1 0 1 1 true), (.sl (List.length (ap (ap (ap ([] : List Blk) [(.int .i64 1)]) [(.sl (List.length ([] : List Blk)) 1 0 1 1 true)]) [(.int .i64 0)])) 3 0 1 1 true)])
abbrev xP : AV := (.agg [(.sl (List.length (ap ([] : List Blk) [(.int .i64 1)])) 1 0 1 1 true), (.sl (List.length (ap (ap (ap ([] : List Blk) [(.int .i64 1)]) [(.sl (List.length ([] : List Blk)) 1 0 1 1 true)]) [(.int .i64 0)])) 3 0 1 1 true)])
theorem paP : PA HP xP T1 V1 := ⟨.agg [.ro [.ro [iV 1] 1 true] 1 true, .ro [.agg [iV 0, iV 0, .ro [iV 0] 1 true]] 3 true], by kernel_rfl, by kernel_rfl⟩
theorem frz_v5 {F : List Blk} {b : Nat} (hb : F[b]? = some (.cells [.int .i64 1, .int .i64 5, .str []])) : AM.frz F 7 (.sl b 3 0 1 1 true) = some (.ro [vV v5] 3 true) := by
 rw [AM.frz, if_neg (by omega), hb]
 rfl
theorem wa1 {h : List Blk} {b : Nat} (hb : h[b]? = some (.cells [.int .i64 1, .int .i64 5, .str []])) : WA h (.agg [.int .i64 1, .int .i64 0, .int .i64 0, .int .i64 0, .str [], .int .i64 0, .int .i64 0, .str [], .sl b 3 0 1 1 true, .int .i64 0, .int .i64 0, .int .i64 0, .str [], .int .i64 0]) w1 ∧ rB 6 h (.agg [.int .i64 1, .int .i64 0, .int .i64 0, .int .i64 0, .str [], .int .i64 0, .int .i64 0, .str [], .sl b 3 0 1 1 true, .int .i64 0, .int .i64 0, .int .i64 0, .str [], .int .i64 0]) = [b] := by
 have hr : rB 6 h (.agg [.int .i64 1, .int .i64 0, .int .i64 0, .int .i64 0, .str [], .int .i64 0, .int .i64 0, .str [], .sl b 3 0 1 1 true, .int .i64 0, .int .i64 0, .int .i64 0, .str [], .int .i64 0]) = [b] := by
  simp [rB, hb]
 refine ⟨?_, hr⟩
 unfold WA
 rw [hr]
 have e1 : ∀ i, AM.frz (subB [b] h) 7 (.int .i64 i) = some (.int .i64 i) := fun _ => rfl
 have e2 : ∀ s, AM.frz (subB [b] h) 7 (.str s) = some (.str s) := fun _ => rfl
 have e3 := frz_v5 (subB_get (B := [b]) hb (by simp))
 rw [AM.frz]
 simp only [mapO, e1, e2, e3, Option.map_some]
 exact ⟨_, rfl, rfl⟩
theorem wa2 {h : List Blk} : WA h (.agg [(.int .i64 6), (.int .i64 0), (.int .i64 1), (.int .i64 5), (.str []), (.int .i64 0), (.int .i64 0), (.str []), .nils, (.int .i64 0), (.int .i64 0), (.int .i64 0), (.str []), (.int .i64 0)]) w2 := ⟨_, rfl, rfl⟩
theorem last_keep {T : List (List Int)} {V : List Vw} {free : Bool} {p : Nat} {s : DS} {H : List Blk} (hd : DBA T V free H p s) {c : List AV} : DBA T V free (ap H c) p s ∧ ids (ap H c) p = ids H p ∧ H.length ∉ ids H p := ⟨hd.keep fun i x _ hx => ga hx, hd.ids_keep fun i x _ hx => ga hx, fun h => by have := hd.lt _ h; omega⟩
set_option maxHeartbeats 8000000 in
theorem awake_cl : ∃ H' lo, Cl GC Mo.T 7 [] [] (.bool true, H', lo) := by
 obtain ⟨G1, l1, h1, d1, hl1, -, -⟩ := nw_e (Γ := GC) (by kernel_rfl) false good1 (by decide) paP (by intro h; cases h)
 obtain ⟨p, hp⟩ : ∃ p, HP.length + 2 = p := ⟨_, rfl⟩
 rw [hp] at h1 d1
 obtain ⟨l2, h2⟩ := nw_nil (Γ := GC) (by kernel_rfl) G1
 have d1 : DBA T1 V1 false G1 p ⟨[[]], none, []⟩ := d1
 obtain ⟨G2, l3, h3, d2, st2⟩ := mrn_e (Γ := GC) (nr := .int .i64 2) (x := ()) encU_inj (by kernel_rfl) d1 (beg_m okP1.toOkPl (k := 1) ⟨okE1, (fun ts h => by cases h), (fun ts h => by cases h), by decide⟩ (by decide) d1)
 have d2 : DBA T1 V1 false G2 p s1 := d2
 have h3 : Cl GC Mo.T 12 [.ptr p 0] G1 (.int .i64 0, G2, l3) := h3
 -- a row
 obtain ⟨hw1, hr1⟩ := wa1 (h := (ap G2 [(.int .i64 1), (.int .i64 5), (.str [])])) (b := G2.length) gl
 obtain ⟨d3, i3, n3⟩ := last_keep d2 (c := [.int .i64 1, .int .i64 5, .str []])
 obtain ⟨G4, l4, h4, d4, hl4, -, -⟩ := md_e (Γ := GC) (by kernel_rfl) okP1 okS1 (by decide) (by decide) d3 hw1 (fun i hi => by rw [hr1]; rw [i3] at hi; intro h; rw [List.mem_singleton.1 h] at hi; exact n3 hi)
 rw [aw1] at h4 d4
 -- its group
 obtain ⟨d5, i5, n5⟩ := last_keep d4 (c := [(.int .i64 0), (.ro ([] : List AV) 1 false), (.ro ([] : List AV) 5 false), (.int .i64 0)])
 obtain ⟨G6, l5, h5, d6, hl6, hi6, hk6⟩ := md_e (Γ := GC) (H := (ap G4 [(.int .i64 0), (.ro ([] : List AV) 1 false), (.ro ([] : List AV) 5 false), (.int .i64 0)])) (by kernel_rfl) okP1 okS2 (by decide) (by decide) d5 wa2 (fun i hi h => by cases h)
 rw [aw2] at h5 d6
 have k6_a : ∀ {c}, ((ap G4 [(.int .i64 0), (.ro ([] : List AV) 1 false), (.ro ([] : List AV) 5 false), (.int .i64 0)]))[G4.length]? = some c → G6[G4.length]? = some c := fun h => hk6 _ _ (by rw [i5]; exact n5) (by intro h; cases h) h
 have hl46 : G4.length < G6.length := by simp at hl6; omega
 have n6 : G4.length ∉ ids G6 p := fun h => by
  rcases hi6 _ h with h | h
  ·rw [i5] at h; exact n5 h
  ·simp at h; omega
 obtain ⟨d7, i7, n7⟩ := last_keep d6 (c := [(.int .i64 0), (.ro ([] : List AV) 1 false), (.ro ([(.agg [(.int .i64 1), (.int .i64 5), (.str []), (.int .i64 1), (.ro [(.int .i64 5)] 1 false)])] : List AV) 5 false), (.int .i64 0)])
 obtain ⟨G8, l6, h6, d8, st8⟩ := mrn_e (Γ := GC) (nr := .int .i64 2) (H := (ap G6 [(.int .i64 0), (.ro ([] : List AV) 1 false), (.ro ([(.agg [(.int .i64 1), (.int .i64 5), (.str []), (.int .i64 1), (.ro [(.int .i64 5)] 1 false)])] : List AV) 5 false), (.int .i64 0)])) (x := ()) encU_inj (by kernel_rfl) d7 (abo_m d7)
 have h6 : Cl GC Mo.T 16 [.ptr p 0] (ap G6 [(.int .i64 0), (.ro ([] : List AV) 1 false), (.ro ([(.agg [(.int .i64 1), (.int .i64 5), (.str []), (.int .i64 1), (.ro [(.int .i64 5)] 1 false)])] : List AV) 5 false), (.int .i64 0)]) (.int .i64 0, G8, l6) := h6
 have d8 : DBA T1 V1 false G8 p ⟨[[]], none, []⟩ := d8
 have k8_a : ∀ {c}, ((ap G6 [(.int .i64 0), (.ro ([] : List AV) 1 false), (.ro ([(.agg [(.int .i64 1), (.int .i64 5), (.str []), (.int .i64 1), (.ro [(.int .i64 5)] 1 false)])] : List AV) 5 false), (.int .i64 0)]))[G4.length]? = some c → G8[G4.length]? = some c := fun h => st8.2.2 _ _ (by rw [i7]; exact n6) h
 have k8_b : ∀ {c}, ((ap G6 [(.int .i64 0), (.ro ([] : List AV) 1 false), (.ro ([(.agg [(.int .i64 1), (.int .i64 5), (.str []), (.int .i64 1), (.ro [(.int .i64 5)] 1 false)])] : List AV) 5 false), (.int .i64 0)]))[G6.length]? = some c → G8[G6.length]? = some c := fun h => st8.2.2 _ _ (by rw [i7]; exact n7) h
 obtain ⟨G9, l7, h7, hk9⟩ := tbn_e (Γ := GC) (k := 1) (by kernel_rfl) okP1.toOkPl okE1 (by decide) d8
 have d9 := d8.keep fun i x _ hx => hk9.2 i x hx
 obtain ⟨G10, l8, h8, hk10⟩ := tbn_e (Γ := GC) (k := 1) (by kernel_rfl) okP1.toOkPl okE1 (by decide) d9
 have d10 := d9.keep fun i x _ hx => hk10.2 i x hx
 obtain ⟨G11, l9, h9, -, -⟩ := mrn_e (Γ := GC) (nr := .int .i64 2) (x := ()) encU_inj (by kernel_rfl) d10 (abo_m d10)
 have h9 : Cl GC Mo.T 16 [.ptr p 0] G10 (.int .i64 13, G11, l9) := h9
 exact ⟨_, clV 1 (af := a7) (r := (.bool true)) (h' := G11) (.w (.buildSl [(.int .i64 0)] 1 [(0, (.c (.int .i64 1)))]) (.sl (List.length ([] : List Blk)) 1 0 1 1 true) (ap ([] : List Blk) [(.int .i64 1)]) none :: .w (.buildSl [.nils] 1 [(0, (.c (.agg [(.sl (List.length ([] : List Blk)) 1 0 1 1 true)])))]) (.sl (List.length (ap ([] : List Blk) [(.int .i64 1)])) 1 0 1 1 true) (ap (ap ([] : List Blk) [(.int .i64 1)]) [(.sl (List.length ([] : List Blk)) 1 0 1 1 true)]) none :: .w (.buildSl [(.int .i64 0)] 1 [(0, (.c (.int .i64 0)))]) (.sl (List.length (ap (ap ([] : List Blk) [(.int .i64 1)]) [(.sl (List.length ([] : List Blk)) 1 0 1 1 true)])) 1 0 1 1 true) (ap (ap (ap ([] : List Blk) [(.int .i64 1)]) [(.sl (List.length ([] : List Blk)) 1 0 1 1 true)]) [(.int .i64 0)]) none :: .w (.buildSl [(.int .i64 0), (.int .i64 0), .nils] 1 [(0, (.c (.agg [(.int .i64 0), (.int .i64 0), (.sl (List.length (ap (ap ([] : List Blk) [(.int .i64 1)]) [(.sl (List.length ([] : List Blk)) 1 0 1 1 true)])) 1 0 1 1 true)])))]) (.sl (List.length (ap (ap (ap ([] : List Blk) [(.int .i64 1)]) [(.sl (List.length ([] : List Blk)) 1 0 1 1 true)]) [(.int .i64 0)])) 3 0 1 1 true) (ap (ap (ap (ap ([] : List Blk) [(.int .i64 1)]) [(.sl (List.length ([] : List Blk)) 1 0 1 1 true)]) [(.int .i64 0)]) [(.int .i64 0), (.int .i64 0), (.sl (List.length (ap (ap ([] : List Blk) [(.int .i64 1)]) [(.sl (List.length ([] : List Blk)) 1 0 1 1 true)])) 1 0 1 1 true)]) none :: .w (.alloc [.nils, .nils]) (.ptr (List.length (ap (ap (ap (ap ([] : List Blk) [(.int .i64 1)]) [(.sl (List.length ([] : List Blk)) 1 0 1 1 true)]) [(.int .i64 0)]) [(.int .i64 0), (.int .i64 0), (.sl (List.length (ap (ap ([] : List Blk) [(.int .i64 1)]) [(.sl (List.length ([] : List Blk)) 1 0 1 1 true)])) 1 0 1 1 true)])) 0) (ap (ap (ap (ap (ap ([] : List Blk) [(.int .i64 1)]) [(.sl (List.length ([] : List Blk)) 1 0 1 1 true)]) [(.int .i64 0)]) [(.int .i64 0), (.int .i64 0), (.sl (List.length (ap (ap ([] : List Blk) [(.int .i64 1)]) [(.sl (List.length ([] : List Blk)) 1 0 1 1 true)])) 1 0 1 1 true)]) [.nils, .nils]) none :: .w (.store 2 (.c (.ptr (List.length (ap (ap (ap (ap ([] : List Blk) [(.int .i64 1)]) [(.sl (List.length ([] : List Blk)) 1 0 1 1 true)]) [(.int .i64 0)]) [(.int .i64 0), (.int .i64 0), (.sl (List.length (ap (ap ([] : List Blk) [(.int .i64 1)]) [(.sl (List.length ([] : List Blk)) 1 0 1 1 true)])) 1 0 1 1 true)])) 0)) (.c (.agg [(.sl (List.length (ap ([] : List Blk) [(.int .i64 1)])) 1 0 1 1 true), (.sl (List.length (ap (ap (ap ([] : List Blk) [(.int .i64 1)]) [(.sl (List.length ([] : List Blk)) 1 0 1 1 true)]) [(.int .i64 0)])) 3 0 1 1 true)]))) (.tup []) (ap (ap (ap (ap (ap ([] : List Blk) [(.int .i64 1)]) [(.sl (List.length ([] : List Blk)) 1 0 1 1 true)]) [(.int .i64 0)]) [(.int .i64 0), (.int .i64 0), (.sl (List.length (ap (ap ([] : List Blk) [(.int .i64 1)]) [(.sl (List.length ([] : List Blk)) 1 0 1 1 true)])) 1 0 1 1 true)]) [(.sl (List.length (ap ([] : List Blk) [(.int .i64 1)])) 1 0 1 1 true), (.sl (List.length (ap (ap (ap ([] : List Blk) [(.int .i64 1)]) [(.sl (List.length ([] : List Blk)) 1 0 1 1 true)]) [(.int .i64 0)])) 3 0 1 1 true)]) (some (List.length (ap (ap (ap (ap ([] : List Blk) [(.int .i64 1)]) [(.sl (List.length ([] : List Blk)) 1 0 1 1 true)]) [(.int .i64 0)]) [(.int .i64 0), (.int .i64 0), (.sl (List.length (ap (ap ([] : List Blk) [(.int .i64 1)]) [(.sl (List.length ([] : List Blk)) 1 0 1 1 true)])) 1 0 1 1 true)]))) :: .f (.load (some 2) (.c (.ptr (List.length (ap (ap (ap (ap ([] : List Blk) [(.int .i64 1)]) [(.sl (List.length ([] : List Blk)) 1 0 1 1 true)]) [(.int .i64 0)]) [(.int .i64 0), (.int .i64 0), (.sl (List.length (ap (ap ([] : List Blk) [(.int .i64 1)]) [(.sl (List.length ([] : List Blk)) 1 0 1 1 true)])) 1 0 1 1 true)])) 0))) (.agg [(.sl (List.length (ap ([] : List Blk) [(.int .i64 1)])) 1 0 1 1 true), (.sl (List.length (ap (ap (ap ([] : List Blk) [(.int .i64 1)]) [(.sl (List.length ([] : List Blk)) 1 0 1 1 true)]) [(.int .i64 0)])) 3 0 1 1 true)]) :: .r 8 [(.agg [(.sl (List.length (ap ([] : List Blk) [(.int .i64 1)])) 1 0 1 1 true), (.sl (List.length (ap (ap (ap ([] : List Blk) [(.int .i64 1)]) [(.sl (List.length ([] : List Blk)) 1 0 1 1 true)]) [(.int .i64 0)])) 3 0 1 1 true)]), (.bool false)] (.ptr p 0) G1 l1 :: .q (.isNil 0 false (.c (.ptr p 0))) false :: .r 8 [(.agg [.nils, .nils]), (.bool false)] .nilp G1 l2 :: .q (.isNil 0 true (.c .nilp)) false :: .r 12 [(.ptr p 0)] (.int .i64 0) G2 l3 :: .r 43 [(.int .i64 5)] (.agg [(.int .i64 1), (.int .i64 5), (.str [])]) G2 none :: .w (.buildSl [(.int .i64 0), (.int .i64 0), (.str [])] 1 [(0, (.c (.agg [(.int .i64 1), (.int .i64 5), (.str [])])))]) (.sl G2.length 3 0 1 1 true) (ap G2 [(.int .i64 1), (.int .i64 5), (.str [])]) none :: .r 19 [(.ptr p 0), (.agg [(.int .i64 1), (.int .i64 0), (.int .i64 0), (.int .i64 0), (.str []), (.int .i64 0), (.int .i64 0), (.str []), (.sl G2.length 3 0 1 1 true), (.int .i64 0), (.int .i64 0), (.int .i64 0), (.str []), (.int .i64 0)])] (.agg [(.int .i64 0), (.ro ([] : List AV) 1 false), (.ro ([] : List AV) 5 false), (.int .i64 0)]) G4 l4 :: .w (.alloc [(.int .i64 0), .nils, .nils, (.int .i64 0)]) (.ptr G4.length 0) (ap G4 [(.int .i64 0), .nils, .nils, (.int .i64 0)]) none :: .w (.store 4 (.c (.ptr G4.length 0)) (.c (.agg [(.int .i64 0), (.ro ([] : List AV) 1 false), (.ro ([] : List AV) 5 false), (.int .i64 0)]))) (.tup []) (ap G4 [(.int .i64 0), (.ro ([] : List AV) 1 false), (.ro ([] : List AV) 5 false), (.int .i64 0)]) (some G4.length) :: .r 43 [(.int .i64 5)] (.agg [(.int .i64 1), (.int .i64 5), (.str [])]) (ap G4 [(.int .i64 0), (.ro ([] : List AV) 1 false), (.ro ([] : List AV) 5 false), (.int .i64 0)]) none :: .r 19 [(.ptr p 0), (.agg [(.int .i64 6), (.int .i64 0), (.int .i64 1), (.int .i64 5), (.str []), (.int .i64 0), (.int .i64 0), (.str []), .nils, (.int .i64 0), (.int .i64 0), (.int .i64 0), (.str []), (.int .i64 0)])] (.agg [(.int .i64 0), (.ro ([] : List AV) 1 false), (.ro ([(.agg [(.int .i64 1), (.int .i64 5), (.str []), (.int .i64 1), (.ro [(.int .i64 5)] 1 false)])] : List AV) 5 false), (.int .i64 0)]) G6 l5 :: .w (.alloc [(.int .i64 0), .nils, .nils, (.int .i64 0)]) (.ptr G6.length 0) (ap G6 [(.int .i64 0), .nils, .nils, (.int .i64 0)]) none :: .w (.store 4 (.c (.ptr G6.length 0)) (.c (.agg [(.int .i64 0), (.ro ([] : List AV) 1 false), (.ro ([(.agg [(.int .i64 1), (.int .i64 5), (.str []), (.int .i64 1), (.ro [(.int .i64 5)] 1 false)])] : List AV) 5 false), (.int .i64 0)]))) (.tup []) (ap G6 [(.int .i64 0), (.ro ([] : List AV) 1 false), (.ro ([(.agg [(.int .i64 1), (.int .i64 5), (.str []), (.int .i64 1), (.ro [(.int .i64 5)] 1 false)])] : List AV) 5 false), (.int .i64 0)]) (some G6.length) :: .r 16 [(.ptr p 0)] (.int .i64 0) G8 l6 :: .b ((0 : Int) == 0) true :: .f (.load none (.c (.ptr G4.length 0))) (.int .i64 0) :: .b ((0 : Int) == 0) true :: .f (.load none (.c (.ptr G6.length 2))) (.ro ([(.agg [(.int .i64 1), (.int .i64 5), (.str []), (.int .i64 1), (.ro [(.int .i64 5)] 1 false)])] : List AV) 5 false) :: .b (((List.length ([(.agg [(.int .i64 1), (.int .i64 5), (.str []), (.int .i64 1), (.ro [(.int .i64 5)] 1 false)])] : List AV)) : Int) == 1) true :: .f (.load none (.c (.ptr G6.length 2))) (.ro ([(.agg [(.int .i64 1), (.int .i64 5), (.str []), (.int .i64 1), (.ro [(.int .i64 5)] 1 false)])] : List AV) 5 false) :: [.p (5 = 5), .p ((0 : Int) ≤ 0), .p ((0 : Int) < (List.length ([(.agg [(.int .i64 1), (.int .i64 5), (.str []), (.int .i64 1), (.ro [(.int .i64 5)] 1 false)])] : List AV) : Int)), .e ([(.agg [(.int .i64 1), (.int .i64 5), (.str []), (.int .i64 1), (.ro [(.int .i64 5)] 1 false)])] : List AV) 0 (.agg [(.int .i64 1), (.int .i64 5), (.str []), (.int .i64 1), (.ro [(.int .i64 5)] 1 false)]), .b ((1 : Int) == 1) true, .b ((0 : Int) == 0) true, .r 23 [(.ptr p 0)] (.ro ([(.ro ([] : List AV) 1 false)] : List AV) 1 false) G9 l7, .b (((List.length ([(.ro ([] : List AV) 1 false)] : List AV)) : Int) == 1) true, .r 23 [(.ptr p 0)] (.ro ([(.ro ([] : List AV) 1 false)] : List AV) 1 false) G10 l8, .p (1 = 1), .p ((0 : Int) ≤ 0), .p ((0 : Int) < (List.length ([(.ro ([] : List AV) 1 false)] : List AV) : Int)), .e ([(.ro ([] : List AV) 1 false)] : List AV) 0 (.ro ([] : List AV) 1 false), .b (((List.length ([] : List AV)) : Int) == 0) true, .r 16 [(.ptr p 0)] (.int .i64 13) G11 l9, .b ((13 : Int) == 13) true]) [] (by kernel_rfl) ⟨rfl, rfl, rfl, rfl, rfl, stZ, (ldV gl), h1, rfl, h2, rfl, h3, (num_e (by kernel_rfl) 5 _), rfl, h4, rfl, stZ, (num_e (by kernel_rfl) 5 _), h5, rfl, stZ, h6, rfl, (ldV (k8_a (ga (k6_a gl)))), rfl, (ldV (k8_b gl)), rfl, (ldV (k8_b gl)), rfl, (by omega), (by decide), rfl, rfl, rfl, h7, rfl, h8, rfl, (by omega), (by decide), rfl, rfl, h9, rfl, trivial⟩⟩
def g7 : List AV → Option AV
 | [] => some (.bool true)
 | _ => none
theorem awake_ok : GOk Tryz.prog 7 (pureG g7) := by
 refine pureG_known ⟨_, Tryz.func7, by kernel_rfl, by kernel_rfl⟩ fun args r hr _ => ?_
 unfold g7 at hr
 split at hr <;> cases hr
 obtain ⟨H', lo, h⟩ := awake_cl
 exact pureS_cl KC h (by kernel_rfl) rfl
theorem awake_e {Γ : FuncId → Option GF} (hg : Γ 7 = some (pureG g7)) (H : List Blk) : Cl Γ Mo.T 7 [] H (.bool true, H, none) := Cl.pure (g := g7) hg rfl rfl rfl H
open Go
def Sep (H : List Blk) (p p2 : Nat) : Prop := ∀ i ∈ ids H p, i ∉ ids H p2
theorem Sep.symm {H : List Blk} {p p2 : Nat} (h : Sep H p p2) : Sep H p2 p := fun i h2 h1 => h i h1 h2
structure Dp (T : List (List Int)) (V : List Vw) (free : Bool) (H : List Blk) (p : Nat) (s : DS) : Prop where
 d : DBA T V free H p s
 b : ∀ i ∈ ids H p, 1 ≤ i
section
variable {T T2 : List (List Int)} {V V2 : List Vw} {free free2 : Bool} {H H' : List Blk} {p p2 : Nat} {s s2 : DS}
theorem Dp.keep (h : Dp T V free H p s) (hk : Kept H H') : Dp T V free H' p s ∧ ids H' p = ids H p := by
 have e := h.d.ids_keep fun i x _ hx => hk.2 i x hx
 exact ⟨⟨h.d.keep fun i x _ hx => hk.2 i x hx, fun i hi => h.b i (e ▸ hi)⟩, e⟩
theorem Dp.step {s' : DS} (h : Dp T V free H p s) (hs : Step H p H') (hd : DBA T V free H' p s') (hl : 1 ≤ H.length) : Dp T V free H' p s' := ⟨hd, fun i hi => by
 rcases hs.2.1 i hi with h1 | h1
 ·exact h.b i h1
 ·omega⟩
theorem Dp.other (h2 : Dp T2 V2 free2 H p2 s2) (hs : Step H p H') (hsep : Sep H p p2) : Dp T2 V2 free2 H' p2 s2 ∧ ids H' p2 = ids H p2 ∧ Sep H' p p2 := by
 have hk : ∀ i x, i ∈ ids H p2 → H[i]? = some x → H'[i]? = some x := fun i x hi hx => hs.2.2 i x (fun h => hsep i h hi) hx
 have e := h2.d.ids_keep hk
 refine ⟨⟨h2.d.keep hk, fun i hi => h2.b i (e ▸ hi)⟩, e, fun i hi hi2 => ?_⟩
 rw [e] at hi2
 rcases hs.2.1 i hi with h1 | h1
 ·exact hsep i h1 hi2
 ·have := h2.d.lt i hi2; omega
theorem Dp.zero (h : Dp T V free H p s) (hs : Step H p H') {x : Blk} (hx : H[0]? = some x) : H'[0]? = some x := hs.2.2 0 x (fun hi => by have := h.b 0 hi; omega) hx
theorem sep_keep (hk : Kept H H') (h : Dp T V free H p s) (h2 : Dp T2 V2 free2 H p2 s2) (hsep : Sep H p p2) : Sep H' p p2 := fun i hi hi2 => by
 rw [(h.keep hk).2] at hi
 rw [(h2.keep hk).2] at hi2
 exact hsep i hi hi2
end
theorem doA_was {T : List (List Int)} {V : List Vw} {free : Bool} {s : DS} {w : Wi} : (doA T V free s w).2.was = s.was := by
 cases h : s.was with
 | none => simp only [doA, h]
 | some ts =>
  simp only [doA, h]
  by_cases hw : wishB T V w = true
  ·rw [if_pos hw]
   unfold kdA
   split
   ·exact h
   split
   ·exact h
   split
   ·exact h
   split
   ·exact h
   split
   ·exact h
   split
   ·exact h
   split
   ·split <;> exact h
   split
   ·unfold backS
    split <;> exact h
   ·exact h
  ·rw [if_neg hw]; exact h
theorem ch_now {T : List (List Int)} {V : List Vw} {free : Bool} {now : Tabs} {t : Int} {rows : List (List Val)} (h : (chS T V free now t rows).1 ≠ 0) : (chS T V free now t rows).2 = now := by
 unfold chS at h ⊢
 split
 ·rfl
 ·rename_i hc
  rw [if_neg hc] at h
  exact absurd rfl h
theorem doA_err {T : List (List Int)} {V : List Vw} {free : Bool} {s : DS} {w : Wi} (he : (doA T V free s w).1.e ≠ 0) : (doA T V free s w).2.now = s.now := by
 cases h : s.was with
 | none => simp only [doA, h]
 | some ts =>
  simp only [doA, h] at he ⊢
  by_cases hw : wishB T V w = true
  ·rw [if_pos hw] at he ⊢
   unfold kdA at he ⊢
   split
   ·rename_i h1
    rw [if_pos h1] at he
    simp only at he ⊢
    unfold insS at he ⊢
    split
    ·rfl
    ·rename_i h2
     rw [if_neg h2] at he
     exact ch_now he
   rename_i h1
   rw [if_neg h1] at he
   split
   ·rename_i h1
    rw [if_pos h1] at he
    simp only at he ⊢
    unfold cgS at he ⊢
    split
    ·rename_i h2
     rw [if_pos h2] at he
     exact ch_now he
    ·rfl
   rename_i h1
   rw [if_neg h1] at he
   split
   ·rfl
   rename_i h1
   rw [if_neg h1] at he
   split
   ·rfl
   rename_i h1
   rw [if_neg h1] at he
   split
   ·rfl
   rename_i h1
   rw [if_neg h1] at he
   split
   ·rfl
   rename_i h1
   rw [if_neg h1] at he
   split
   ·split <;> rfl
   rename_i h1
   rw [if_neg h1] at he
   split
   ·rename_i h1
    rw [if_pos h1] at he
    simp only at he ⊢
    unfold backS at he ⊢
    split
    ·rfl
    ·rename_i h2
     rw [if_neg h2] at he
     exact absurd rfl he
   ·rfl
  ·rw [if_neg hw]
theorem do_nil (w : Wi) (H : List Blk) : ∃ h', AMS Tryz.prog 19 [.nilp, .agg (enWi w)] H (anV ⟨2, [], [], 0⟩) h' ∧ Kept H h' := by
 have hn : gGet gamD 19 = none := by kernel_rfl
 obtain ⟨lo, h⟩ := (clV 1 (af := a19) (r := (.agg [(.int .i64 2), .nils, .nils, (.int .i64 0)])) (h' := (ap (ap H (enWi w)) [(.int .i64 2), .nils, .nils, (.int .i64 0)])) [.w (.box (.c (.agg (enWi w)))) (.ptr H.length 0) (ap H (enWi w)) none, .w (.alloc [(.int .i64 0), .nils, .nils, (.int .i64 0)]) (.ptr (List.length (ap H (enWi w))) 0) (ap (ap H (enWi w)) [(.int .i64 0), .nils, .nils, (.int .i64 0)]) none, .q (.isNil 0 false (.c .nilp)) true, .w (.store 4 (.c (.ptr (List.length (ap H (enWi w))) 0)) (.c (.agg [(.int .i64 2), .nils, .nils, (.int .i64 0)]))) (.tup []) (ap (ap H (enWi w)) [(.int .i64 2), .nils, .nils, (.int .i64 0)]) (some (List.length (ap H (enWi w)))), .l (.load (some 4) (.c (.ptr (List.length (ap H (enWi w))) 0))) (.agg [(.int .i64 2), .nils, .nils, (.int .i64 0)])] [(.agg [(.int .i64 2), .nils, .nils, (.int .i64 0)])] (by kernel_rfl) ⟨rfl, rfl, rfl, stZ, (ldV gl), trivial⟩ : ∃ lo, Cl (gGet gamD) Mo.T 19 [.nilp, .agg (enWi w)] H (errA 2, _, lo))
 exact ⟨_, (Cl.ams KD h hn).cv (CvH.refl _) (cv_err 2), (Kept.refl H).ap.ap⟩
theorem md_nil {Γ : FuncId → Option GF} (hg : Γ 19 = some (anyG Tryz.prog 19 MD)) (w : Wi) (H : List Blk) : ∃ H' lo, Cl Γ Mo.T 19 [.nilp, .agg (enWi w)] H (anV ⟨2, [], [], 0⟩, H', lo) ∧ Kept H H' := by
 obtain ⟨h1, ha, hk⟩ := do_nil w H
 obtain ⟨r, H', lo, hI, hc⟩ := anyG_cl (Γ := Γ) (tbl := Mo.T) hg (.inl ⟨rfl, rfl, hk⟩) ha hk.1
 rcases hI with ⟨_, rfl, h2⟩ | ⟨T2, V2, free2, p2, s2, w2, x2, h1, _⟩
 ·exact ⟨H', lo, hc, h2⟩
 ·cases h1
def g25 : List AV → Option AV
 | [.nilp, .int .i64 0] => some .nils
 | _ => none
theorem g25_ok : GOk Tryz.prog 25 (pureG g25) := by
 refine pureG_known ⟨_, Tryz.func25, by kernel_rfl, by kernel_rfl⟩ fun args r hr _ => ?_
 unfold g25 at hr
 split at hr <;> cases hr
 have key : res1 (callX (gGet gam0) Mo.T 100 25 [.nilp, .int .i64 0] []) = some .nils := by kernel_rfl
 obtain ⟨h', lo, h⟩ := res1_some key
 rw [callX_eq] at h
 exact pureS_cl K0 ⟨100, h⟩ (by kernel_rfl) rfl
theorem g25_e {Γ : FuncId → Option GF} (hg : Γ 25 = some (pureG g25)) (H : List Blk) : Cl Γ Mo.T 25 [.nilp, .int .i64 0] H (.nils, H, none) := Cl.pure (g := g25) hg rfl rfl rfl H
noncomputable def gamL : List (Nat × GF) := (25, pureG g25) :: (7, pureG g7) :: gamA
theorem KL : Known (gGet gamL) tree.get Tryz.prog := known_of (by kernel_rfl) ⟨g25_ok, awake_ok, anyG_ok ⟨_, Tryz.func8, by kernel_rfl, by kernel_rfl⟩, anyG_ok ⟨_, Tryz.func12, by kernel_rfl, by kernel_rfl⟩, anyG_ok ⟨_, Tryz.func14, by kernel_rfl, by kernel_rfl⟩, anyG_ok ⟨_, Tryz.func16, by kernel_rfl, by kernel_rfl⟩, anyG_ok ⟨_, Tryz.func19, by kernel_rfl, by kernel_rfl⟩, anyG_ok ⟨_, Tryz.func28, by kernel_rfl, by kernel_rfl⟩, anyG_ok ⟨_, Tryz.func29, by kernel_rfl, by kernel_rfl⟩, anyG_ok ⟨_, Tryz.func23, by kernel_rfl, by kernel_rfl⟩, told_ok, eq17_ok, great_ok, plans_ok, oft_ok, ofv_ok, isVal_ok, view_ok, grp_ok, tot_ok, adt_ok, fit_ok, code_ok, int_ok, of_ok, add_ok, cmp_ok, good_ok, xSub_ok, xAdd_ok, trivial⟩ all
noncomputable abbrev GL : FuncId → Option GF := gGet gamL
abbrev wiV (w : Wi) : AV := .agg (enWi w)
theorem eqv_suV (s : SumT) : eqv (suV s) (suV s) = true := by simp [eqv, eqvL, eqvL_map iV eqv_iV]
theorem eqv_rV (r : List Val) : eqv (rV r) (rV r) = true := eqv_roV r
theorem eqv_an (a : An) : eqv (anV a) (anV a) = true := by
 simp only [eqv, eqvL, eqvL_map rV eqv_rV, eqvL_map suV eqv_suV, decide_true, Bool.and_true]
set_option maxHeartbeats 16000000 in
theorem copies_cl {ws : List Wi} {m : Wi} (hws : ws.length ≤ 9223372036854775807) (hwr : ∀ w ∈ ws, w.row.length ≤ 9223372036854775807) (hrm : m.row.length ≤ 9223372036854775807) : ∃ H' lo, Cl GL Mo.T 5 [(.ro (List.map wiV ws) 14 false), .agg (enWi m)] [] (.bool true, H', lo) := by
 have key : ∃ r H' lo, r = .bool true ∧ Cl GL Mo.T 5 [(.ro (List.map wiV ws) 14 false), .agg (enWi m)] [] (r, H', lo) := by
  refine clE (Γ := GL) (tbl := Mo.T) (f := 5) (af := a5) (args := [(.ro (List.map wiV ws) 14 false), .agg (enWi m)]) (h := []) (by kernel_rfl) (by kernel_rfl) (by kernel_rfl) (fun r h' => r = .bool true) ?_
  have fin : ∀ {t : List AV} {h : List Blk} {lo : Option Nat}, Lv 122 [(4, .bool true)] t → ∃ vs, resAll ({ t := t, h := h, lo := lo } : St) a5.res = some vs ∧ packRes vs = .bool true := fun {t h lo} hl => by
   have := hl.get (4, .bool true) (by simp)
   rw [getX_eq] at this
   exact ⟨[.bool true], by show resAll _ [.t 4] = _; simp only [resAll, resOf, this], rfl⟩
  refine Wp.seq ((pathE (nt := 122) (live := [(0, (.ro (ws.map wiV) 14 false)), (1, (.agg (enWi m)))]) [.w (.box (.c (.agg (enWi m)))) (.ptr (List.length ([] : List Blk)) 0) (ap ([] : List Blk) (enWi m)) none] [0, 3] (e := .normal) (vals := [(.ro (ws.map wiV) 14 false), (.ptr (List.length ([] : List Blk)) 0)]) (h' := (ap ([] : List Blk) (enWi m))) (Lv.start (by rfl) (by simp)) (fun _ => by kernel_rfl) ⟨rfl, trivial⟩).mono ?_)
  rintro e s ⟨rfl, t1, lo1, rfl, hl1⟩
  have hM : ((ap ([] : List Blk) (enWi m)))[0]? = some (.cells (enWi m)) := rfl
  have hBl : ((ap ([] : List Blk) (enWi m))).length = 1 := rfl
  have hl1 : Lv 122 [(0, (.ro (List.map wiV ws) 14 false)), (3, .ptr 0 0)] t1 := hl1
  generalize (ap ([] : List Blk) (enWi m)) = G at hM hBl hl1 ⊢
  refine Wp.seq ((pathE (nt := 122) [.r 7 [] (.bool true) G none] [0, 3] (e := .normal) (vals := [(.ro (ws.map wiV) 14 false), (.ptr 0 0)]) (h' := G) hl1 (fun _ => by kernel_rfl) ⟨(awake_e (by kernel_rfl) _), trivial⟩).mono ?_)
  rintro e s ⟨rfl, t2, lo2, rfl, hl2⟩
  cases hgr : greatB m with
  | true =>
   refine Wp.seq ((pathE (nt := 122) [.f (.load (some 14) (.c (.ptr 0 0))) (.agg (enWi m)), .r 11 [(.agg (enWi m))] (.bool true) G none] [4] (e := .ret) (vals := [(.bool true)]) (h' := G) hl2 (fun _ => by kernel_rfl) ⟨(ldV hM), (hgr ▸ great_e (by kernel_rfl) hrm _), trivial⟩).mono ?_)
   rintro e s ⟨rfl, t3, lo3, rfl, hl3⟩
   exact ⟨rfl, fin hl3⟩
  | false =>
  refine Wp.seq ((pathE (nt := 122) [.f (.load (some 14) (.c (.ptr 0 0))) (.agg (enWi m)), .r 11 [(.agg (enWi m))] (.bool false) G none] [0, 3] (e := .normal) (vals := [(.ro (ws.map wiV) 14 false), (.ptr 0 0)]) (h' := G) hl2 (fun _ => by kernel_rfl) ⟨(ldV hM), (hgr ▸ great_e (by kernel_rfl) hrm _), trivial⟩).mono ?_)
  rintro e s ⟨rfl, t3, lo3, rfl, hl3⟩
  -- a DB, and a transaction
  obtain ⟨G1, ln, hn, d1, gl1, kp1, ib1⟩ := nw_e (Γ := GL) (by kernel_rfl) true good0 (by decide) (pa_pA G T0 V0) (by intro h; cases h)
  rw [rB_pA] at kp1
  generalize G.length + 2 = p at hn d1 ib1
  have D1 : Dp T0 V0 true G1 p (newS T0) := ⟨d1, fun i hi => by have := ib1 i hi; omega⟩
  have hM1 := kp1 0 _ (by simp) hM
  have gG1 : 1 ≤ G1.length := by omega
  refine Wp.seq ((pathE (nt := 122) [.r 27 [] (.agg (pL T0 V0)) G none, .r 8 [(.agg (pL T0 V0)), (.bool true)] (.ptr p 0) G1 ln] [0, 3, 5] (e := .normal) (vals := [(.ro (ws.map wiV) 14 false), (.ptr 0 0), (.ptr p 0)]) (h' := G1) hl3 (fun _ => by kernel_rfl) ⟨(plans_e (by kernel_rfl) _), hn, trivial⟩).mono ?_)
  rintro e s ⟨rfl, t4, lo4, rfl, hl4⟩
  have okE0 : OkTb T0 0 [[], []] := okTb_of rfl fun t ht => by
   match t, ht with
   | 0, _ => exact ⟨Nat.le_refl _, fun r hr => by cases hr⟩
   | 1, _ => exact ⟨Nat.le_refl _, fun r hr => by cases hr⟩
  obtain ⟨G2, lb, hb, d2, st2⟩ := mrn_e (Γ := GL) (nr := .int .i64 2) (x := ()) encU_inj (by kernel_rfl) D1.d (beg_m okP0.toOkPl (k := 0) ⟨okE0, (fun ts h => by cases h), (fun ts h => by cases h), by decide⟩ (by decide) D1.d)
  have hb : Cl GL Mo.T 12 [.ptr p 0] G1 (.int .i64 0, G2, lb) := hb
  have d2 : DBA T0 V0 true G2 p ⟨[[], []], some [[], []], []⟩ := d2
  have D2 : Dp T0 V0 true G2 p ⟨[[], []], some [[], []], []⟩ := D1.step st2 d2 gG1
  have hM2 := D1.zero st2 hM1
  have gG2 : 1 ≤ G2.length := Nat.le_trans gG1 st2.1
  refine Wp.seq ((pathE (nt := 122) [.r 12 [(.ptr p 0)] (.int .i64 0) G2 lb, .b ((0 : Int) != 0) false] [0, 3, 5] (e := .normal) (vals := [(.ro (ws.map wiV) 14 false), (.ptr 0 0), (.ptr p 0)]) (h' := G2) hl4 (fun _ => by kernel_rfl) ⟨hb, rfl, trivial⟩).mono ?_)
  rintro e s ⟨rfl, t5, lo5, rfl, hl5⟩
  refine Wp.seq (Wp.seq ((pathE (nt := 122) [] [6, 0, 3, 5] (e := .normal) (vals := [(.int .i64 0), (.ro (ws.map wiV) 14 false), (.ptr 0 0), (.ptr p 0)]) (h' := G2) hl5 (fun _ => by kernel_rfl) trivial).mono ?_))
  rintro e s ⟨rfl, t6, lo6, rfl, hl6⟩
  obtain ⟨N, hN⟩ : ∃ N, min ws.length 20 = N := ⟨_, rfl⟩
  refine (forL (i := 6) (a := 29) (b := 30) (X := List Blk × DS) (N := N) (fun _ _ => [(0, (.ro (List.map wiV ws) 14 false)), (3, .ptr 0 0), (5, .ptr p 0)]) (fun _ x => x.1) (fun k x => Dp T0 V0 true x.1 p x.2 ∧ OkS T0 k x.2 ∧ x.2.was ≠ none ∧ x.1[0]? = some (.cells (enWi m)) ∧ 1 ≤ x.1.length) (fun s => ∃ vs, resAll s a5.res = some vs ∧ packRes vs = .bool true)
   (by omega) (by decide) (by decide) (by decide) (by decide) (by decide) (fun _ _ => rfl) ?_ ?_ ?_ (x0 := (G2, ⟨[[], []], some [[], []], []⟩)) ⟨D2, ⟨okE0, fun ts h => by cases h; exact okE0, (fun ts h => by cases h), Nat.zero_le _⟩, (by intro h; cases h), hM2, gG2⟩ hl6).mono ?_
  ·rintro k ⟨G, s⟩ t7 lo7 hkN - hlb
   refine (pathE (nt := 122) [.b (decide ((k : Int) < ((List.length (ws.map wiV)) : Int))) true, .b (decide ((k : Int) < 20)) true] [6, 0, 3, 5] (e := .normal) (vals := [(.int .i64 (k : Int)), (.ro (ws.map wiV) 14 false), (.ptr 0 0), (.ptr p 0)]) (h' := G) hlb (fun _ => by kernel_rfl) ⟨(cT (by simp; omega)), (cT (by omega)), trivial⟩).mono ?_
   rintro e s' ⟨rfl, t8, lo8, rfl, hl8⟩
   exact ⟨rfl, t8, lo8, rfl, hl8⟩
  ·rintro ⟨G, s⟩ t7 lo7 - hlb
   by_cases hlt : N = ws.length
   ·refine (pathE (nt := 122) [.b (decide ((N : Int) < ((List.length (ws.map wiV)) : Int))) false] [0, 3, 5] (e := (.exit 0)) (vals := [(.ro (ws.map wiV) 14 false), (.ptr 0 0), (.ptr p 0)]) (h' := G) hlb (fun _ => by kernel_rfl) ⟨(cF (by simp; omega)), trivial⟩).mono ?_
    rintro e s' ⟨rfl, t8, lo8, rfl, hl8⟩
    exact ⟨rfl, t8, lo8, rfl, hl8⟩
   ·refine (pathE (nt := 122) [.b (decide ((N : Int) < ((List.length (ws.map wiV)) : Int))) true, .b (decide ((N : Int) < 20)) false] [0, 3, 5] (e := (.exit 0)) (vals := [(.ro (ws.map wiV) 14 false), (.ptr 0 0), (.ptr p 0)]) (h' := G) hlb (fun _ => by kernel_rfl) ⟨(cT (by simp; omega)), (cF (by omega)), trivial⟩).mono ?_
    rintro e s' ⟨rfl, t8, lo8, rfl, hl8⟩
    exact ⟨rfl, t8, lo8, rfl, hl8⟩
  ·rintro k ⟨G, s⟩ t7 lo7 hkN ⟨D, ok, hwas, hMG, hGl⟩ hlb
   simp only at D ok hwas hMG hGl
   have hkw : k < ws.length := by omega
   have hv : (List.map wiV ws)[(k : Int).toNat]? = some (.agg (enWi ws[k])) := by simp [hkw]
   have hrw : ws[k].row.length ≤ 9223372036854775807 := hwr _ (List.getElem_mem hkw)
   generalize ws[k] = w at hv hrw
   cases hgw : greatB w with
   | true =>
    refine (pathE (nt := 122) [.p (14 = 14), .p ((0 : Int) ≤ (k : Int)), .p (((k : Int) : Int) < (List.length (ws.map wiV) : Int)), .e (ws.map wiV) (Int.toNat (k : Int)) (.agg (enWi w)), .r 11 [(.agg (enWi w))] (.bool true) G none] [4] (e := .ret) (vals := [(.bool true)]) (h' := G) hlb (fun _ => by kernel_rfl) ⟨rfl, (by omega), (by simp; omega), hv, (hgw ▸ great_e (by kernel_rfl) hrw _), trivial⟩).mono ?_
    rintro e s' ⟨rfl, t8, lo8, rfl, hl8⟩
    exact .inr ⟨rfl, fin hl8⟩
   | false =>
    obtain ⟨K, ld, hdo, dK, stK⟩ := md_w (Γ := GL) (w := w) (by kernel_rfl) okP0 ok (by omega) (by omega) D.d
    have hok2 := doA_ok (w := w) (free := true) okP0 ok (by omega)
    have hwas2 : (doA T0 V0 true s w).2.was ≠ none := by rw [doA_was]; exact hwas
    generalize (doA T0 V0 true s w).2 = s2 at dK hok2 hwas2
    generalize (doA T0 V0 true s w).1 = aa at hdo
    refine (pathE (nt := 122) [.p (14 = 14), .p ((0 : Int) ≤ (k : Int)), .p (((k : Int) : Int) < (List.length (ws.map wiV) : Int)), .e (ws.map wiV) (Int.toNat (k : Int)) (.agg (enWi w)), .r 11 [(.agg (enWi w))] (.bool false) G none, .p (14 = 14), .p ((0 : Int) ≤ (k : Int)), .p (((k : Int) : Int) < (List.length (ws.map wiV) : Int)), .e (ws.map wiV) (Int.toNat (k : Int)) (.agg (enWi w)), .r 19 [(.ptr p 0), (.agg (enWi w))] (.agg (anL aa)) K ld] [6, 0, 3, 5] (e := .normal) (vals := [(.int .i64 (k : Int)), (.ro (ws.map wiV) 14 false), (.ptr 0 0), (.ptr p 0)]) (h' := K) hlb (fun _ => by kernel_rfl) ⟨rfl, (by omega), (by simp; omega), hv, (hgw ▸ great_e (by kernel_rfl) hrw _), rfl, (by omega), (by simp; omega), hv, hdo, trivial⟩).mono ?_
    rintro e s' ⟨rfl, t8, lo8, rfl, hl8⟩
    exact .inl ⟨rfl, (K, s2), t8, lo8, rfl, ⟨D.step stK dK hGl, hok2, hwas2, D.zero stK hMG, Nat.le_trans hGl stK.1⟩, hl8⟩
  rintro e s (⟨rfl, ⟨G, s⟩, t7, lo7, rfl, ⟨D, ok, hwas, hMG, hGl⟩, hl6⟩ | ⟨rfl, h⟩)
  rotate_left
  ·exact ⟨rfl, h⟩
  simp only at D ok hwas hMG hGl
  have hN9 : N ≤ 99999 := by omega
  -- copies
  obtain ⟨pc, K1, l1, hc1, dc1, kc1, ic1⟩ := cpy_e (Γ := GL) (by kernel_rfl) okP0.toOkPl ok hN9 D.d
  have C1 : Dp T0 V0 true K1 pc s := ⟨dc1, fun i hi => by have := ic1 i hi; omega⟩
  obtain ⟨E1, eE1⟩ := D.keep kc1
  have sp1 : Sep K1 p pc := fun i hi hi2 => by rw [eE1] at hi; have := D.d.lt i hi; have := ic1 i hi2; omega
  refine Wp.seq ((pathE (nt := 122) [.r 28 [(.ptr p 0)] (.ptr pc 0) K1 l1] [0, 3, 5, 7] (e := .normal) (vals := [(.ro (ws.map wiV) 14 false), (.ptr 0 0), (.ptr p 0), (.ptr pc 0)]) (h' := K1) hl6 (fun _ => by kernel_rfl) ⟨hc1, trivial⟩).mono ?_)
  rintro e s' ⟨rfl, t8, lo8, rfl, hl7⟩
  obtain ⟨px, K2, l2, hc2, dx2, kx2, ix2⟩ := cpy_e (Γ := GL) (by kernel_rfl) okP0.toOkPl ok hN9 E1.d
  have X2 : Dp T0 V0 true K2 px s := ⟨dx2, fun i hi => by have := ix2 i hi; have := kc1.1; omega⟩
  obtain ⟨E2, eE2⟩ := E1.keep kx2
  obtain ⟨C2, eC2⟩ := C1.keep kx2
  have sp2 : Sep K2 p pc := sep_keep kx2 E1 C1 sp1
  have sx2 : Sep K2 p px := fun i hi hi2 => by rw [eE2] at hi; have := E1.d.lt i hi; have := ix2 i hi2; omega
  have scx2 : Sep K2 pc px := fun i hi hi2 => by rw [eC2] at hi; have := C1.d.lt i hi; have := ix2 i hi2; omega
  have hM2 := kx2.2 0 _ (kc1.2 0 _ hMG)
  have gK2 : 1 ≤ K2.length := Nat.le_trans (Nat.le_trans hGl kc1.1) kx2.1
  refine Wp.seq ((pathE (nt := 122) [.r 28 [(.ptr p 0)] (.ptr px 0) K2 l2] [0, 3, 5, 7, 8] (e := .normal) (vals := [(.ro (ws.map wiV) 14 false), (.ptr 0 0), (.ptr p 0), (.ptr pc 0), (.ptr px 0)]) (h' := K2) hl7 (fun _ => by kernel_rfl) ⟨hc2, trivial⟩).mono ?_)
  rintro e s' ⟨rfl, t9, lo9, rfl, hl8⟩
  -- a deed of each
  obtain ⟨Ka, l3, hd1, da, sta⟩ := md_w (Γ := GL) (w := m) (by kernel_rfl) okP0 ok hN9 (by omega) E2.d
  have Ea : Dp T0 V0 true Ka p (doA T0 V0 true s m).2 := E2.step sta da gK2
  obtain ⟨Ca, eCa, spa⟩ := C2.other sta sp2
  obtain ⟨Xa, eXa, sxa⟩ := X2.other sta sx2
  have hMa := E2.zero sta hM2
  have scxa : Sep Ka pc px := fun i hi hi2 => by rw [eCa] at hi; rw [eXa] at hi2; exact scx2 i hi hi2
  have han := doA_an (w := m) (free := true) okP0 ok hN9
  have hokm := doA_ok (w := m) (free := true) okP0 ok hN9
  have hwasm : (doA T0 V0 true s m).2.was ≠ none := by rw [doA_was]; exact hwas
  have herr := doA_err (T := T0) (V := V0) (free := true) (s := s) (w := m)
  have gKa : 1 ≤ Ka.length := Nat.le_trans gK2 sta.1
  -- the answer's block
  have kA : Kept Ka (ap Ka (anL (doA T0 V0 true s m).1)) := (Kept.refl Ka).ap
  obtain ⟨EA, eEA⟩ := Ea.keep kA
  obtain ⟨CA, eCA⟩ := Ca.keep kA
  obtain ⟨XA, eXA⟩ := Xa.keep kA
  have spA : Sep (ap Ka (anL (doA T0 V0 true s m).1)) p pc := sep_keep kA Ea Ca spa
  have scxA : Sep (ap Ka (anL (doA T0 V0 true s m).1)) pc px := sep_keep kA Ca Xa scxa
  have hMA := kA.2 0 _ hMa
  have h9A : (ap Ka (anL (doA T0 V0 true s m).1))[Ka.length]? = some (.cells (anL (doA T0 V0 true s m).1)) := gl
  have n9 : Ka.length ∉ ids (ap Ka (anL (doA T0 V0 true s m).1)) pc := fun h => by rw [eCA] at h; have := Ca.d.lt _ h; omega
  have gKA : (ap Ka (anL (doA T0 V0 true s m).1)).length = Ka.length + 1 := by simp
  obtain ⟨Kb, l4, hd2, db, stb⟩ := md_w (Γ := GL) (w := m) (by kernel_rfl) okP0 ok hN9 (by omega) CA.d
  generalize (doA T0 V0 true s m).2 = s2 at *
  generalize (doA T0 V0 true s m).1 = aa at *
  refine Wp.seq ((pathE (nt := 122) [.f (.load (some 14) (.c (.ptr 0 0))) (.agg (enWi m)), .r 19 [(.ptr p 0), (.agg (enWi m))] (.agg (anL aa)) Ka l3, .w (.alloc [(.int .i64 0), .nils, .nils, (.int .i64 0)]) (.ptr Ka.length 0) (ap Ka [(.int .i64 0), .nils, .nils, (.int .i64 0)]) none, .w (.store 4 (.c (.ptr Ka.length 0)) (.c (.agg (anL aa)))) (.tup []) (ap Ka (anL aa)) (some Ka.length)] [0, 3, 5, 7, 8, 9] (e := .normal) (vals := [(.ro (ws.map wiV) 14 false), (.ptr 0 0), (.ptr p 0), (.ptr pc 0), (.ptr px 0), (.ptr Ka.length 0)]) (h' := (ap Ka (anL aa))) hl8 (fun _ => by kernel_rfl) ⟨(ldV hM2), hd1, rfl, stZ, trivial⟩).mono ?_)
  rintro e s' ⟨rfl, t10, lo10, rfl, hl9⟩
  obtain ⟨A9, hA9⟩ : ∃ A9, Ka.length = A9 := ⟨_, rfl⟩
  have hl9 : Lv 122 [(0, (.ro (List.map wiV ws) 14 false)), (3, .ptr 0 0), (5, .ptr p 0), (7, .ptr pc 0), (8, .ptr px 0), (9, .ptr A9 0)] t10 := hA9 ▸ hl9
  rw [hA9] at h9A n9 gKA
  show Wp GL Mo.T _ { t := t10, h := ap Ka (anL aa), lo := lo10 } _
  generalize ap Ka (anL aa) = KA at *
  have Cb : Dp T0 V0 true Kb pc s2 := CA.step stb db (by omega)
  obtain ⟨Eb, eEb, spb⟩ := EA.other stb spA.symm
  obtain ⟨Xb, eXb, sxb⟩ := XA.other stb scxA
  have hMb := CA.zero stb hMA
  have h9b := stb.2.2 _ _ n9 h9A
  refine Wp.seq ((pathE (nt := 122) [.f (.load (some 14) (.c (.ptr 0 0))) (.agg (enWi m)), .r 19 [(.ptr pc 0), (.agg (enWi m))] (.agg (anL aa)) Kb l4, .w (.alloc [(.int .i64 0), .nils, .nils, (.int .i64 0)]) (.ptr Kb.length 0) (ap Kb [(.int .i64 0), .nils, .nils, (.int .i64 0)]) none, .w (.store 4 (.c (.ptr Kb.length 0)) (.c (.agg (anL aa)))) (.tup []) (ap Kb (anL aa)) (some Kb.length)] [3, 5, 7, 8, 9, 10] (e := .normal) (vals := [(.ptr 0 0), (.ptr p 0), (.ptr pc 0), (.ptr px 0), (.ptr A9 0), (.ptr Kb.length 0)]) (h' := (ap Kb (anL aa))) hl9 (fun _ => by kernel_rfl) ⟨(ldV hMA), hd2, rfl, stZ, trivial⟩).mono ?_)
  rintro e s' ⟨rfl, t11, lo11, rfl, hl10⟩
  have kB : Kept Kb (ap Kb (anL aa)) := (Kept.refl Kb).ap
  obtain ⟨EB, eEB⟩ := Eb.keep kB
  obtain ⟨CB, eCB⟩ := Cb.keep kB
  obtain ⟨XB, eXB⟩ := Xb.keep kB
  have hMB := kB.2 0 _ hMb
  have h9 := kB.2 _ _ h9b
  have h10 : (ap Kb (anL aa))[Kb.length]? = some (.cells (anL aa)) := gl
  show Wp GL Mo.T _ { t := t11, h := ap Kb (anL aa), lo := lo11 } _
  have hl10 : Lv 122 [(3, .ptr 0 0), (5, .ptr p 0), (7, .ptr pc 0), (8, .ptr px 0), (9, .ptr A9 0), (10, .ptr Kb.length 0)] t11 := hl10
  generalize Kb.length = A10 at h10 hl10
  generalize ap Kb (anL aa) = KB at *
  have hok3 := ok.mono (Nat.le_succ N)
  obtain ⟨Kc, l5, hs1, hkc⟩ := sm_e (Γ := GL) (by kernel_rfl) okP0.toOkPl okP0.toOkPl hokm.now hokm.now (by omega) CB.d EB.d rfl
  obtain ⟨Ec, eEc⟩ := EB.keep hkc
  obtain ⟨Cc, eCc⟩ := CB.keep hkc
  obtain ⟨Xc, eXc⟩ := XB.keep hkc
  have hMc := hkc.2 0 _ hMB
  have hcond : Wp GL Mo.T (hd (tl (tl (tl (tl (tl (tl (tl (tl (tl (tl a5.body))))))))))) { t := t11, h := KB, lo := lo11 } fun e s => e = .normal ∧ ∃ G t lo, s = { t := t, h := G, lo := lo } ∧ Lv 122 [(3, .ptr 0 0), (7, .ptr pc 0)] t ∧ Dp T0 V0 true G pc s2 ∧ G[0]? = some (.cells (enWi m)) := by
   by_cases he : aa.e = 0
   ·refine (pathE (nt := 122) [.f (.load (some 4) (.c (.ptr A9 0))) (.agg (anL aa)), .r 18 [(.agg (anL aa))] (.agg (anL aa)) KB none, .p (stays evC (AOper.mk (some 54) (.load (some 4) (.c (.ptr A10 0))) none 0 1) (.agg (anL aa)) [KB, KB, KB, KB, Kc, Kc] = true), .f (.load (some 4) (.c (.ptr A10 0))) (.agg (anL aa)), .r 18 [(.agg (anL aa))] (.agg (anL aa)) KB none, .r 17 [(.agg (anL aa)), (.agg (anL aa))] (.bool true) KB none, .r 29 [(.ptr pc 0), (.ptr p 0)] (.bool true) Kc l5, .f (.load none (.c (.ptr A9 0))) (.int .i64 aa.e), .b (aa.e != 0) false] [3, 7] (e := .normal) (vals := [(.ptr 0 0), (.ptr pc 0)]) (h' := Kc) hl10 (fun _ => by kernel_rfl) ⟨(ldV h9), (told_e (by kernel_rfl) han _), (stays2 (eqv_an aa) (And.intro (ldV h10) (And.intro (ldV h10) trivial))), (ldV h10), (told_e (by kernel_rfl) han _), (eq17_e (by kernel_rfl) han _), hs1, (ldV (hkc.2 _ _ h9)), (cS he), trivial⟩).mono ?_
    rintro e s' ⟨rfl, t12, lo12, rfl, hl11⟩
    exact ⟨rfl, Kc, t12, lo12, rfl, hl11, Cc, hMc⟩
   ·obtain ⟨Kd, l6, hs2, hkd⟩ := sm_e (Γ := GL) (by kernel_rfl) okP0.toOkPl okP0.toOkPl hok3.now hokm.now (by omega) Xc.d Ec.d (herr he).symm
    refine (pathE (nt := 122) [.f (.load (some 4) (.c (.ptr A9 0))) (.agg (anL aa)), .r 18 [(.agg (anL aa))] (.agg (anL aa)) KB none, .p (stays evC (AOper.mk (some 54) (.load (some 4) (.c (.ptr A10 0))) none 0 1) (.agg (anL aa)) [KB, KB, KB, KB, Kc, Kd] = true), .f (.load (some 4) (.c (.ptr A10 0))) (.agg (anL aa)), .r 18 [(.agg (anL aa))] (.agg (anL aa)) KB none, .r 17 [(.agg (anL aa)), (.agg (anL aa))] (.bool true) KB none, .r 29 [(.ptr pc 0), (.ptr p 0)] (.bool true) Kc l5, .f (.load none (.c (.ptr A9 0))) (.int .i64 aa.e), .b (aa.e != 0) true, .r 29 [(.ptr px 0), (.ptr p 0)] (.bool true) Kd l6] [3, 7] (e := .normal) (vals := [(.ptr 0 0), (.ptr pc 0)]) (h' := Kd) hl10 (fun _ => by kernel_rfl) ⟨(ldV h9), (told_e (by kernel_rfl) han _), (stays2 (eqv_an aa) (And.intro (ldV h10) (And.intro (ldV h10) trivial))), (ldV h10), (told_e (by kernel_rfl) han _), (eq17_e (by kernel_rfl) han _), hs1, (ldV (hkc.2 _ _ h9)), (cD he), hs2, trivial⟩).mono ?_
    rintro e s' ⟨rfl, t12, lo12, rfl, hl11⟩
    exact ⟨rfl, Kd, t12, lo12, rfl, hl11, (Cc.keep hkd).1, hkd.2 0 _ hMc⟩
  refine Wp.seq (hcond.mono ?_)
  rintro e s' ⟨rfl, G, t12, lo12, rfl, hl11, Cg, hMG⟩
  refine Wp.seq ((pathE (nt := 122) [] [3, 7, 11] (e := .normal) (vals := [(.ptr 0 0), (.ptr pc 0), .nilp]) (h' := G) hl11 (fun _ => by kernel_rfl) trivial).mono ?_)
  rintro e s' ⟨rfl, t13, lo13, rfl, hl12⟩
  -- nil; the copy's end and beginning
  obtain ⟨N1, m1, hn1, kn1⟩ := mrn_nil (Γ := GL) (f := 12) (enc := encU) (step := begM) (nr := .int .i64 2) (rest := []) (by kernel_rfl) (nil_pure rfl rfl (by kernel_rfl) (by kernel_rfl) G) (Kept.refl G)
  obtain ⟨N2, m2, hn2, kn2⟩ := mrn_nil (Γ := GL) (f := 14) (enc := encU) (step := comM) (nr := .int .i64 2) (rest := []) (by kernel_rfl) (nil_pure rfl rfl (by kernel_rfl) (by kernel_rfl) N1) (Kept.refl N1)
  obtain ⟨N3, m3, hn3, kn3⟩ := mrn_nil (Γ := GL) (f := 16) (enc := encU) (step := aboM) (nr := .int .i64 2) (rest := []) (by kernel_rfl) (nil_pure rfl rfl (by kernel_rfl) (by kernel_rfl) N2) (Kept.refl N2)
  obtain ⟨N4, m4, hn4, kn4⟩ := md_nil (Γ := GL) (by kernel_rfl) m N3
  obtain ⟨m5, hn5⟩ := cpy_nil (Γ := GL) (by kernel_rfl) N4
  obtain ⟨m6, hn6⟩ := tbn_nil (Γ := GL) (by kernel_rfl) N4
  have C4 := ((Cg.keep (((kn1.trans kn2).trans kn3).trans kn4)).1)
  obtain ⟨N5, m7, hn7, d5, -⟩ := mrn_e (Γ := GL) (nr := .int .i64 2) (x := ()) encU_inj (by kernel_rfl) C4.d (com_m C4.d)
  obtain ⟨ts, hts⟩ : ∃ ts, s2.was = some ts := by
   cases h : s2.was with
   | none => exact absurd h hwasm
   | some ts => exact ⟨ts, rfl⟩
  have ee : endS s2 true = (0, ⟨s2.now, none, []⟩) := by simp [endS, hts]
  have hn7 : Cl GL Mo.T 14 [.ptr pc 0] N4 (.int .i64 0, N5, m7) := by simp only [comM, ee] at hn7; exact hn7
  have d5 : DBA T0 V0 true N5 pc ⟨s2.now, none, []⟩ := by simp only [comM, ee] at d5; exact d5
  obtain ⟨N6, m8, hn8, -, -⟩ := mrn_e (Γ := GL) (nr := .int .i64 2) (x := ()) encU_inj (by kernel_rfl) d5 (beg_m okP0.toOkPl (k := N + 1) ⟨hokm.now, (fun ts h => by cases h), (fun ts h => by cases h), Nat.zero_le _⟩ (by omega) d5)
  have hn8 : Cl GL Mo.T 12 [.ptr pc 0] N5 (.int .i64 0, N6, m8) := hn8
  refine (pathE (nt := 122) [.r 12 [.nilp] (.int .i64 2) N1 m1, .b ((2 : Int) == 2) true, .r 14 [.nilp] (.int .i64 2) N2 m2, .b ((2 : Int) == 2) true, .r 16 [.nilp] (.int .i64 2) N3 m3, .b ((2 : Int) == 2) true, .f (.load (some 14) (.c (.ptr 0 0))) (.agg (enWi m)), .r 19 [.nilp, (.agg (enWi m))] (.agg [(.int .i64 2), (.ro ([] : List AV) 1 false), (.ro ([] : List AV) 5 false), (.int .i64 0)]) N4 m4, .b ((2 : Int) == 2) true, .r 28 [.nilp] .nilp N4 m5, .q (.isNil 0 false (.c .nilp)) true, .r 23 [.nilp] .nils N4 m6, .b ((0 : Int) == 0) true, .r 25 [.nilp, (.int .i64 0)] .nils N4 none, .b ((0 : Int) == 0) true, .r 14 [(.ptr pc 0)] (.int .i64 0) N5 m7, .b ((0 : Int) == 0) true, .r 12 [(.ptr pc 0)] (.int .i64 0) N6 m8, .b ((0 : Int) == 0) true] [4] (e := .ret) (vals := [(.bool true)]) (h' := N6) hl12 (fun _ => by kernel_rfl) ⟨hn1, rfl, hn2, rfl, hn3, rfl, (ldV (kn3.2 _ _ (kn2.2 _ _ (kn1.2 _ _ hMG)))), hn4, rfl, hn5, rfl, hn6, rfl, (g25_e (by kernel_rfl) _), rfl, hn7, rfl, hn8, rfl, trivial⟩).mono ?_
  rintro e s' ⟨rfl, t14, lo14, rfl, hl13⟩
  exact ⟨rfl, fin hl13⟩
 obtain ⟨r, H', lo, rfl, h⟩ := key
 exact ⟨H', lo, h⟩
open Go
abbrev w64 (n : Int) : Prop := (Lit.int .i64 n).wf = true
theorem rI : ARd Tryz.prog 3 iV w64 := ard_int Tryz.underlying3
theorem rStr : ARd Tryz.prog 9 AV.str (fun s => s.length ≤ maxLen) := ard_string Tryz.underlying9
theorem ard_as {α β : Type} {P : Program} {T : TypeId} {en : α → AV} {en' : β → AV} {Q : α → Prop} {Q' : β → Prop} (hr : ARd P T en Q) (h : ∀ a, Q a → ∃ b, en' b = en a ∧ Q' b) : ARd P T en' Q' := by
 intro H enc w base spare held fuel cs x hx
 obtain ⟨a, h1, h2⟩ := hr hx
 obtain ⟨b, h3, h4⟩ := h a h2
 exact ⟨b, by rw [h3]; exact h1, h4⟩
abbrev QV (v : Val) : Prop := w64 v.k ∧ w64 v.n ∧ v.s.length ≤ maxLen
theorem rVal : ARd Tryz.prog 39 vV QV :=
 ard_as (ard_struct (sz := 3) (fun v : Int × Int × List UInt8 => (⟨v.1, v.2.1, v.2.2⟩ : Val)) vV (fun v => rfl) Tryz.underlying39 (by kernel_rfl)
  (ardF_cons (sz := 1) (sz' := 2) (en := iV) (by kernel_rfl) (by kernel_rfl) rI (ardF_cons (sz := 1) (sz' := 1) (en := iV) (by kernel_rfl) (by kernel_rfl) rI (ardF_one (sz := 1) (en := AV.str) (by kernel_rfl) (by kernel_rfl) rStr)))) fun a h => ⟨a, rfl, by
   obtain ⟨b, rfl, h1, h2, h3⟩ := h
   exact ⟨h1, h2, h3⟩⟩
theorem rRow : ARd Tryz.prog 40 rV (fun l => l.length ≤ maxLen ∧ ∀ v ∈ l, QV v) := ard_slice Tryz.underlying40 (by kernel_rfl) (by omega) rVal
abbrev WV := Int × Int × Val × Val × List Val × Int × Val × Int
def mkW (v : WV) : Wi := ⟨v.1, v.2.1, v.2.2.1, v.2.2.2.1, v.2.2.2.2.1, v.2.2.2.2.2.1, v.2.2.2.2.2.2.1, v.2.2.2.2.2.2.2⟩
abbrev QW (w : Wi) : Prop := w.row.length ≤ maxLen
theorem rWish : ARd Tryz.prog 42 wiV QW :=
 ard_as (ard_struct (sz := 14) mkW wiV (fun v => rfl) Tryz.underlying42 (by kernel_rfl)
  (ardF_cons (sz := 1) (sz' := 13) (en := iV) (by kernel_rfl) (by kernel_rfl) rI (ardF_cons (sz := 1) (sz' := 12) (en := iV) (by kernel_rfl) (by kernel_rfl) rI
   (ardF_cons (sz := 3) (sz' := 9) (en := vV) (by kernel_rfl) (by kernel_rfl) rVal (ardF_cons (sz := 3) (sz' := 6) (en := vV) (by kernel_rfl) (by kernel_rfl) rVal
    (ardF_cons (sz := 1) (sz' := 5) (en := rV) (by kernel_rfl) (by kernel_rfl) rRow (ardF_cons (sz := 1) (sz' := 4) (en := iV) (by kernel_rfl) (by kernel_rfl) rI
     (ardF_cons (sz := 3) (sz' := 1) (en := vV) (by kernel_rfl) (by kernel_rfl) rVal (ardF_one (sz := 1) (en := iV) (by kernel_rfl) (by kernel_rfl) rI))))))))) fun a h => ⟨a, rfl, by
   obtain ⟨b, rfl, h1, h2, h3, h4, h5, h6⟩ := h
   exact h5.1⟩
theorem rWishes : ARd Tryz.prog 76 (fun l : List Wi => AV.ro (l.map wiV) 14 false) (fun l => l.length ≤ maxLen ∧ ∀ w ∈ l, QW w) := ard_slice Tryz.underlying76 (by kernel_rfl) (by omega) rWish
theorem law5 {l : List Wi} {m : Wi} {w : World} {A : Option Addr} {n c : Nat} {cs : Array Value} (hl : LRel (Lies w) (fun _ => none) w (AV.ro (l.map wiV) 14 false).cells (Value.slice A n c).cells.toList) (okl : l.length ≤ maxLen ∧ ∀ s ∈ l, QW s)
  (hm : LRel (Lies w) (fun _ => none) w (wiV m).cells (Value.agg cs).cells.toList) (okm : QW m) :
  Calls Tryz.prog 5 #[.slice A n c, .agg cs] w fun e w' => e = .returned (.bool true) ∧ RowKit.Below w.heap.size w w' := by
 obtain ⟨h', lo, k, hc⟩ := copies_cl okl.1 okl.2 okm
 exact law_true KL (n := k) (by rw [hc]; rfl) (by kernel_rfl) (S := Lies w) (fun b hb => hb) (LRel.cons (ard_one hl rfl) (LRel.cons (ard_agg hm) LRel.nil))
end Go.Proofs.YtenpjpldjmoefaaGreat.AM.Mo

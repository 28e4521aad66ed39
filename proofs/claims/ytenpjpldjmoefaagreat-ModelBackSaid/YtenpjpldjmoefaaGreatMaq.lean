/-
  'gauger's law ModelBack holds of every input: it returns true, and each argument reads behind the call as it read before.
  This text: part 17 of 22 of the proof (MoT, MoU, MoV, MoW, MoX).
-/
import Derived.Test.YtenpjpldjmoefaaGreatMap
set_option linter.unusedVariables false
set_option linter.unusedSimpArgs false
set_option maxRecDepth 100000
set_option maxHeartbeats 4000000
namespace Go.Proofs.YtenpjpldjmoefaaGreat.AM.Mo
open Go
def chS (T : List (List Int)) (V : List Vw) (free : Bool) (now : Tabs) (t : Int) (rows2 : List (List Val)) : Int × Tabs := if !free && overB T V (now.set t.toNat rows2) t then (8, now) else (0, now.set t.toNat rows2)
noncomputable def insS (T : List (List Int)) (V : List Vw) (free : Bool) (now : Tabs) (w : Wi) : Int × Tabs :=
 if (bsK (now.getD w.tb.toNat []) (hdV w.row)).2 then (6, now) else chS T V free now w.tb (insL (now.getD w.tb.toNat []) (bsK (now.getD w.tb.toNat []) (hdV w.row)).1 w.row)
theorem cloneM90_e' {Γ : FuncId → Option GF} (hg : Γ 90 = some g90m) {x : List (List Val)} (hne : x ≠ []) (hl : x.length * 24 ≤ 140737488355328) {H : List Blk} {b : Nat} (hb : b = H.length + 1) : Cl Γ Mo.T 90 [bV x] H (.sl b 1 0 x.length x.length false, ap (ap H []) (x.map rV), none) := by
 have := cloneM90_e hg hne hl H
 rw [flatL] at this
 simp only [bSl, lsR, List.length_map] at this
 rw [hb]
 exact this
theorem eqvL_reflV : ∀ {l : List AV}, (∀ v ∈ l, eqv v v = true) → eqvL l l = true
 | [], _ => rfl
 | v :: r, h => by rw [eqvL, h v (by simp), eqvL_reflV fun x hx => h x (by simp [hx])]; rfl
theorem eqvL_map {α : Type} (f : α → AV) (hf : ∀ a, eqv (f a) (f a) = true) (l : List α) : eqvL (l.map f) (l.map f) = true := eqvL_reflV fun v hv => by obtain ⟨a, _, rfl⟩ := List.mem_map.1 hv; exact hf a
theorem eqv_roV (r : List Val) : eqv (.ro (List.map vV r) 3 false) (.ro (List.map vV r) 3 false) = true := by
 simp [eqv, eqvL_map vV (fun a => by simp [vV, enV, eqv, eqvL]) r]
structure UnT (Γ : FuncId → Option GF) : Prop extends UnS Γ where
 n56 : Γ 56 = none
 e90 : Γ 90 = some g90m
 e95 : Γ 95 = some (anyG Tryz.prog 95 II)
section
variable {Γ : FuncId → Option GF} (u : UnT Γ)
include u
theorem insert_cl {T : List (List Int)} {V : List Vw} {free : Bool} {p q n : Nat} {wv mv : AV} {now : Tabs} {w : Wi} {rows : List (List Val)} {H : List Blk} (hp : H[p]? = some (.cells (dbC T V free q n wv mv))) (hq : H[q]? = some (.cells (tsC now))) (hqp : q ≠ p) (hn : now.length = n) (ht0 : 0 ≤ w.tb) (hrows : now[w.tb.toNat]? = some rows) (hwr : 0 < w.row.length ∧ w.row.length ≤ 1000) (hbs : okBs (rows, hdV w.row)) (hV : V.length ≤ 100000)
  (hok : ∀ i, i ≤ rows.length → OkNow T V (now.set w.tb.toNat (insL rows i w.row))) :
  ∃ H' l, Cl Γ Mo.T 56 [.ptr p 0, .agg (enWi w)] H (errA (insS T V free now w).1, H', l) ∧ H'[q]? = some (.cells (tsC (insS T V free now w).2)) ∧ Onto q H H' := by
 have htl := (List.getElem?_eq_some_iff.1 hrows).1
 have htn : w.tb < ((n : Nat) : Int) := by omega
 obtain ⟨u0, hu⟩ : ∃ u0, w.row = u0 :: w.row.tail := by
  generalize w.row = row at hwr
  cases row with
  | nil => simp at hwr
  | cons a r => exact ⟨a, rfl⟩
 have hu0 : (List.map vV w.row)[0]? = some (.agg (enV u0)) := by rw [hu]; rfl
 have hr0 : (0 : Int) < ((List.map vV w.row).length : Int) := by simp; omega
 have hwl : w.row.length * 32 ≤ 140737488355328 := by omega
 have hhd : hdV w.row = u0 := by rw [hu]; rfl
 have hgd : now.getD w.tb.toNat [] = rows := by simp [List.getD_eq_getElem?_getD, hrows]
 have hrl := hbs.1
 simp only at hrl
 have hrl2 : rows.length * 24 ≤ 140737488355328 := by omega
 obtain ⟨_, _, hsp, _⟩ := bsK_spec hbs
 simp only at hsp
 obtain ⟨lf, hfind⟩ := find_cl u.toUnFd (H := (ap (ap H (enWi w)) [(.int .i64 0), .nils, .nils, (.int .i64 0)])) (ga (ga hp)) (ga (ga hq)) hn ht0 hrows (hhd ▸ hbs)
 have hinsS : insS T V free now w = if (bsK rows u0).2 then (6, now) else chS T V free now w.tb (insL rows (bsK rows u0).1 w.row) := by unfold insS; rw [hgd, hhd]
 rw [hhd] at hsp
 rw [hinsS]
 generalize (bsK rows u0).1 = ix at hfind hsp
 generalize (bsK rows u0).2 = bx at hfind hsp
 have hpl := glt hp
 have hqlt := glt hq
 have hqL : (List.length H) ≠ q := by omega
 have hqM : (List.length (ap H (enWi w))) ≠ q := by simp; omega
 cases bx with
 | true =>
  obtain ⟨l, h⟩ := (clV 1 (af := a56) (r := (.agg [(.int .i64 6), .nils, .nils, (.int .i64 0)])) (h' := (List.set (ap (ap (ap H (enWi w)) [(.int .i64 0), .nils, .nils, (.int .i64 0)]) [(.int .i64 u0.k), (.int .i64 u0.n), (.str u0.s)]) (List.length (ap H (enWi w))) (.cells [(.int .i64 6), .nils, .nils, (.int .i64 0)]))) [.w (.box (.c (.agg (enWi w)))) (.ptr H.length 0) (ap H (enWi w)) none, .w (.alloc [(.int .i64 0), .nils, .nils, (.int .i64 0)]) (.ptr (List.length (ap H (enWi w))) 0) (ap (ap H (enWi w)) [(.int .i64 0), .nils, .nils, (.int .i64 0)]) none, .f (.load none (.c (.ptr H.length 1))) (.int .i64 w.tb), .f (.load none (.c (.ptr H.length 8))) (.ro (w.row.map vV) 3 false), .p (3 = 3), .p ((0 : Int) ≤ 0), .p ((0 : Int) < (List.length (w.row.map vV) : Int)), .e (w.row.map vV) 0 (.agg (enV u0)), .r 93 [(.ptr p 0), (.int .i64 w.tb), (.agg (enV u0))] (.tup [(.int .i64 (ix : Int)), (.bool true)]) (ap (ap (ap H (enWi w)) [(.int .i64 0), .nils, .nils, (.int .i64 0)]) [(.int .i64 u0.k), (.int .i64 u0.n), (.str u0.s)]) lf, .w (.store 4 (.c (.ptr (List.length (ap H (enWi w))) 0)) (.c (.agg [(.int .i64 6), .nils, .nils, (.int .i64 0)]))) (.tup []) (List.set (ap (ap (ap H (enWi w)) [(.int .i64 0), .nils, .nils, (.int .i64 0)]) [(.int .i64 u0.k), (.int .i64 u0.n), (.str u0.s)]) (List.length (ap H (enWi w))) (.cells [(.int .i64 6), .nils, .nils, (.int .i64 0)])) (some (List.length (ap H (enWi w)))), .l (.load (some 4) (.c (.ptr (List.length (ap H (enWi w))) 0))) (.agg [(.int .i64 6), .nils, .nils, (.int .i64 0)])] [(.agg [(.int .i64 6), .nils, .nils, (.int .i64 0)])] u.n56 ⟨rfl, rfl, (ldV (ga gl)), (ldV (ga gl)), rfl, (by omega), hr0, hu0, hfind, (stK (ga gl)), (ldV (gset (ga gl))), trivial⟩ : ∃ l, Cl Γ Mo.T 56 [.ptr p 0, .agg (enWi w)] H (errA 6, _, l))
  refine ⟨_, l, h, ?_, ⟨by simp, fun i x hi hx => gne (by have := glt hx; simp; omega) (ga (ga (ga hx)))⟩⟩
  exact gne (by simp; omega) (ga (ga (ga hq)))
 | false =>
  have hch0 : ∀ {rows2 : List (List Val)} {G : List Blk}, OkNow T V (now.set w.tb.toNat rows2) → G[p]? = some (.cells (dbC T V free q n wv mv)) → G[q]? = some (.cells (tsC now)) → ∃ er K lk, Cl Γ Mo.T 94 [.ptr p 0, .int .i64 w.tb, bV rows2] G (errA er, K, lk) ∧ er = (chS T V free now w.tb rows2).1 ∧ K[q]? = some (.cells (tsC (chS T V free now w.tb rows2).2)) ∧ Onto q G K := by
   intro rows2 G ho h1 h2
   obtain ⟨e, K, lk, g1, g2, g3, g4⟩ := changed_cl u.toUnQ h1 h2 hqp hn ht0 hrows ho hV
   refine ⟨e, K, lk, g1, ?_, ?_, g4⟩
   ·rw [g2]; unfold chS; split <;> rfl
   ·rw [g3]; unfold chS; split <;> rfl
  by_cases hne : rows = []
  ·subst hne
   have hix : ix = 0 := by simpa using hsp.1
   subst hix
   obtain ⟨l95, h95⟩ := ins_e0 u.e95 (row := w.row) (vb := ((ap (ap (ap H (enWi w)) [(.int .i64 0), .nils, .nils, (.int .i64 0)]) [(.int .i64 u0.k), (.int .i64 u0.n), (.str u0.s)])).length) (H := (ap (ap (ap (ap H (enWi w)) [(.int .i64 0), .nils, .nils, (.int .i64 0)]) [(.int .i64 u0.k), (.int .i64 u0.n), (.str u0.s)]) [(.ro (List.map vV w.row) 3 false)])) gl
   have hil : insL [] 0 w.row = [w.row] := rfl
   obtain ⟨er, K, lk, hch, he, hKq, hO⟩ := hch0 (rows2 := [w.row]) (G := ((ap (ap (ap (ap H (enWi w)) [(.int .i64 0), .nils, .nils, (.int .i64 0)]) [(.int .i64 u0.k), (.int .i64 u0.n), (.str u0.s)]) [(.ro (List.map vV w.row) 3 false)]) ++ [.gone])) (hil ▸ hok 0 (by simp)) (ga (ga (ga (ga (ga hp))))) (ga (ga (ga (ga (ga hq)))))
   obtain ⟨l, h⟩ := (clV 1 (af := a56) (r := (.agg [(.int .i64 er), .nils, .nils, (.int .i64 0)])) (h' := (K.set (List.length (ap H (enWi w))) (.cells [(.int .i64 er), .nils, .nils, (.int .i64 0)]))) (.w (.box (.c (.agg (enWi w)))) (.ptr H.length 0) (ap H (enWi w)) none :: .w (.alloc [(.int .i64 0), .nils, .nils, (.int .i64 0)]) (.ptr (List.length (ap H (enWi w))) 0) (ap (ap H (enWi w)) [(.int .i64 0), .nils, .nils, (.int .i64 0)]) none :: .f (.load none (.c (.ptr H.length 1))) (.int .i64 w.tb) :: .f (.load none (.c (.ptr H.length 8))) (.ro (w.row.map vV) 3 false) :: .p (3 = 3) :: .p ((0 : Int) ≤ 0) :: .p ((0 : Int) < (List.length (w.row.map vV) : Int)) :: .e (w.row.map vV) 0 (.agg (enV u0)) :: .r 93 [(.ptr p 0), (.int .i64 w.tb), (.agg (enV u0))] (.tup [(.int .i64 0), (.bool false)]) (ap (ap (ap H (enWi w)) [(.int .i64 0), .nils, .nils, (.int .i64 0)]) [(.int .i64 u0.k), (.int .i64 u0.n), (.str u0.s)]) lf :: .p (stays evC (AOper.mk (some 22) (.load none (.c (.ptr H.length 1))) none 0 4) (.int .i64 w.tb) [(ap (ap (ap H (enWi w)) [(.int .i64 0), .nils, .nils, (.int .i64 0)]) [(.int .i64 u0.k), (.int .i64 u0.n), (.str u0.s)]), (ap (ap (ap H (enWi w)) [(.int .i64 0), .nils, .nils, (.int .i64 0)]) [(.int .i64 u0.k), (.int .i64 u0.n), (.str u0.s)]), (ap (ap (ap H (enWi w)) [(.int .i64 0), .nils, .nils, (.int .i64 0)]) [(.int .i64 u0.k), (.int .i64 u0.n), (.str u0.s)]), (ap (ap (ap (ap H (enWi w)) [(.int .i64 0), .nils, .nils, (.int .i64 0)]) [(.int .i64 u0.k), (.int .i64 u0.n), (.str u0.s)]) [(.ro (w.row.map vV) 3 false)]), ((ap (ap (ap (ap H (enWi w)) [(.int .i64 0), .nils, .nils, (.int .i64 0)]) [(.int .i64 u0.k), (.int .i64 u0.n), (.str u0.s)]) [(.ro (w.row.map vV) 3 false)]) ++ [.gone]), K, (K.set (List.length (ap H (enWi w))) (.cells [(.int .i64 er), .nils, .nils, (.int .i64 0)]))] = true) :: [.f (.load none (.c (.ptr H.length 1))) (.int .i64 w.tb), .f (.load none (.c (.ptr p 3))) (.sl q 1 0 n n true), .f (.load none (.c (.ptr H.length 1))) (.int .i64 w.tb), .p (1 = 1), .p ((0 : Int) ≤ w.tb), .p ((w.tb : Int) < ((n : Nat) : Int)), .f (.load none (.c (.ptr q (0 + (Int.toNat w.tb) * 1)))) (.ro [] 1 false), .r 90 [(.ro [] 1 false)] (.ro [] 1 true) (ap (ap (ap H (enWi w)) [(.int .i64 0), .nils, .nils, (.int .i64 0)]) [(.int .i64 u0.k), (.int .i64 u0.n), (.str u0.s)]) none, .p (stays evC (AOper.mk (some 34) (.load none (.c (.ptr H.length 8))) none 0 1) (.ro (w.row.map vV) 3 false) [(ap (ap (ap H (enWi w)) [(.int .i64 0), .nils, .nils, (.int .i64 0)]) [(.int .i64 u0.k), (.int .i64 u0.n), (.str u0.s)]), (ap (ap (ap H (enWi w)) [(.int .i64 0), .nils, .nils, (.int .i64 0)]) [(.int .i64 u0.k), (.int .i64 u0.n), (.str u0.s)]), (ap (ap (ap H (enWi w)) [(.int .i64 0), .nils, .nils, (.int .i64 0)]) [(.int .i64 u0.k), (.int .i64 u0.n), (.str u0.s)]), (ap (ap (ap (ap H (enWi w)) [(.int .i64 0), .nils, .nils, (.int .i64 0)]) [(.int .i64 u0.k), (.int .i64 u0.n), (.str u0.s)]) [(.ro (w.row.map vV) 3 false)]), ((ap (ap (ap (ap H (enWi w)) [(.int .i64 0), .nils, .nils, (.int .i64 0)]) [(.int .i64 u0.k), (.int .i64 u0.n), (.str u0.s)]) [(.ro (w.row.map vV) 3 false)]) ++ [.gone]), K, (K.set (List.length (ap H (enWi w))) (.cells [(.int .i64 er), .nils, .nils, (.int .i64 0)]))] = true), .f (.load none (.c (.ptr H.length 8))) (.ro (w.row.map vV) 3 false), .r 64 [(.ro (w.row.map vV) 3 false)] (.ro (w.row.map vV) 3 false) (ap (ap (ap H (enWi w)) [(.int .i64 0), .nils, .nils, (.int .i64 0)]) [(.int .i64 u0.k), (.int .i64 u0.n), (.str u0.s)]) none, .w (.buildSl [.nils] 1 [(0, (.c (.ro (w.row.map vV) 3 false)))]) (.sl (List.length (ap (ap (ap H (enWi w)) [(.int .i64 0), .nils, .nils, (.int .i64 0)]) [(.int .i64 u0.k), (.int .i64 u0.n), (.str u0.s)])) 1 0 1 1 true) (ap (ap (ap (ap H (enWi w)) [(.int .i64 0), .nils, .nils, (.int .i64 0)]) [(.int .i64 u0.k), (.int .i64 u0.n), (.str u0.s)]) [(.ro (w.row.map vV) 3 false)]) none, .r 95 [(.ro [] 1 true), (.int .i64 0), (.sl (List.length (ap (ap (ap H (enWi w)) [(.int .i64 0), .nils, .nils, (.int .i64 0)]) [(.int .i64 u0.k), (.int .i64 u0.n), (.str u0.s)])) 1 0 1 1 true)] (.ro (List.map rV [w.row]) 1 false) ((ap (ap (ap (ap H (enWi w)) [(.int .i64 0), .nils, .nils, (.int .i64 0)]) [(.int .i64 u0.k), (.int .i64 u0.n), (.str u0.s)]) [(.ro (w.row.map vV) 3 false)]) ++ [.gone]) l95, .r 94 [(.ptr p 0), (.int .i64 w.tb), (.ro (List.map rV [w.row]) 1 false)] (.agg [(.int .i64 er), .nils, .nils, (.int .i64 0)]) K lk, .w (.store 4 (.c (.ptr (List.length (ap H (enWi w))) 0)) (.c (.agg [(.int .i64 er), .nils, .nils, (.int .i64 0)]))) (.tup []) (K.set (List.length (ap H (enWi w))) (.cells [(.int .i64 er), .nils, .nils, (.int .i64 0)])) (some (List.length (ap H (enWi w)))), .l (.load (some 4) (.c (.ptr (List.length (ap H (enWi w))) 0))) (.agg [(.int .i64 er), .nils, .nils, (.int .i64 0)])]) [(.agg [(.int .i64 er), .nils, .nils, (.int .i64 0)])] u.n56 ⟨rfl, rfl, (ldV (ga gl)), (ldV (ga gl)), rfl, (by omega), hr0, hu0, hfind, (stays2 (by simp [eqv, eqvL]) (And.intro (ldV (ga (ga gl))) (And.intro (ldV (ga (ga gl))) (And.intro (ldV (ga (ga gl))) (And.intro (ldV (ga (ga (ga gl)))) (And.intro (ldV (ga (ga (ga (ga gl))))) trivial)))))), (ldV (ga (ga gl))), (ldV (ga (ga (ga hp)))), (ldV (ga (ga gl))), rfl, ht0, htn, (ld_now ht0 hrows (ga (ga (ga hq)))), (cloneM90_0 u.e90 _), (stays2 (eqv_roV w.row) (And.intro (ldV (ga (ga gl))) (And.intro (ldV (ga (ga gl))) trivial))), (ldV (ga (ga gl))), (clone64_e u.e64 w.row hwl _), rfl, h95, hch, (stK (hO.2 _ _ hqM (ga (ga (ga gl))))), (ldV (gset (hO.2 _ _ hqM (ga (ga (ga gl)))))), trivial⟩ : ∃ l, Cl Γ Mo.T 56 [.ptr p 0, .agg (enWi w)] H (errA er, _, l))
   refine ⟨_, l, he ▸ h, gne hqM hKq, ⟨?_, fun i x hi hx => gne (by have := glt hx; simp; omega) (hO.2 i x hi (ga (ga (ga (ga (ga hx))))))⟩⟩
   have := hO.1; simp at this ⊢; omega
  ·have hn0 : 0 < rows.length := List.length_pos_iff.2 hne
   obtain ⟨bb, hbb⟩ : ∃ bb, bb = ((ap (ap (ap H (enWi w)) [(.int .i64 0), .nils, .nils, (.int .i64 0)]) [(.int .i64 u0.k), (.int .i64 u0.n), (.str u0.s)])).length + 1 := ⟨_, rfl⟩
   have hbb2 : bb = H.length + 4 := by rw [hbb]; simp
   have hGb : ((ap (ap (ap (ap (ap (ap H (enWi w)) [(.int .i64 0), .nils, .nils, (.int .i64 0)]) [(.int .i64 u0.k), (.int .i64 u0.n), (.str u0.s)]) []) (List.map rV rows)) [(.ro (List.map vV w.row) 3 false)]))[bb]? = some (.cells (rows.map rV)) := by
    have e0 : (ap (ap (ap (ap H (enWi w)) [(.int .i64 0), .nils, .nils, (.int .i64 0)]) [(.int .i64 u0.k), (.int .i64 u0.n), (.str u0.s)]) []).length = ((ap (ap (ap H (enWi w)) [(.int .i64 0), .nils, .nils, (.int .i64 0)]) [(.int .i64 u0.k), (.int .i64 u0.n), (.str u0.s)])).length + 1 := by simp
    rw [hbb, ← e0]
    exact ga gl
   obtain ⟨l95, h95⟩ := ins_e u.e95 (rows := rows) (row := w.row) (i := ix) (b := bb) (vb := ((ap (ap (ap (ap (ap H (enWi w)) [(.int .i64 0), .nils, .nils, (.int .i64 0)]) [(.int .i64 u0.k), (.int .i64 u0.n), (.str u0.s)]) []) (List.map rV rows))).length) (H := (ap (ap (ap (ap (ap (ap H (enWi w)) [(.int .i64 0), .nils, .nils, (.int .i64 0)]) [(.int .i64 u0.k), (.int .i64 u0.n), (.str u0.s)]) []) (List.map rV rows)) [(.ro (List.map vV w.row) 3 false)])) hGb gl (by simp; omega) hn0 hrl hsp.1
   have hb_p : bb ≠ p := by omega
   have hb_q : bb ≠ q := by omega
   have hb_L : bb ≠ (List.length H) := by omega
   have hb_M : bb ≠ (List.length (ap H (enWi w))) := by simp; omega
   obtain ⟨er, K, lk, hch, he, hKq, hO⟩ := hch0 (rows2 := insL rows ix w.row) (G := (List.set (ap (ap (ap (ap (ap (ap H (enWi w)) [(.int .i64 0), .nils, .nils, (.int .i64 0)]) [(.int .i64 u0.k), (.int .i64 u0.n), (.str u0.s)]) []) (List.map rV rows)) [(.ro (List.map vV w.row) 3 false)]) bb .gone ++ [.gone])) (hok ix hsp.1) (ga (gne hb_p (ga (ga (ga (ga (ga (ga hp)))))))) (ga (gne hb_q (ga (ga (ga (ga (ga (ga hq))))))))
   obtain ⟨l, h⟩ := (clV 1 (af := a56) (r := (.agg [(.int .i64 er), .nils, .nils, (.int .i64 0)])) (h' := (K.set (List.length (ap H (enWi w))) (.cells [(.int .i64 er), .nils, .nils, (.int .i64 0)]))) (.w (.box (.c (.agg (enWi w)))) (.ptr H.length 0) (ap H (enWi w)) none :: .w (.alloc [(.int .i64 0), .nils, .nils, (.int .i64 0)]) (.ptr (List.length (ap H (enWi w))) 0) (ap (ap H (enWi w)) [(.int .i64 0), .nils, .nils, (.int .i64 0)]) none :: .f (.load none (.c (.ptr H.length 1))) (.int .i64 w.tb) :: .f (.load none (.c (.ptr H.length 8))) (.ro (w.row.map vV) 3 false) :: .p (3 = 3) :: .p ((0 : Int) ≤ 0) :: .p ((0 : Int) < (List.length (w.row.map vV) : Int)) :: .e (w.row.map vV) 0 (.agg (enV u0)) :: .r 93 [(.ptr p 0), (.int .i64 w.tb), (.agg (enV u0))] (.tup [(.int .i64 (ix : Int)), (.bool false)]) (ap (ap (ap H (enWi w)) [(.int .i64 0), .nils, .nils, (.int .i64 0)]) [(.int .i64 u0.k), (.int .i64 u0.n), (.str u0.s)]) lf :: .p (stays evC (AOper.mk (some 22) (.load none (.c (.ptr H.length 1))) none 0 4) (.int .i64 w.tb) [(ap (ap (ap H (enWi w)) [(.int .i64 0), .nils, .nils, (.int .i64 0)]) [(.int .i64 u0.k), (.int .i64 u0.n), (.str u0.s)]), (ap (ap (ap (ap (ap H (enWi w)) [(.int .i64 0), .nils, .nils, (.int .i64 0)]) [(.int .i64 u0.k), (.int .i64 u0.n), (.str u0.s)]) []) (rows.map rV)), (ap (ap (ap (ap (ap H (enWi w)) [(.int .i64 0), .nils, .nils, (.int .i64 0)]) [(.int .i64 u0.k), (.int .i64 u0.n), (.str u0.s)]) []) (rows.map rV)), (ap (ap (ap (ap (ap (ap H (enWi w)) [(.int .i64 0), .nils, .nils, (.int .i64 0)]) [(.int .i64 u0.k), (.int .i64 u0.n), (.str u0.s)]) []) (rows.map rV)) [(.ro (w.row.map vV) 3 false)]), (List.set (ap (ap (ap (ap (ap (ap H (enWi w)) [(.int .i64 0), .nils, .nils, (.int .i64 0)]) [(.int .i64 u0.k), (.int .i64 u0.n), (.str u0.s)]) []) (rows.map rV)) [(.ro (w.row.map vV) 3 false)]) bb .gone ++ [.gone]), K, (K.set (List.length (ap H (enWi w))) (.cells [(.int .i64 er), .nils, .nils, (.int .i64 0)]))] = true) :: [.f (.load none (.c (.ptr H.length 1))) (.int .i64 w.tb), .f (.load none (.c (.ptr p 3))) (.sl q 1 0 n n true), .f (.load none (.c (.ptr H.length 1))) (.int .i64 w.tb), .p (1 = 1), .p ((0 : Int) ≤ w.tb), .p ((w.tb : Int) < ((n : Nat) : Int)), .f (.load none (.c (.ptr q (0 + (Int.toNat w.tb) * 1)))) (.ro (rows.map rV) 1 false), .r 90 [(.ro (rows.map rV) 1 false)] (.sl bb 1 0 rows.length rows.length false) (ap (ap (ap (ap (ap H (enWi w)) [(.int .i64 0), .nils, .nils, (.int .i64 0)]) [(.int .i64 u0.k), (.int .i64 u0.n), (.str u0.s)]) []) (rows.map rV)) none, .p (stays evC (AOper.mk (some 34) (.load none (.c (.ptr H.length 8))) none 0 1) (.ro (w.row.map vV) 3 false) [(ap (ap (ap H (enWi w)) [(.int .i64 0), .nils, .nils, (.int .i64 0)]) [(.int .i64 u0.k), (.int .i64 u0.n), (.str u0.s)]), (ap (ap (ap (ap (ap H (enWi w)) [(.int .i64 0), .nils, .nils, (.int .i64 0)]) [(.int .i64 u0.k), (.int .i64 u0.n), (.str u0.s)]) []) (rows.map rV)), (ap (ap (ap (ap (ap H (enWi w)) [(.int .i64 0), .nils, .nils, (.int .i64 0)]) [(.int .i64 u0.k), (.int .i64 u0.n), (.str u0.s)]) []) (rows.map rV)), (ap (ap (ap (ap (ap (ap H (enWi w)) [(.int .i64 0), .nils, .nils, (.int .i64 0)]) [(.int .i64 u0.k), (.int .i64 u0.n), (.str u0.s)]) []) (rows.map rV)) [(.ro (w.row.map vV) 3 false)]), (List.set (ap (ap (ap (ap (ap (ap H (enWi w)) [(.int .i64 0), .nils, .nils, (.int .i64 0)]) [(.int .i64 u0.k), (.int .i64 u0.n), (.str u0.s)]) []) (rows.map rV)) [(.ro (w.row.map vV) 3 false)]) bb .gone ++ [.gone]), K, (K.set (List.length (ap H (enWi w))) (.cells [(.int .i64 er), .nils, .nils, (.int .i64 0)]))] = true), .fh (ap (ap (ap H (enWi w)) [(.int .i64 0), .nils, .nils, (.int .i64 0)]) [(.int .i64 u0.k), (.int .i64 u0.n), (.str u0.s)]) (.load none (.c (.ptr H.length 8))) (.ro (w.row.map vV) 3 false), .r 64 [(.ro (w.row.map vV) 3 false)] (.ro (w.row.map vV) 3 false) (ap (ap (ap (ap (ap H (enWi w)) [(.int .i64 0), .nils, .nils, (.int .i64 0)]) [(.int .i64 u0.k), (.int .i64 u0.n), (.str u0.s)]) []) (rows.map rV)) none, .w (.buildSl [.nils] 1 [(0, (.c (.ro (w.row.map vV) 3 false)))]) (.sl (List.length (ap (ap (ap (ap (ap H (enWi w)) [(.int .i64 0), .nils, .nils, (.int .i64 0)]) [(.int .i64 u0.k), (.int .i64 u0.n), (.str u0.s)]) []) (rows.map rV))) 1 0 1 1 true) (ap (ap (ap (ap (ap (ap H (enWi w)) [(.int .i64 0), .nils, .nils, (.int .i64 0)]) [(.int .i64 u0.k), (.int .i64 u0.n), (.str u0.s)]) []) (rows.map rV)) [(.ro (w.row.map vV) 3 false)]) none, .r 95 [(.sl bb 1 0 rows.length rows.length false), (.int .i64 (ix : Int)), (.sl (List.length (ap (ap (ap (ap (ap H (enWi w)) [(.int .i64 0), .nils, .nils, (.int .i64 0)]) [(.int .i64 u0.k), (.int .i64 u0.n), (.str u0.s)]) []) (rows.map rV))) 1 0 1 1 true)] (.ro (List.map rV (insL rows ix w.row)) 1 false) (List.set (ap (ap (ap (ap (ap (ap H (enWi w)) [(.int .i64 0), .nils, .nils, (.int .i64 0)]) [(.int .i64 u0.k), (.int .i64 u0.n), (.str u0.s)]) []) (rows.map rV)) [(.ro (w.row.map vV) 3 false)]) bb .gone ++ [.gone]) l95, .r 94 [(.ptr p 0), (.int .i64 w.tb), (.ro (List.map rV (insL rows ix w.row)) 1 false)] (.agg [(.int .i64 er), .nils, .nils, (.int .i64 0)]) K lk, .w (.store 4 (.c (.ptr (List.length (ap H (enWi w))) 0)) (.c (.agg [(.int .i64 er), .nils, .nils, (.int .i64 0)]))) (.tup []) (K.set (List.length (ap H (enWi w))) (.cells [(.int .i64 er), .nils, .nils, (.int .i64 0)])) (some (List.length (ap H (enWi w)))), .l (.load (some 4) (.c (.ptr (List.length (ap H (enWi w))) 0))) (.agg [(.int .i64 er), .nils, .nils, (.int .i64 0)])]) [(.agg [(.int .i64 er), .nils, .nils, (.int .i64 0)])] u.n56 ⟨rfl, rfl, (ldV (ga gl)), (ldV (ga gl)), rfl, (by omega), hr0, hu0, hfind, (stays2 (by simp [eqv, eqvL]) (And.intro (ldV (ga (ga gl))) (And.intro (ldV (ga (ga (ga (ga gl))))) (And.intro (ldV (ga (ga (ga (ga gl))))) (And.intro (ldV (ga (ga (ga (ga (ga gl)))))) (And.intro (ldV (ga (gne hb_L (ga (ga (ga (ga (ga gl)))))))) trivial)))))), (ldV (ga (ga gl))), (ldV (ga (ga (ga hp)))), (ldV (ga (ga gl))), rfl, ht0, htn, (ld_now ht0 hrows (ga (ga (ga hq)))), (cloneM90_e' u.e90 hne hrl2 hbb), (stays2 (eqv_roV w.row) (And.intro (ldV (ga (ga gl))) (And.intro (ldV (ga (ga (ga (ga gl))))) trivial))), (ldV (ga (ga gl))), (clone64_e u.e64 w.row hwl _), rfl, h95, hch, (stK (hO.2 _ _ hqM (ga (gne hb_M (ga (ga (ga (ga gl)))))))), (ldV (gset (hO.2 _ _ hqM (ga (gne hb_M (ga (ga (ga (ga gl))))))))), trivial⟩ : ∃ l, Cl Γ Mo.T 56 [.ptr p 0, .agg (enWi w)] H (errA er, _, l))
   refine ⟨_, l, he ▸ h, gne hqM hKq, ⟨?_, fun i x hi hx => gne (by have := glt hx; simp; omega) (hO.2 i x hi (ga (gne (by have := glt hx; omega) (ga (ga (ga (ga (ga (ga hx)))))))))⟩⟩
   have := hO.1; simp at this ⊢; omega
end
open Go
theorem own_fin {f : FuncId} {args : List AV} {H0 H2 H' : List Blk} {id N cap : Nat} {ex : Bool} {zs : List AV} {xs : List (List Val)} (hs : AMS Tryz.prog f args H0 (.sl id 1 0 N cap ex) H') (hz : H'[id]? = some (.cells zs)) (htk : zs.take N = xs.map rV) (hN : N = xs.length)
  (hlt : H'.length ≤ H2.length) (hfr : ∀ (j : Nat) (bl : Blk), H2[j]? = some bl → bl ≠ .gone → j ≠ id ∧ H'[j]? = some bl) : AMS Tryz.prog f args H0 (bV xs) H2 := by
 have hzl : N ≤ zs.length := by
  have := congrArg List.length htk
  rw [List.length_take, List.length_map] at this
  omega
 have hm : mapO (AM.frz (subB [id] H') 3) (xs.map rV) = some (xs.map rV) := by
  clear hs hz htk hN
  induction xs with
  | nil => rfl
  | cons a r ih => rw [List.map_cons, mapO, ih, frz_vs]
 have helts : elts 1 (xs.map rV) xs.length = xs.map rV := by
  have := elts_flat (st := 1) (es := lsR xs) (fun e he => (lsR_ok e he).1)
  rw [lsR_elt, List.length_map, flatL] at this
  exact this
 have hf : ∃ ex', AM.frz (subB [id] H') 4 (.sl id 1 0 N cap ex) = some (.ro (xs.map rV) 1 ex') := by
  by_cases h0 : N = 0
  ·have hx : xs = [] := List.length_eq_zero_iff.1 (hN ▸ h0)
   rw [AM.frz, if_pos h0, hx]
   by_cases hc : cap = 0
   ·rw [if_pos hc]; exact ⟨_, rfl⟩
   ·rw [if_neg hc]; exact ⟨_, rfl⟩
  ·rw [AM.frz, if_neg h0, subB_get hz (by simp)]
   simp only [Nat.zero_add, Nat.mul_one, List.drop_zero]
   rw [if_pos (by simp [hzl]), htk, hm, Option.bind_some, if_pos (all_one xs), hN, helts]
   exact ⟨_, rfl⟩
 obtain ⟨ex', hf⟩ := hf
 have h1 := (AMS.freezeR (subB_ok [id] H') (offB_ok [id] H') hf hs).cv ⟨rfl, fun i b' h => ⟨b', h, .refl _⟩⟩ Cv.ex
 refine h1.drop (by rw [offB_len]; exact hlt) fun j bl hj hg => ?_
 obtain ⟨h2, h3⟩ := hfr j bl hj hg
 exact offB_get h3 (by simpa using h2)
section
variable {G : List Blk} {b m n i j : Nat} {cs : List AV}
theorem del_cut {ex : Bool} (hn : n = m + 1) (hj : j = i + 1) (hi : i ≤ m) : pOp evC G (.slc 1 (.c (.sl b 1 0 n n ex)) (some (.c (.int .i64 (i : Int)))) (some (.c (.int .i64 (j : Int)))) (some (.c (.int .i64 (n : Int))))) = some (.sl b 1 i (j - i) (n - i) true) := by
 have a1 : (if (0 : Int) ≤ (n : Int) then some (Int.toNat (n : Int)) else none) = some n := by rw [if_pos (by omega)]; rfl
 have a2 : (if (0 : Int) ≤ (j : Int) then some (Int.toNat (j : Int)) else none) = some j := by rw [if_pos (by omega)]; rfl
 have a3 : (if (0 : Int) ≤ (i : Int) then some (Int.toNat (i : Int)) else none) = some i := by rw [if_pos (by omega)]; rfl
 simp only [pOp, evC, optNat, asNat, Option.map_some, a1, a2, a3, Option.bind_some, if_true, Nat.le_refl]
 rw [if_pos (by omega), if_pos (by omega), if_neg (by cases ex <;> simp; omega)]
 simp
theorem del_from {ex : Bool} (hn : n = m + 1) (hj : j = i + 1) (hi : i ≤ m) : pOp evC G (.slc 1 (.c (.sl b 1 0 n n ex)) (some (.c (.int .i64 (j : Int)))) none none) = some (.sl b 1 j (n - j) (n - j) ex) := sl_from (by omega) (Nat.le_refl _)
theorem del_last {ex : Bool} (hn : n = m + 1) : pOp evC G (.slc 1 (.c (.sl b 1 0 m n ex)) (some (.c (.int .i64 (m : Int)))) (some (.c (.int .i64 (n : Int)))) none) = some (.sl b 1 m 1 1 ex) := by
 have a2 : (if (0 : Int) ≤ (n : Int) then some (Int.toNat (n : Int)) else none) = some n := by rw [if_pos (by omega)]; rfl
 have a3 : (if (0 : Int) ≤ (m : Int) then some (Int.toNat (m : Int)) else none) = some m := by rw [if_pos (by omega)]; rfl
 simp only [pOp, evC, optNat, asNat, Option.map_some, Option.map_none, a2, a3, Option.bind_some, if_true, Nat.le_refl]
 rw [if_pos (by omega), show n - m = 1 by omega]
 simp
theorem del_app {ex : Bool} (hb : G[b]? = some (.cells cs)) (hl : cs.length = n) (hn : n = m + 1) (hj : j = i + 1) (hi : i < m) (h1 : cs.all AV.one = true) (hcl : m ≤ 1000000) :
  wOp evC G (.append 1 24 (.c (.sl b 1 0 i n ex)) (.c (.sl b 1 j (n - j) (n - j) ex))) = some (.sl b 1 0 m n ex, G.set b (.cells (splice cs i (cs.drop j))), some b) := by
 have hx : elems G 1 (.sl b 1 j (n - j) (n - j) ex) = some (cs.drop j) := by
  rw [sl_el hb (by omega), List.take_of_length_le (by simp; omega)]
 have hone : (cs.drop j).all AV.one = true := by
  rw [List.all_eq_true] at h1 ⊢
  exact fun v hv => h1 v (List.mem_of_mem_drop hv)
 have hnn : n - j ≠ 0 := by omega
 simp only [wOp, evC, lenOf, hx, if_neg hnn]
 rw [if_pos (by simp only [hone, Bool.and_true, decide_eq_true_eq, Bool.and_eq_true, true_and]; omega), if_pos (by omega)]
 simp only [wrCells, hb, Nat.zero_add, Nat.mul_one]
 rw [if_pos (by rw [hone]; simp; omega)]
 rw [show i + (n - j) = m by omega]
 rfl
theorem del_app0 {ex : Bool} (hj : j = n) : wOp evC G (.append 1 24 (.c (.sl b 1 0 m n ex)) (.c (.sl b 1 j (n - j) (n - j) ex))) = some (.sl b 1 0 m n ex, G, none) := by
 subst hj
 rw [Nat.sub_self]
 have hx : elems G 1 (.sl b 1 j 0 0 ex) = some [] := by simp [elems]
 simp only [wOp, evC, lenOf, hx, if_pos]
theorem del_clr {ex : Bool} (hb : G[b]? = some (.cells cs)) (hl : cs.length = m + 1) : wOp evC G (.clear [.nils] (.c (.sl b 1 m 1 1 ex))) = some (.tup [], G.set b (.cells (splice cs m [.nils])), some b) := by
 simp only [wOp, evC, List.length_singleton, if_pos, Nat.one_ne_zero, if_false, List.replicate_one, List.flatten_cons, List.flatten_nil, List.append_nil, wrCells, hb]
 rw [if_pos (by simp [hl]; rfl)]
 rfl
theorem spl_take {zs : List AV} {x : AV} (h : m ≤ zs.length) : (splice zs m [x]).take m = zs.take m := by
 unfold splice
 exact List.take_left' (by simp; omega)
theorem spl_del (hl : cs.length = m + 1) (hi : i ≤ m) : (splice cs i (cs.drop (i + 1))).take m = cs.eraseIdx i := by
 unfold splice
 rw [← List.append_assoc, List.eraseIdx_eq_take_drop_succ]
 exact List.take_left' (by simp; omega)
end
theorem spl_len2 {cs : List AV} {m i : Nat} (hl : cs.length = m + 1) (hi : i ≤ m) : (splice cs i (List.drop (i + 1) cs)).length = m + 1 := by
 unfold splice
 simp only [List.length_append, List.length_take, List.length_drop]
 omega
theorem del_cl {G : List Blk} {b m n i j : Nat} {cs : List AV} (hb : G[b]? = some (.cells cs)) (hl : cs.length = n) (hn : n = m + 1) (hj : j = i + 1) (hi : i ≤ m) (h1 : cs.all AV.one = true) (hcl : m ≤ 1000000) :
  ∃ zs lo, Cl GK Mo.T 96 [(.sl b 1 0 n n false), (.int .i64 (i : Int)), (.int .i64 (j : Int))] G (.sl b 1 0 m n false, G.set b (.cells zs), lo) ∧ zs.take m = cs.eraseIdx i := by
 by_cases him : i < m
 ·obtain ⟨lo, h⟩ := (clV 1 (af := a96) (r := (.sl b 1 0 m n false)) (h' := (List.set (G.set b (.cells (splice cs i (List.drop j cs)))) b (.cells (splice (splice cs i (List.drop j cs)) m [.nils])))) [.f (.slc 1 (.c (.sl b 1 0 n n false)) (some (.c (.int .i64 (i : Int)))) (some (.c (.int .i64 (j : Int)))) (some (.c (.int .i64 (n : Int))))) (.sl b 1 i (j - i) (n - i) true), .b ((i : Int) == (j : Int)) false, .f (.slc 1 (.c (.sl b 1 0 n n false)) none (some (.c (.int .i64 (i : Int)))) none) (.sl b 1 0 i n false), .f (.slc 1 (.c (.sl b 1 0 n n false)) (some (.c (.int .i64 (j : Int)))) none none) (.sl b 1 j (n - j) (n - j) false), .w (.append 1 24 (.c (.sl b 1 0 i n false)) (.c (.sl b 1 j (n - j) (n - j) false))) (.sl b 1 0 m n false) (G.set b (.cells (splice cs i (List.drop j cs)))) (some b), .f (.slc 1 (.c (.sl b 1 0 m n false)) (some (.c (.int .i64 (m : Int)))) (some (.c (.int .i64 (n : Int)))) none) (.sl b 1 m 1 1 false), .w (.clear [.nils] (.c (.sl b 1 m 1 1 false))) (.tup []) (List.set (G.set b (.cells (splice cs i (List.drop j cs)))) b (.cells (splice (splice cs i (List.drop j cs)) m [.nils]))) (some b)] [] (by kernel_rfl) ⟨(del_cut hn hj hi), (cN (by omega)), (sl_to (by omega)), (del_from hn hj hi), (del_app hb hl hn hj him h1 hcl), (del_last hn), (del_clr (gset hb) (by rw [hj]; exact spl_len2 (hl.trans hn) hi)), trivial⟩ : ∃ lo, Cl GK Mo.T 96 [(.sl b 1 0 n n false), (.int .i64 (i : Int)), (.int .i64 (j : Int))] G (_, _, lo))
  refine ⟨splice (splice cs i (cs.drop j)) m [.nils], lo, ?_, ?_⟩
  ·rw [List.set_set] at h
   exact h
  ·rw [hj, spl_take (by rw [spl_len2 (hl.trans hn) hi]; omega), spl_del (hl.trans hn) hi]
 ·have him : i = m := by omega
  obtain rfl := him
  obtain ⟨lo, h⟩ := (clV 1 (af := a96) (r := (.sl b 1 0 i n false)) (h' := (G.set b (.cells (splice cs i [.nils])))) [.f (.slc 1 (.c (.sl b 1 0 n n false)) (some (.c (.int .i64 (i : Int)))) (some (.c (.int .i64 (j : Int)))) (some (.c (.int .i64 (n : Int))))) (.sl b 1 i (j - i) (n - i) true), .b ((i : Int) == (j : Int)) false, .f (.slc 1 (.c (.sl b 1 0 n n false)) none (some (.c (.int .i64 (i : Int)))) none) (.sl b 1 0 i n false), .f (.slc 1 (.c (.sl b 1 0 n n false)) (some (.c (.int .i64 (j : Int)))) none none) (.sl b 1 j (n - j) (n - j) false), .w (.append 1 24 (.c (.sl b 1 0 i n false)) (.c (.sl b 1 j (n - j) (n - j) false))) (.sl b 1 0 i n false) G none, .f (.slc 1 (.c (.sl b 1 0 i n false)) (some (.c (.int .i64 (i : Int)))) (some (.c (.int .i64 (n : Int)))) none) (.sl b 1 i 1 1 false), .w (.clear [.nils] (.c (.sl b 1 i 1 1 false))) (.tup []) (G.set b (.cells (splice cs i [.nils]))) (some b)] [] (by kernel_rfl) ⟨(del_cut hn hj hi), (cN (by omega)), (sl_to (by omega)), (del_from hn hj hi), (del_app0 (by omega)), (del_last hn), (del_clr hb (by omega)), trivial⟩ : ∃ lo, Cl GK Mo.T 96 [(.sl b 1 0 n n false), (.int .i64 (i : Int)), (.int .i64 (j : Int))] G (_, _, lo))
  refine ⟨splice cs i [.nils], lo, h, ?_⟩
  rw [spl_take (by omega), List.eraseIdx_eq_take_drop_succ, show cs.drop (i + 1) = [] from List.drop_of_length_le (by omega), List.append_nil]
theorem del_ams {rows : List (List Val)} {b i : Nat} {H : List Blk} (hb : H[b]? = some (.cells (rows.map rV))) (hi : i < rows.length) (hcl : rows.length ≤ 1000000) :
  AMS Tryz.prog 96 [.sl b 1 0 rows.length rows.length false, .int .i64 (i : Int), .int .i64 ((i + 1 : Nat) : Int)] H (bV (rows.eraseIdx i)) (H.set b .gone) := by
 obtain ⟨m, hm⟩ : ∃ m, rows.length = m + 1 := ⟨rows.length - 1, by omega⟩
 rw [hm]
 obtain ⟨zs, lo, h, ht⟩ := del_cl (j := i + 1) hb (by simpa using hm) rfl rfl (i := i) (by omega) (all_one rows) (by omega)
 have ha := Cl.ams KK h (by kernel_rfl)
 refine own_fin ha (gset hb) (xs := rows.eraseIdx i) ?_ ?_ (by simp) fun j bl hj hg => ?_
 ·rw [ht]; rw [List.eraseIdx_eq_take_drop_succ, List.eraseIdx_eq_take_drop_succ, List.map_append, List.map_take, List.map_drop]
 ·rw [List.length_eraseIdx, if_pos hi]; omega
 ·by_cases hjb : j = b
  ·subst hjb
   rw [List.getElem?_set_self (glt hb)] at hj
   cases hj
   exact absurd rfl hg
  ·rw [List.getElem?_set_ne (Ne.symm hjb)] at hj
   exact ⟨hjb, gne (Ne.symm hjb) hj⟩
def DD (args : List AV) (h : List Blk) (r : AV) (h' : List Blk) : Prop :=
 ∃ (rows : List (List Val)) (i b : Nat), args = [.sl b 1 0 rows.length rows.length false, .int .i64 (i : Int), .int .i64 ((i + 1 : Nat) : Int)] ∧ h[b]? = some (.cells (rows.map rV)) ∧ r = bV (rows.eraseIdx i) ∧ h' = h.set b .gone
theorem del_e {Γ : FuncId → Option GF} (hg : Γ 96 = some (anyG Tryz.prog 96 DD)) {rows : List (List Val)} {b i : Nat} {H : List Blk} (hb : H[b]? = some (.cells (rows.map rV))) (hi : i < rows.length) (hcl : rows.length ≤ 1000000) :
  ∃ lo, Cl Γ Mo.T 96 [.sl b 1 0 rows.length rows.length false, .int .i64 (i : Int), .int .i64 ((i + 1 : Nat) : Int)] H (bV (rows.eraseIdx i), H.set b .gone, lo) := by
 obtain ⟨r, h', lo, ⟨rows', i', b', h1, h2, rfl, rfl⟩, hc⟩ := anyG_cl (Γ := Γ) (tbl := Mo.T) hg ⟨rows, i, b, rfl, hb, rfl, rfl⟩ (del_ams hb hi hcl) (by simp)
 simp only [List.cons.injEq, AV.sl.injEq, AV.int.injEq, true_and, and_true] at h1
 obtain ⟨⟨rfl, _⟩, h4, _⟩ := h1
 have h4 : i = i' := by omega
 subst h4
 rw [hb] at h2
 simp only [Option.some.injEq, Blk.cells.injEq] at h2
 have := map_inj rV_inj h2
 subst this
 exact ⟨lo, hc⟩
def slId : AV → Option Nat
 | .sl b _ _ _ _ _ => some b
 | _ => none
def ownB (h : List Blk) (x : AV) : List Nat := match slId x with
 | some b => b :: (match h[b]? with | some (.cells cs) => cs.filterMap slId | _ => [])
 | none => []
def TR (h : List Blk) (x : AV) (rows : List (List Val)) : Prop := AM.frz (subB (ownB h x) h) 6 x = some (bV rows)
def CC (args : List AV) (h : List Blk) (r : AV) (h' : List Blk) : Prop :=
 ∃ (T : List (List Int)) (V : List Vw) (free : Bool) (p q n : Nat) (wv mv : AV) (now : Tabs) (t : Int) (rows : List (List Val)) (x : AV),
  args = [.ptr p 0, .int .i64 t, x] ∧ h[p]? = some (.cells (dbC T V free q n wv mv)) ∧ h[q]? = some (.cells (tsC now)) ∧ TR h x rows ∧
  r = errA (chS T V free now t rows).1 ∧ h'[q]? = some (.cells (tsC (chS T V free now t rows).2)) ∧ h.length ≤ h'.length ∧ ∀ (i : Nat) (y : Blk), i ≠ q → i ∉ ownB h x → h[i]? = some y → h'[i]? = some y
noncomputable def gam11 : List (Nat × GF) := (118, pureG g118) :: (98, pureG g98) :: (148, pureG g148) :: (149, pureG g149) :: gam10
open Go
theorem K11 : Known (gGet gam11) tree.get Tryz.prog := known_of (by kernel_rfl) ⟨bs_ok, read_ok, views_ok, con_ok, ov1_ok, wish_ok, clone64_ok, clone90_ok, isVal_ok, view_ok, grp_ok, tot_ok, adt_ok, fit_ok, code_ok, int_ok, of_ok, add_ok, cmp_ok, good_ok, xSub_ok, xAdd_ok, trivial⟩ all
noncomputable abbrev G11 : FuncId → Option GF := gGet gam11
theorem u11 : UnQ G11 := { n97 := by kernel_rfl, n58 := by kernel_rfl, n25 := by kernel_rfl, e120 := by kernel_rfl, e64 := by kernel_rfl, e66 := by kernel_rfl, n59 := by kernel_rfl, e98 := by kernel_rfl, n121 := by kernel_rfl, n94 := by kernel_rfl, e148 := by kernel_rfl, e149 := by kernel_rfl }
theorem chg_e {Γ : FuncId → Option GF} (hg : Γ 94 = some (anyG Tryz.prog 94 CC)) {T : List (List Int)} {V : List Vw} {free : Bool} {p q n : Nat} {wv mv : AV} {now : Tabs} {t : Int} {rows1 rows : List (List Val)} {x : AV} {H : List Blk} (hp : H[p]? = some (.cells (dbC T V free q n wv mv))) (hq : H[q]? = some (.cells (tsC now))) (hqp : q ≠ p) (hn : now.length = n) (ht0 : 0 ≤ t) (hrows : now[t.toNat]? = some rows1) (hok : OkNow T V (now.set t.toNat rows)) (hV : V.length ≤ 100000) (hx : TR H x rows) (hpB : p ∉ ownB H x) (hqB : q ∉ ownB H x) :
  ∃ er K lk, Cl Γ Mo.T 94 [.ptr p 0, .int .i64 t, x] H (errA er, K, lk) ∧ er = (chS T V free now t rows).1 ∧ K[q]? = some (.cells (tsC (chS T V free now t rows).2)) ∧ H.length ≤ K.length ∧ ∀ (i : Nat) (y : Blk), i ≠ q → i ∉ ownB H x → H[i]? = some y → K[i]? = some y := by
 obtain ⟨e, K, lk, g1, g2, g3, g4⟩ := changed_cl u11 (offB_get hp hpB) (offB_get hq hqB) hqp hn ht0 hrows hok hV
 have ha := AMS.freezeA (k := 6) (args := [.ptr p 0, .int .i64 t, x]) (subB_ok (ownB H x) H) (offB_ok (ownB H x) H) (.cons (.inl rfl) (.cons (.inl rfl) (.cons (.inr hx) .nil))) (Cl.ams K11 g1 (by kernel_rfl))
 have e1 : e = (chS T V free now t rows).1 := by rw [g2]; unfold chS; split <;> rfl
 have hl : H.length ≤ K.length := by rw [← offB_len (ownB H x) H]; exact g4.1
 have hI : CC [.ptr p 0, .int .i64 t, x] H (errA e) K := ⟨T, V, free, p, q, n, wv, mv, now, t, rows, x, rfl, hp, hq, hx, by rw [e1], by rw [g3]; unfold chS; split <;> rfl, hl, fun i y hi hB h => g4.2 i y hi (offB_get h hB)⟩
 obtain ⟨r, h', lo, ⟨T', V', free', p', q', n', wv', mv', now', t', rows', x', h1, h2, h3, h4, rfl, h6, h7, h8⟩, hc⟩ := anyG_cl (Γ := Γ) (tbl := Mo.T) hg hI ha hl
 simp only [List.cons.injEq, AV.ptr.injEq, AV.int.injEq, true_and, and_true] at h1
 obtain ⟨rfl, rfl, rfl⟩ := h1
 rw [hp] at h2
 simp only [Option.some.injEq, Blk.cells.injEq, dbC, List.cons.injEq, AV.ro.injEq, AV.bool.injEq, AV.sl.injEq, and_true, true_and] at h2
 obtain ⟨hT, hV', rfl, ⟨rfl, _, _⟩, _, _⟩ := h2
 have hT := map_inj tV_inj hT
 have hV' := map_inj vwV_inj hV'
 subst hT hV'
 rw [hq] at h3
 simp only [Option.some.injEq, Blk.cells.injEq] at h3
 have := map_inj bV_inj h3
 subst this
 unfold TR at h4 hx
 rw [hx] at h4
 have := bV_inj _ _ (Option.some.inj h4)
 subst this
 exact ⟨_, h', lo, hc, rfl, h6, h7, h8⟩
theorem own_ro (H : List Blk) (rows : List (List Val)) (i : Nat) : i ∉ ownB H (bV rows) := by simp [ownB, slId]
theorem TR_ro (H : List Blk) (rows : List (List Val)) : TR H (bV rows) rows := frz_bs rows
theorem mapO_of {f : AV → Option AV} : ∀ {l r : List AV}, l.length = r.length → (∀ (i : Nat) (x y : AV), l[i]? = some x → r[i]? = some y → f x = some y) → mapO f l = some r
 | [], [], _, _ => rfl
 | x :: l, y :: r, hl, h => by
  rw [mapO, h 0 x y rfl rfl, mapO_of (l := l) (r := r) (by simpa using hl) fun i a b ha hb => h (i + 1) a b ha hb]
theorem own_set {H : List Blk} {bb rb i n m c : Nat} {rows : List (List Val)} {ex e2 : Bool} (hb : H[bb]? = some (.cells ((rows.map rV).set i (.sl rb 3 0 m m ex)))) (hi : i < rows.length) : (∀ j, j ∈ ownB H (.sl bb 1 0 n c e2) ↔ j = bb ∨ j = rb) := by
 intro j
 simp only [ownB, slId, hb, List.mem_cons, List.mem_filterMap]
 constructor
 ·rintro (h | ⟨v, hv, hj⟩)
  ·exact .inl h
  ·rcases List.mem_or_eq_of_mem_set hv with h | rfl
   ·obtain ⟨r, _, rfl⟩ := List.mem_map.1 h
    cases hj
   ·cases hj; exact .inr rfl
 ·rintro (h | rfl)
  ·exact .inl h
  ·exact .inr ⟨.sl j 3 0 m m ex, List.mem_iff_getElem?.2 ⟨i, List.getElem?_set_self (by simpa using hi)⟩, rfl⟩
theorem TR_set {H : List Blk} {bb rb i m n : Nat} {rows : List (List Val)} {row : List Val} (hb : H[bb]? = some (.cells ((rows.map rV).set i (.sl rb 3 0 m m false)))) (hr : H[rb]? = some (.cells (lsV row).flatten)) (hi : i < rows.length) (hn : n = rows.length) (hm : m = row.length) (hm0 : 0 < m) : TR H (.sl bb 1 0 n n false) (rows.set i row) := by
 unfold TR
 subst hn hm
 have hbB := subB_get hb ((own_set (n := rows.length) (c := rows.length) (e2 := false) hb hi bb).2 (.inl rfl))
 have hrB := subB_get hr ((own_set (n := rows.length) (c := rows.length) (e2 := false) hb hi rb).2 (.inr rfl))
 generalize subB _ H = F at hbB hrB
 have hrow : AM.frz F 5 (.sl rb 3 0 row.length row.length false) = some (rV row) := by
  have hl : (lsV row).flatten.length = row.length * 3 := by
   have := flatn_len (st := 3) (es := lsV row) fun e he => (lsV_ok e he).1
   simpa using this
  have hall : (lsV row).flatten.all AV.one = true := by
   rw [List.all_eq_true]
   intro v hv
   obtain ⟨e, he, hv⟩ := List.mem_flatten.1 hv
   exact List.all_eq_true.1 (lsV_ok e he).2 v hv
  have hm : mapO (AM.frz F 4) (lsV row).flatten = some (lsV row).flatten := mapO_flat rfl fun i e e' h1 h2 => by
   rw [h1] at h2
   cases h2
   exact lsV_frz (n := 3) e (List.mem_of_getElem? h1)
  have helts : elts 3 (lsV row).flatten row.length = row.map vV := by
   have := elts_flat (st := 3) (es := lsV row) (fun e he => (lsV_ok e he).1)
   rw [lsV_elt] at this
   simpa using this
  rw [AM.frz, if_neg (by omega), hrB]
  simp only [Nat.zero_add, List.drop_zero]
  rw [if_pos (by simp [hl]), List.take_of_length_le (by omega), hm, Option.bind_some, if_pos hall, helts]
  rfl
 have hm2 : mapO (AM.frz F 5) ((rows.map rV).set i (.sl rb 3 0 row.length row.length false)) = some ((rows.set i row).map rV) := by
  refine mapO_of (by simp) fun j x y hx hy => ?_
  by_cases hj : i = j
  ·subst hj
   rw [List.getElem?_set_self (by simpa using hi)] at hx
   rw [List.getElem?_map, List.getElem?_set_self hi] at hy
   cases hx; cases hy
   exact hrow
  ·rw [List.getElem?_set_ne hj] at hx
   rw [List.getElem?_map, List.getElem?_set_ne hj, ← List.getElem?_map, hx] at hy
   cases hy
   obtain ⟨r, _, rfl⟩ := List.mem_map.1 (List.mem_of_getElem? hx)
   exact frz_vs (n := 2) r
 have helts : elts 1 ((rows.set i row).map rV) rows.length = (rows.set i row).map rV := by
  have := elts_flat (st := 1) (es := lsR (rows.set i row)) (fun e he => (lsR_ok e he).1)
  rw [lsR_elt, List.length_map, flatL, List.length_set] at this
  exact this
 rw [AM.frz, if_neg (by omega), hbB]
 simp only [Nat.zero_add, Nat.mul_one, List.drop_zero]
 rw [if_pos (by simp), List.take_of_length_le (by simp), hm2, Option.bind_some, if_pos (all_one _), helts]
 rfl
theorem stX {G : List Blk} {b k : Nat} {cs : List AV} {v : AV} (hb : G[b]? = some (.cells cs)) (hk : k < cs.length) (h1 : v.cells = [v]) (h2 : v.one = true) : wOp evC G (.store 1 (.c (.ptr b (0 + Int.toNat (k : Int) * 1))) (.c v)) = some (.tup [], G.set b (.cells (cs.set k v)), some b) := by
 rw [stC hb (by rw [h1]; rfl) (Nat.ble_eq_true_of_le (by simp; omega)) (by rw [h1]; simp [h2])]
 have hs : splice cs (0 + Int.toNat (k : Int) * 1) v.cells = cs.set k v := by
  rw [h1, splice, List.set_eq_take_append_cons_drop, if_pos hk]
  simp
 rw [hs]
theorem splFlat {ls : List (List AV)} {k : Nat} {e : List AV} (h : ∀ x ∈ ls, x.length = 3) (he : e.length = 3) (hk : k < ls.length) : splice ls.flatten (k * 3) e = (ls.set k e).flatten := by
 rw [List.set_eq_take_append_cons_drop, if_pos hk, List.flatten_append, List.flatten_cons]
 have l1 : (ls.take k).flatten.length = k * 3 := by
  have := flatn_len (st := 3) (es := ls.take k) fun x hx => h x (List.mem_of_mem_take hx)
  rw [this, List.length_take, Nat.min_eq_left (by omega)]
 have l2 : (ls.take (k + 1)).flatten.length = k * 3 + 3 := by
  have := flatn_len (st := 3) (es := ls.take (k + 1)) fun x hx => h x (List.mem_of_mem_take hx)
  rw [this, List.length_take, Nat.min_eq_left (by omega)]
  omega
 have e1 : ls.flatten = (ls.take k).flatten ++ (ls.drop k).flatten := by rw [← List.flatten_append, List.take_append_drop]
 have e2 : ls.flatten = (ls.take (k + 1)).flatten ++ (ls.drop (k + 1)).flatten := by rw [← List.flatten_append, List.take_append_drop]
 unfold splice
 rw [he]
 conv => lhs; arg 1; rw [e1]
 conv => lhs; arg 2; arg 2; rw [e2]
 rw [List.take_left' l1, List.drop_left' l2]
theorem stV {G : List Blk} {b : Nat} {c : Int} {row : List Val} {v : Val} (hb : G[b]? = some (.cells (lsV row).flatten)) (h0 : 0 ≤ c) (hc : c < (row.length : Int)) : wOp evC G (.store 3 (.c (.ptr b (0 + Int.toNat c * 3))) (.c (.agg (enV v)))) = some (.tup [], G.set b (.cells (lsV (row.set c.toNat v)).flatten), some b) := by
 have hl : (lsV row).flatten.length = row.length * 3 := by
  have := flatn_len (st := 3) (es := lsV row) fun e he => (lsV_ok e he).1
  simpa using this
 rw [stC (n := 3) hb rfl (Nat.ble_eq_true_of_le (by rw [hl]; omega)) rfl]
 have hs : splice (lsV row).flatten (0 + Int.toNat c * 3) (AV.agg (enV v)).cells = (lsV (row.set c.toNat v)).flatten := by
  rw [Nat.zero_add]
  have := splFlat (ls := lsV row) (k := c.toNat) (e := enV v) (fun e he => (lsV_ok e he).1) rfl (by simp; omega)
  have e3 : (lsV row).set c.toNat (enV v) = lsV (row.set c.toNat v) := by simp only [lsV, List.map_set]
  rw [show (AV.agg (enV v)).cells = enV v from rfl, this, e3]
 rw [hs]
theorem cloneM64_e' {Γ : FuncId → Option GF} (hg : Γ 64 = some g64m) {row : List Val} (hne : row ≠ []) (hl : row.length * 32 ≤ 140737488355328) {H : List Blk} {b : Nat} (hb : b = H.length + 1) : Cl Γ Mo.T 64 [.ro (row.map vV) 3 false] H (.sl b 3 0 row.length row.length false, ap (ap H []) (lsV row).flatten, none) := by
 have := cloneM64_e hg hne hl H
 simp only [bSl, List.length_map] at this
 rw [hb]
 exact this
noncomputable def cgS (T : List (List Int)) (V : List Vw) (free : Bool) (now : Tabs) (w : Wi) : Int × Tabs :=
 if (bsK (now.getD w.tb.toNat []) w.key).2 then chS T V free now w.tb (if w.kd = 2 then (now.getD w.tb.toNat []).eraseIdx (bsK (now.getD w.tb.toNat []) w.key).1 else (now.getD w.tb.toNat []).set (bsK (now.getD w.tb.toNat []) w.key).1 (((now.getD w.tb.toNat []).getD (bsK (now.getD w.tb.toNat []) w.key).1 []).set w.cl.toNat w.vl)) else (7, now)
structure UnC (Γ : FuncId → Option GF) : Prop extends UnFd Γ where
 n57 : Γ 57 = none
 e64 : Γ 64 = some g64m
 e90 : Γ 90 = some g90m
 e94 : Γ 94 = some (anyG Tryz.prog 94 CC)
 e96 : Γ 96 = some (anyG Tryz.prog 96 DD)
section
variable {Γ : FuncId → Option GF} (u : UnC Γ)
include u
theorem change_cl {T : List (List Int)} {V : List Vw} {free : Bool} {p q n : Nat} {wv mv : AV} {now : Tabs} {w : Wi} {rows : List (List Val)} {H : List Blk} (hp : H[p]? = some (.cells (dbC T V free q n wv mv))) (hq : H[q]? = some (.cells (tsC now))) (hqp : q ≠ p) (hn : now.length = n) (ht0 : 0 ≤ w.tb) (hrows : now[w.tb.toNat]? = some rows) (hbs : okBs (rows, w.key)) (hV : V.length ≤ 100000)
  (hcl : w.kd ≠ 2 → ∀ r ∈ rows, 0 ≤ w.cl ∧ w.cl < (r.length : Int) ∧ r.length ≤ 1000)
  (hok : ∀ i row, rows[i]? = some row → OkNow T V (now.set w.tb.toNat (if w.kd = 2 then rows.eraseIdx i else rows.set i (row.set w.cl.toNat w.vl)))) :
  ∃ H' l, Cl Γ Mo.T 57 [.ptr p 0, .agg (enWi w)] H (errA (cgS T V free now w).1, H', l) ∧ H'[q]? = some (.cells (tsC (cgS T V free now w).2)) ∧ Onto q H H' := by
 have htl := (List.getElem?_eq_some_iff.1 hrows).1
 have htn : w.tb < ((n : Nat) : Int) := by omega
 have hgd : now.getD w.tb.toNat [] = rows := by simp [List.getD_eq_getElem?_getD, hrows]
 have hrl := hbs.1
 simp only at hrl
 have hrl2 : rows.length * 24 ≤ 140737488355328 := by omega
 obtain ⟨_, _, hsp, _⟩ := bsK_spec hbs
 simp only at hsp
 obtain ⟨lf, hfind⟩ := find_cl u.toUnFd (H := (ap (ap H (enWi w)) [(.int .i64 0), .nils, .nils, (.int .i64 0)])) (ga (ga hp)) (ga (ga hq)) hn ht0 hrows hbs
 have hcS : cgS T V free now w = if (bsK rows w.key).2 then chS T V free now w.tb (if w.kd = 2 then rows.eraseIdx (bsK rows w.key).1 else rows.set (bsK rows w.key).1 ((rows.getD (bsK rows w.key).1 []).set w.cl.toNat w.vl)) else (7, now) := by unfold cgS; rw [hgd]
 rw [hcS]
 generalize (bsK rows w.key).1 = ix at hfind hsp
 generalize (bsK rows w.key).2 = bx at hfind hsp
 have hpl := glt hp
 have hqlt := glt hq
 have hqL : (List.length H) ≠ q := by omega
 have hqM : (List.length (ap H (enWi w))) ≠ q := by simp; omega
 cases bx with
 | false =>
  obtain ⟨l, h⟩ := (clV 1 (af := a57) (r := (.agg [(.int .i64 7), .nils, .nils, (.int .i64 0)])) (h' := (List.set (ap (ap (ap H (enWi w)) [(.int .i64 0), .nils, .nils, (.int .i64 0)]) [(.int .i64 w.key.k), (.int .i64 w.key.n), (.str w.key.s)]) (List.length (ap H (enWi w))) (.cells [(.int .i64 7), .nils, .nils, (.int .i64 0)]))) [.w (.box (.c (.agg (enWi w)))) (.ptr H.length 0) (ap H (enWi w)) none, .w (.alloc [(.int .i64 0), .nils, .nils, (.int .i64 0)]) (.ptr (List.length (ap H (enWi w))) 0) (ap (ap H (enWi w)) [(.int .i64 0), .nils, .nils, (.int .i64 0)]) none, .f (.load none (.c (.ptr H.length 1))) (.int .i64 w.tb), .f (.load (some 3) (.c (.ptr H.length 2))) (.agg (enV w.key)), .r 93 [(.ptr p 0), (.int .i64 w.tb), (.agg (enV w.key))] (.tup [(.int .i64 (ix : Int)), (.bool false)]) (ap (ap (ap H (enWi w)) [(.int .i64 0), .nils, .nils, (.int .i64 0)]) [(.int .i64 w.key.k), (.int .i64 w.key.n), (.str w.key.s)]) lf, .w (.store 4 (.c (.ptr (List.length (ap H (enWi w))) 0)) (.c (.agg [(.int .i64 7), .nils, .nils, (.int .i64 0)]))) (.tup []) (List.set (ap (ap (ap H (enWi w)) [(.int .i64 0), .nils, .nils, (.int .i64 0)]) [(.int .i64 w.key.k), (.int .i64 w.key.n), (.str w.key.s)]) (List.length (ap H (enWi w))) (.cells [(.int .i64 7), .nils, .nils, (.int .i64 0)])) (some (List.length (ap H (enWi w)))), .l (.load (some 4) (.c (.ptr (List.length (ap H (enWi w))) 0))) (.agg [(.int .i64 7), .nils, .nils, (.int .i64 0)])] [(.agg [(.int .i64 7), .nils, .nils, (.int .i64 0)])] u.n57 ⟨rfl, rfl, (ldV (ga gl)), (ldV (ga gl)), hfind, (stK (ga gl)), (ldV (gset (ga gl))), trivial⟩ : ∃ l, Cl Γ Mo.T 57 [.ptr p 0, .agg (enWi w)] H (errA 7, _, l))
  refine ⟨_, l, h, ?_, ⟨by simp, fun i x hi hx => gne (by have := glt hx; simp; omega) (ga (ga (ga hx)))⟩⟩
  exact gne (by simp; omega) (ga (ga (ga hq)))
 | true =>
  have hil : ix < rows.length := hsp.2 rfl
  have hne : rows ≠ [] := by intro h; rw [h] at hil; simp at hil
  obtain ⟨row, hrow⟩ : ∃ row, rows[ix]? = some row := ⟨rows[ix], by simp [hil]⟩
  have hgr : rows.getD ix [] = row := by simp [List.getD_eq_getElem?_getD, hrow]
  have hok1 := hok ix row hrow
  rw [hgr, if_pos rfl]
  obtain ⟨bb, hbb⟩ : ∃ bb, bb = ((ap (ap (ap H (enWi w)) [(.int .i64 0), .nils, .nils, (.int .i64 0)]) [(.int .i64 w.key.k), (.int .i64 w.key.n), (.str w.key.s)])).length + 1 := ⟨_, rfl⟩
  have hbb2 : bb = H.length + 4 := by rw [hbb]; simp
  have hG1b : ((ap (ap (ap (ap (ap H (enWi w)) [(.int .i64 0), .nils, .nils, (.int .i64 0)]) [(.int .i64 w.key.k), (.int .i64 w.key.n), (.str w.key.s)]) []) (List.map rV rows)))[bb]? = some (.cells (rows.map rV)) := by
   have e0 : (ap (ap (ap (ap H (enWi w)) [(.int .i64 0), .nils, .nils, (.int .i64 0)]) [(.int .i64 w.key.k), (.int .i64 w.key.n), (.str w.key.s)]) []).length = ((ap (ap (ap H (enWi w)) [(.int .i64 0), .nils, .nils, (.int .i64 0)]) [(.int .i64 w.key.k), (.int .i64 w.key.n), (.str w.key.s)])).length + 1 := by simp
   rw [hbb, ← e0]
   exact gl
  have hb_p : bb ≠ p := by omega
  have hb_q : bb ≠ q := by omega
  have hb_L : bb ≠ (List.length H) := by omega
  have hb_M : bb ≠ (List.length (ap H (enWi w))) := by simp; omega
  have hq_p : p ≠ q := Ne.symm hqp
  have hq_L := hqL
  have hq_M := hqM
  by_cases hkd : w.kd = 2
  ·rw [if_pos hkd] at hok1 ⊢
   obtain ⟨l96, h96⟩ := del_e u.e96 hG1b hil hrl
   have hn_p := own_ro (List.set (ap (ap (ap (ap (ap H (enWi w)) [(.int .i64 0), .nils, .nils, (.int .i64 0)]) [(.int .i64 w.key.k), (.int .i64 w.key.n), (.str w.key.s)]) []) (List.map rV rows)) bb .gone) (rows.eraseIdx ix) p
   have hn_q := own_ro (List.set (ap (ap (ap (ap (ap H (enWi w)) [(.int .i64 0), .nils, .nils, (.int .i64 0)]) [(.int .i64 w.key.k), (.int .i64 w.key.n), (.str w.key.s)]) []) (List.map rV rows)) bb .gone) (rows.eraseIdx ix) q
   have hn_L := own_ro (List.set (ap (ap (ap (ap (ap H (enWi w)) [(.int .i64 0), .nils, .nils, (.int .i64 0)]) [(.int .i64 w.key.k), (.int .i64 w.key.n), (.str w.key.s)]) []) (List.map rV rows)) bb .gone) (rows.eraseIdx ix) (List.length H)
   have hn_M := own_ro (List.set (ap (ap (ap (ap (ap H (enWi w)) [(.int .i64 0), .nils, .nils, (.int .i64 0)]) [(.int .i64 w.key.k), (.int .i64 w.key.n), (.str w.key.s)]) []) (List.map rV rows)) bb .gone) (rows.eraseIdx ix) (List.length (ap H (enWi w)))
   obtain ⟨er, K, lk, hch, he, hKq, hKl, hO⟩ := chg_e u.e94 (x := bV (rows.eraseIdx ix)) (H := (List.set (ap (ap (ap (ap (ap H (enWi w)) [(.int .i64 0), .nils, .nils, (.int .i64 0)]) [(.int .i64 w.key.k), (.int .i64 w.key.n), (.str w.key.s)]) []) (List.map rV rows)) bb .gone)) (gne hb_p (ga (ga (ga (ga (ga hp)))))) (gne hb_q (ga (ga (ga (ga (ga hq)))))) hqp hn ht0 hrows hok1 hV (TR_ro _ _) hn_p hn_q
   obtain ⟨l, h⟩ := (clV 1 (af := a57) (r := (.agg [(.int .i64 er), .nils, .nils, (.int .i64 0)])) (h' := (K.set (List.length (ap H (enWi w))) (.cells [(.int .i64 er), .nils, .nils, (.int .i64 0)]))) [.w (.box (.c (.agg (enWi w)))) (.ptr H.length 0) (ap H (enWi w)) none, .w (.alloc [(.int .i64 0), .nils, .nils, (.int .i64 0)]) (.ptr (List.length (ap H (enWi w))) 0) (ap (ap H (enWi w)) [(.int .i64 0), .nils, .nils, (.int .i64 0)]) none, .f (.load none (.c (.ptr H.length 1))) (.int .i64 w.tb), .f (.load (some 3) (.c (.ptr H.length 2))) (.agg (enV w.key)), .r 93 [(.ptr p 0), (.int .i64 w.tb), (.agg (enV w.key))] (.tup [(.int .i64 (ix : Int)), (.bool true)]) (ap (ap (ap H (enWi w)) [(.int .i64 0), .nils, .nils, (.int .i64 0)]) [(.int .i64 w.key.k), (.int .i64 w.key.n), (.str w.key.s)]) lf, .f (.load none (.c (.ptr p 3))) (.sl q 1 0 n n true), .f (.load none (.c (.ptr H.length 1))) (.int .i64 w.tb), .p (1 = 1), .p ((0 : Int) ≤ w.tb), .p ((w.tb : Int) < ((n : Nat) : Int)), .f (.load none (.c (.ptr q (0 + (Int.toNat w.tb) * 1)))) (.ro (rows.map rV) 1 false), .r 90 [(.ro (rows.map rV) 1 false)] (.sl bb 1 0 rows.length rows.length false) (ap (ap (ap (ap (ap H (enWi w)) [(.int .i64 0), .nils, .nils, (.int .i64 0)]) [(.int .i64 w.key.k), (.int .i64 w.key.n), (.str w.key.s)]) []) (rows.map rV)) none, .f (.load none (.c (.ptr H.length 0))) (.int .i64 w.kd), .b (w.kd == 2) true, .p (stays evC (AOper.mk (some 34) (.load none (.c (.ptr H.length 1))) none 0 1) (.int .i64 w.tb) [(ap (ap (ap (ap (ap H (enWi w)) [(.int .i64 0), .nils, .nils, (.int .i64 0)]) [(.int .i64 w.key.k), (.int .i64 w.key.n), (.str w.key.s)]) []) (rows.map rV)), (List.set (ap (ap (ap (ap (ap H (enWi w)) [(.int .i64 0), .nils, .nils, (.int .i64 0)]) [(.int .i64 w.key.k), (.int .i64 w.key.n), (.str w.key.s)]) []) (rows.map rV)) bb .gone), K, (K.set (List.length (ap H (enWi w))) (.cells [(.int .i64 er), .nils, .nils, (.int .i64 0)]))] = true), .f (.load none (.c (.ptr H.length 1))) (.int .i64 w.tb), .r 96 [(.sl bb 1 0 rows.length rows.length false), (.int .i64 (ix : Int)), (.int .i64 (IntKind.i64.wrap ((ix : Int) + 1)))] (.ro (List.map rV (List.eraseIdx rows ix)) 1 false) (List.set (ap (ap (ap (ap (ap H (enWi w)) [(.int .i64 0), .nils, .nils, (.int .i64 0)]) [(.int .i64 w.key.k), (.int .i64 w.key.n), (.str w.key.s)]) []) (rows.map rV)) bb .gone) l96, .r 94 [(.ptr p 0), (.int .i64 w.tb), (.ro (List.map rV (List.eraseIdx rows ix)) 1 false)] (.agg [(.int .i64 er), .nils, .nils, (.int .i64 0)]) K lk, .w (.store 4 (.c (.ptr (List.length (ap H (enWi w))) 0)) (.c (.agg [(.int .i64 er), .nils, .nils, (.int .i64 0)]))) (.tup []) (K.set (List.length (ap H (enWi w))) (.cells [(.int .i64 er), .nils, .nils, (.int .i64 0)])) (some (List.length (ap H (enWi w)))), .l (.load (some 4) (.c (.ptr (List.length (ap H (enWi w))) 0))) (.agg [(.int .i64 er), .nils, .nils, (.int .i64 0)])] [(.agg [(.int .i64 er), .nils, .nils, (.int .i64 0)])] u.n57 ⟨rfl, rfl, (ldV (ga gl)), (ldV (ga gl)), hfind, (ldV (ga (ga (ga hp)))), (ldV (ga (ga gl))), rfl, ht0, htn, (ld_now ht0 hrows (ga (ga (ga hq)))), (cloneM90_e' u.e90 hne hrl2 hbb), (ldV (ga (ga (ga (ga gl))))), (cE hkd), (stays2 (by simp [eqv, eqvL]) (And.intro (ldV (ga (ga (ga (ga gl))))) (And.intro (ldV (gne hb_L (ga (ga (ga (ga gl)))))) trivial))), (ldV (ga (ga (ga (ga gl))))), (by rw [wr1 (by omega)]; exact h96), hch, (stK (hO _ _ hq_M hn_M (gne hb_M (ga (ga (ga gl)))))), (ldV (gset (hO _ _ hq_M hn_M (gne hb_M (ga (ga (ga gl))))))), trivial⟩ : ∃ l, Cl Γ Mo.T 57 [.ptr p 0, .agg (enWi w)] H (errA er, _, l))
   refine ⟨_, l, he ▸ h, gne hqM hKq, ⟨?_, fun i x hi hx => gne (by have := glt hx; simp; omega) (hO i x hi (own_ro _ _ _) (gne (by have := glt hx; omega) (ga (ga (ga (ga (ga hx)))))))⟩⟩
   simp at hKl ⊢; omega
  ·rw [if_neg hkd] at hok1 ⊢
   obtain ⟨hc0, hc1, hc2⟩ := hcl hkd row (List.mem_of_getElem? hrow)
   have hrne : row ≠ [] := by intro h; rw [h] at hc1; simp at hc1; omega
   have hrwl : row.length * 32 ≤ 140737488355328 := by omega
   obtain ⟨rb, hrb⟩ : ∃ rb, rb = ((ap (ap (ap (ap (ap H (enWi w)) [(.int .i64 0), .nils, .nils, (.int .i64 0)]) [(.int .i64 w.key.k), (.int .i64 w.key.n), (.str w.key.s)]) []) (List.map rV rows))).length + 1 := ⟨_, rfl⟩
   have hrb2 : rb = H.length + 6 := by rw [hrb]; simp
   have hr_p : rb ≠ p := by omega
   have hr_q : rb ≠ q := by omega
   have hr_L : rb ≠ (List.length H) := by omega
   have hr_M : rb ≠ (List.length (ap H (enWi w))) := by simp; omega
   have hr_b : rb ≠ bb := by omega
   have hG2b : ((ap (ap (ap (ap (ap (ap (ap H (enWi w)) [(.int .i64 0), .nils, .nils, (.int .i64 0)]) [(.int .i64 w.key.k), (.int .i64 w.key.n), (.str w.key.s)]) []) (List.map rV rows)) []) (List.flatten (lsV row))))[bb]? = some (.cells (rows.map rV)) := ga (ga hG1b)
   have hG2r : ((ap (ap (ap (ap (ap (ap (ap H (enWi w)) [(.int .i64 0), .nils, .nils, (.int .i64 0)]) [(.int .i64 w.key.k), (.int .i64 w.key.n), (.str w.key.s)]) []) (List.map rV rows)) []) (List.flatten (lsV row))))[rb]? = some (.cells (List.flatten (lsV row))) := by
    have e0 : (ap (ap (ap (ap (ap (ap H (enWi w)) [(.int .i64 0), .nils, .nils, (.int .i64 0)]) [(.int .i64 w.key.k), (.int .i64 w.key.n), (.str w.key.s)]) []) (List.map rV rows)) []).length = ((ap (ap (ap (ap (ap H (enWi w)) [(.int .i64 0), .nils, .nils, (.int .i64 0)]) [(.int .i64 w.key.k), (.int .i64 w.key.n), (.str w.key.s)]) []) (List.map rV rows))).length + 1 := by simp
    rw [hrb, ← e0]
    exact gl
   have hG3b : ((List.set (ap (ap (ap (ap (ap (ap (ap H (enWi w)) [(.int .i64 0), .nils, .nils, (.int .i64 0)]) [(.int .i64 w.key.k), (.int .i64 w.key.n), (.str w.key.s)]) []) (List.map rV rows)) []) (List.flatten (lsV row))) bb (.cells (List.set (List.map rV rows) ix (.sl rb 3 0 (List.length row) (List.length row) false)))))[bb]? = some (.cells (List.set (List.map rV rows) ix (.sl rb 3 0 (List.length row) (List.length row) false))) := gset hG2b
   have hG3r : ((List.set (ap (ap (ap (ap (ap (ap (ap H (enWi w)) [(.int .i64 0), .nils, .nils, (.int .i64 0)]) [(.int .i64 w.key.k), (.int .i64 w.key.n), (.str w.key.s)]) []) (List.map rV rows)) []) (List.flatten (lsV row))) bb (.cells (List.set (List.map rV rows) ix (.sl rb 3 0 (List.length row) (List.length row) false)))))[rb]? = some (.cells (List.flatten (lsV row))) := gne (Ne.symm hr_b) hG2r
   have hG4b : ((List.set (List.set (ap (ap (ap (ap (ap (ap (ap H (enWi w)) [(.int .i64 0), .nils, .nils, (.int .i64 0)]) [(.int .i64 w.key.k), (.int .i64 w.key.n), (.str w.key.s)]) []) (List.map rV rows)) []) (List.flatten (lsV row))) bb (.cells (List.set (List.map rV rows) ix (.sl rb 3 0 (List.length row) (List.length row) false)))) rb (.cells (List.flatten (lsV (List.set row (Int.toNat w.cl) w.vl))))))[bb]? = some (.cells (List.set (List.map rV rows) ix (.sl rb 3 0 (List.length row) (List.length row) false))) := gne hr_b hG3b
   have hG4r : ((List.set (List.set (ap (ap (ap (ap (ap (ap (ap H (enWi w)) [(.int .i64 0), .nils, .nils, (.int .i64 0)]) [(.int .i64 w.key.k), (.int .i64 w.key.n), (.str w.key.s)]) []) (List.map rV rows)) []) (List.flatten (lsV row))) bb (.cells (List.set (List.map rV rows) ix (.sl rb 3 0 (List.length row) (List.length row) false)))) rb (.cells (List.flatten (lsV (List.set row (Int.toNat w.cl) w.vl))))))[rb]? = some (.cells (List.flatten (lsV (List.set row (Int.toNat w.cl) w.vl)))) := gset hG3r
   have hown := own_set (n := rows.length) (c := rows.length) (e2 := false) hG4b hil
   have hnot : ∀ j, j ≠ bb → j ≠ rb → j ∉ ownB (List.set (List.set (ap (ap (ap (ap (ap (ap (ap H (enWi w)) [(.int .i64 0), .nils, .nils, (.int .i64 0)]) [(.int .i64 w.key.k), (.int .i64 w.key.n), (.str w.key.s)]) []) (List.map rV rows)) []) (List.flatten (lsV row))) bb (.cells (List.set (List.map rV rows) ix (.sl rb 3 0 (List.length row) (List.length row) false)))) rb (.cells (List.flatten (lsV (List.set row (Int.toNat w.cl) w.vl))))) (.sl bb 1 0 (List.length rows) (List.length rows) false) := fun j h1 h2 h => ((hown j).1 h).elim h1 h2
   have hn_p := hnot p (Ne.symm hb_p) (Ne.symm hr_p)
   have hn_q := hnot q (Ne.symm hb_q) (Ne.symm hr_q)
   have hn_L := hnot (List.length H) (Ne.symm hb_L) (Ne.symm hr_L)
   have hn_M := hnot (List.length (ap H (enWi w))) (Ne.symm hb_M) (Ne.symm hr_M)
   have hTR : TR (List.set (List.set (ap (ap (ap (ap (ap (ap (ap H (enWi w)) [(.int .i64 0), .nils, .nils, (.int .i64 0)]) [(.int .i64 w.key.k), (.int .i64 w.key.n), (.str w.key.s)]) []) (List.map rV rows)) []) (List.flatten (lsV row))) bb (.cells (List.set (List.map rV rows) ix (.sl rb 3 0 (List.length row) (List.length row) false)))) rb (.cells (List.flatten (lsV (List.set row (Int.toNat w.cl) w.vl))))) (.sl bb 1 0 (List.length rows) (List.length rows) false) (rows.set ix (List.set row (Int.toNat w.cl) w.vl)) := TR_set hG4b hG4r hil rfl (by simp) (by omega)
   obtain ⟨er, K, lk, hch, he, hKq, hKl, hO⟩ := chg_e u.e94 (x := (.sl bb 1 0 (List.length rows) (List.length rows) false)) (H := (List.set (List.set (ap (ap (ap (ap (ap (ap (ap H (enWi w)) [(.int .i64 0), .nils, .nils, (.int .i64 0)]) [(.int .i64 w.key.k), (.int .i64 w.key.n), (.str w.key.s)]) []) (List.map rV rows)) []) (List.flatten (lsV row))) bb (.cells (List.set (List.map rV rows) ix (.sl rb 3 0 (List.length row) (List.length row) false)))) rb (.cells (List.flatten (lsV (List.set row (Int.toNat w.cl) w.vl)))))) (gne hr_p (gne hb_p (ga (ga (ga (ga (ga (ga (ga hp))))))))) (gne hr_q (gne hb_q (ga (ga (ga (ga (ga (ga (ga hq))))))))) hqp hn ht0 hrows hok1 hV hTR hn_p hn_q
   obtain ⟨l, h⟩ := (clV 1 (af := a57) (r := (.agg [(.int .i64 er), .nils, .nils, (.int .i64 0)])) (h' := (K.set (List.length (ap H (enWi w))) (.cells [(.int .i64 er), .nils, .nils, (.int .i64 0)]))) (.w (.box (.c (.agg (enWi w)))) (.ptr H.length 0) (ap H (enWi w)) none :: .w (.alloc [(.int .i64 0), .nils, .nils, (.int .i64 0)]) (.ptr (List.length (ap H (enWi w))) 0) (ap (ap H (enWi w)) [(.int .i64 0), .nils, .nils, (.int .i64 0)]) none :: .f (.load none (.c (.ptr H.length 1))) (.int .i64 w.tb) :: .f (.load (some 3) (.c (.ptr H.length 2))) (.agg (enV w.key)) :: .r 93 [(.ptr p 0), (.int .i64 w.tb), (.agg (enV w.key))] (.tup [(.int .i64 (ix : Int)), (.bool true)]) (ap (ap (ap H (enWi w)) [(.int .i64 0), .nils, .nils, (.int .i64 0)]) [(.int .i64 w.key.k), (.int .i64 w.key.n), (.str w.key.s)]) lf :: .f (.load none (.c (.ptr p 3))) (.sl q 1 0 n n true) :: .f (.load none (.c (.ptr H.length 1))) (.int .i64 w.tb) :: .p (1 = 1) :: .p ((0 : Int) ≤ w.tb) :: .p ((w.tb : Int) < ((n : Nat) : Int)) :: .f (.load none (.c (.ptr q (0 + (Int.toNat w.tb) * 1)))) (.ro (rows.map rV) 1 false) :: .r 90 [(.ro (rows.map rV) 1 false)] (.sl bb 1 0 rows.length rows.length false) (ap (ap (ap (ap (ap H (enWi w)) [(.int .i64 0), .nils, .nils, (.int .i64 0)]) [(.int .i64 w.key.k), (.int .i64 w.key.n), (.str w.key.s)]) []) (rows.map rV)) none :: .f (.load none (.c (.ptr H.length 0))) (.int .i64 w.kd) :: .b (w.kd == 2) false :: .p (1 = 1) :: .p ((0 : Int) ≤ (ix : Int)) :: .p (((ix : Int) : Int) < ((rows.length : Nat) : Int)) :: .f (.load none (.c (.ptr bb (0 + (Int.toNat (ix : Int)) * 1)))) (.ro (row.map vV) 3 false) :: .r 64 [(.ro (row.map vV) 3 false)] (.sl rb 3 0 row.length row.length false) (ap (ap (ap (ap (ap (ap (ap H (enWi w)) [(.int .i64 0), .nils, .nils, (.int .i64 0)]) [(.int .i64 w.key.k), (.int .i64 w.key.n), (.str w.key.s)]) []) (rows.map rV)) []) (List.flatten (lsV row))) none :: .p (1 = 1) :: .p ((0 : Int) ≤ (ix : Int)) :: [.p (((ix : Int) : Int) < ((rows.length : Nat) : Int)), .w (.store 1 (.c (.ptr bb (0 + (Int.toNat (ix : Int)) * 1))) (.c (.sl rb 3 0 row.length row.length false))) (.tup []) (List.set (ap (ap (ap (ap (ap (ap (ap H (enWi w)) [(.int .i64 0), .nils, .nils, (.int .i64 0)]) [(.int .i64 w.key.k), (.int .i64 w.key.n), (.str w.key.s)]) []) (rows.map rV)) []) (List.flatten (lsV row))) bb (.cells (List.set (rows.map rV) ix (.sl rb 3 0 row.length row.length false)))) (some bb), .p (1 = 1), .p ((0 : Int) ≤ (ix : Int)), .p (((ix : Int) : Int) < ((rows.length : Nat) : Int)), .f (.load none (.c (.ptr bb (0 + (Int.toNat (ix : Int)) * 1)))) (.sl rb 3 0 row.length row.length false), .f (.load none (.c (.ptr H.length 9))) (.int .i64 w.cl), .f (.load (some 3) (.c (.ptr H.length 10))) (.agg (enV w.vl)), .p (3 = 3), .p ((0 : Int) ≤ w.cl), .p ((w.cl : Int) < ((row.length : Nat) : Int)), .w (.store 3 (.c (.ptr rb (0 + (Int.toNat w.cl) * 3))) (.c (.agg (enV w.vl)))) (.tup []) (List.set (List.set (ap (ap (ap (ap (ap (ap (ap H (enWi w)) [(.int .i64 0), .nils, .nils, (.int .i64 0)]) [(.int .i64 w.key.k), (.int .i64 w.key.n), (.str w.key.s)]) []) (rows.map rV)) []) (List.flatten (lsV row))) bb (.cells (List.set (rows.map rV) ix (.sl rb 3 0 row.length row.length false)))) rb (.cells (List.flatten (lsV (row.set (Int.toNat w.cl) w.vl))))) (some rb), .f (.load none (.c (.ptr H.length 1))) (.int .i64 w.tb), .r 94 [(.ptr p 0), (.int .i64 w.tb), (.sl bb 1 0 rows.length rows.length false)] (.agg [(.int .i64 er), .nils, .nils, (.int .i64 0)]) K lk, .w (.store 4 (.c (.ptr (List.length (ap H (enWi w))) 0)) (.c (.agg [(.int .i64 er), .nils, .nils, (.int .i64 0)]))) (.tup []) (K.set (List.length (ap H (enWi w))) (.cells [(.int .i64 er), .nils, .nils, (.int .i64 0)])) (some (List.length (ap H (enWi w)))), .l (.load (some 4) (.c (.ptr (List.length (ap H (enWi w))) 0))) (.agg [(.int .i64 er), .nils, .nils, (.int .i64 0)])]) [(.agg [(.int .i64 er), .nils, .nils, (.int .i64 0)])] u.n57 ⟨rfl, rfl, (ldV (ga gl)), (ldV (ga gl)), hfind, (ldV (ga (ga (ga hp)))), (ldV (ga (ga gl))), rfl, ht0, htn, (ld_now ht0 hrows (ga (ga (ga hq)))), (cloneM90_e' u.e90 hne hrl2 hbb), (ldV (ga (ga (ga (ga gl))))), (cN hkd), rfl, (by omega), (by omega), (ldX hG1b (by rw [List.getElem?_map, hrow]; rfl)), (cloneM64_e' u.e64 hrne hrwl hrb), rfl, (by omega), (by omega), (stX hG2b (by simpa using hil) rfl rfl), rfl, (by omega), (by omega), (ldX hG3b (by rw [List.getElem?_set_self (by simpa using hil)])), (ldV (gne hb_L (ga (ga (ga (ga (ga (ga gl)))))))), (ldV (gne hb_L (ga (ga (ga (ga (ga (ga gl)))))))), rfl, hc0, hc1, (stV hG3r hc0 hc1), (ldV (gne hr_L (gne hb_L (ga (ga (ga (ga (ga (ga gl))))))))), hch, (stK (hO _ _ hq_M hn_M (gne hr_M (gne hb_M (ga (ga (ga (ga (ga gl))))))))), (ldV (gset (hO _ _ hq_M hn_M (gne hr_M (gne hb_M (ga (ga (ga (ga (ga gl)))))))))), trivial⟩ : ∃ l, Cl Γ Mo.T 57 [.ptr p 0, .agg (enWi w)] H (errA er, _, l))
   refine ⟨_, l, he ▸ h, gne hqM hKq, ⟨?_, fun i x hi hx => gne (by have := glt hx; simp; omega) (hO i x hi (hnot i (by have := glt hx; omega) (by have := glt hx; omega)) (gne (by have := glt hx; omega) (gne (by have := glt hx; omega) (ga (ga (ga (ga (ga (ga (ga hx)))))))))) ⟩⟩
   simp at hKl ⊢; omega
end
noncomputable def gam12 : List (Nat × GF) := (94, anyG Tryz.prog 94 CC) :: (96, anyG Tryz.prog 96 DD) :: (64, g64m) :: (90, g90m) :: (118, pureG g118) :: gam8
theorem K12 : Known (gGet gam12) tree.get Tryz.prog := known_of (by kernel_rfl) ⟨anyG_ok ⟨_, Tryz.func94, by kernel_rfl, by kernel_rfl⟩, anyG_ok ⟨_, Tryz.func96, by kernel_rfl, by kernel_rfl⟩, cloneM64_ok, cloneM90_ok, bs_ok, oft_ok, ofv_ok, isVal_ok, view_ok, grp_ok, tot_ok, adt_ok, fit_ok, code_ok, int_ok, of_ok, add_ok, cmp_ok, good_ok, xSub_ok, xAdd_ok, trivial⟩ all
noncomputable abbrev G12 : FuncId → Option GF := gGet gam12
theorem u12 : UnC G12 := { n93 := by kernel_rfl, e118 := by kernel_rfl, n57 := by kernel_rfl, e64 := by kernel_rfl, e90 := by kernel_rfl, e94 := by kernel_rfl, e96 := by kernel_rfl }
open Go
structure DS where
 now : Tabs
 was : Option Tabs
 marks : List Tabs
def ids (H : List Blk) (p : Nat) : List Nat := p :: (match H[p]? with | some (.cells cs) => cs.filterMap slId | _ => [])
theorem ids_of {T : List (List Int)} {V : List Vw} {free : Bool} {p q n : Nat} {wv mv : AV} {H : List Blk} (hp : H[p]? = some (.cells (dbC T V free q n wv mv))) : ids H p = p :: q :: ((slId wv).toList ++ (slId mv).toList) := by
 unfold ids
 rw [hp]
 have e : (dbC T V free q n wv mv).filterMap slId = q :: [wv, mv].filterMap slId := rfl
 show p :: (dbC T V free q n wv mv).filterMap slId = _
 rw [e]
 cases h1 : slId wv <;> cases h2 : slId mv <;> simp [List.filterMap_cons, h1, h2]
def WaA (H : List Blk) (n : Nat) (wv : AV) : Option Tabs → Prop
 | none => wv = .nils
 | some ts => ∃ qw, wv = .sl qw 1 0 n n true ∧ H[qw]? = some (.cells (tsC ts)) ∧ ts.length = n
def MkA (H : List Blk) (mv : AV) (marks : List Tabs) : Prop := (marks = [] ∧ mv = .nils) ∨ (marks ≠ [] ∧ ∃ mk cap zs, mv = .sl mk 1 0 marks.length cap false ∧ H[mk]? = some (.cells zs) ∧ zs.length = cap ∧ zs.take marks.length = marks.map tsV)
structure DBB (T : List (List Int)) (V : List Vw) (free : Bool) (H : List Blk) (p q : Nat) (wv mv : AV) (s : DS) : Prop where
 hp : H[p]? = some (.cells (dbC T V free q s.now.length wv mv))
 hq : H[q]? = some (.cells (tsC s.now))
 hw : WaA H s.now.length wv s.was
 hm : MkA H mv s.marks
 nd : (ids H p).Nodup
def DBA (T : List (List Int)) (V : List Vw) (free : Bool) (H : List Blk) (p : Nat) (s : DS) : Prop := ∃ q wv mv, DBB T V free H p q wv mv s
theorem WaA.keep {H H' : List Blk} {n : Nat} {wv : AV} {o : Option Tabs} (h : WaA H n wv o) (hk : ∀ i x, slId wv = some i → H[i]? = some x → H'[i]? = some x) : WaA H' n wv o := by
 cases o with
 | none => exact h
 | some ts =>
  obtain ⟨qw, rfl, h1, h2⟩ := h
  exact ⟨qw, rfl, hk qw _ rfl h1, h2⟩
theorem MkA.keep {H H' : List Blk} {mv : AV} {l : List Tabs} (h : MkA H mv l) (hk : ∀ i x, slId mv = some i → H[i]? = some x → H'[i]? = some x) : MkA H' mv l := by
 rcases h with h | ⟨h0, mk, cap, zs, rfl, h1, h2, h3⟩
 ·exact .inl h
 ·exact .inr ⟨h0, mk, cap, zs, rfl, hk mk _ rfl h1, h2, h3⟩
theorem DBB.keep {T : List (List Int)} {V : List Vw} {free : Bool} {p q : Nat} {wv mv : AV} {s : DS} {H H' : List Blk} (h : DBB T V free H p q wv mv s) (hk : ∀ i x, i ∈ ids H p → H[i]? = some x → H'[i]? = some x) : DBB T V free H' p q wv mv s := by
 have hi := ids_of h.hp
 have hp := hk p _ (by rw [hi]; simp) h.hp
 refine ⟨hp, hk q _ (by rw [hi]; simp) h.hq, h.hw.keep fun i x hs => hk i x (by rw [hi, hs]; simp), h.hm.keep fun i x hs => hk i x (by rw [hi, hs]; simp), ?_⟩
 rw [ids_of hp, ← hi]
 exact h.nd
theorem DBA.keep {T : List (List Int)} {V : List Vw} {free : Bool} {p : Nat} {s : DS} {H H' : List Blk} (h : DBA T V free H p s) (hk : ∀ i x, i ∈ ids H p → H[i]? = some x → H'[i]? = some x) : DBA T V free H' p s := by
 obtain ⟨q, wv, mv, h⟩ := h
 exact ⟨q, wv, mv, h.keep hk⟩
theorem DBA.ids_keep {T : List (List Int)} {V : List Vw} {free : Bool} {p : Nat} {s : DS} {H H' : List Blk} (h : DBA T V free H p s) (hk : ∀ i x, i ∈ ids H p → H[i]? = some x → H'[i]? = some x) : ids H' p = ids H p := by
 obtain ⟨q, wv, mv, h⟩ := h
 have h' := h.keep hk
 rw [ids_of h.hp, ids_of h'.hp]
theorem DBA.lt {T : List (List Int)} {V : List Vw} {free : Bool} {p : Nat} {s : DS} {H : List Blk} (h : DBA T V free H p s) : ∀ i ∈ ids H p, i < H.length := by
 obtain ⟨q, wv, mv, h⟩ := h
 intro i hi
 rw [ids_of h.hp] at hi
 simp only [List.mem_cons, List.mem_append, Option.mem_toList] at hi
 rcases hi with rfl | rfl | hi | hi
 ·exact glt h.hp
 ·exact glt h.hq
 ·have := h.hw
  cases hw : s.was with
  | none => rw [hw] at this; rw [this] at hi; cases hi
  | some ts => rw [hw] at this; obtain ⟨qw, rfl, h1, _⟩ := this; cases hi; exact glt h1
 ·rcases h.hm with ⟨_, h1⟩ | ⟨_, mk, cap, zs, rfl, h1, _⟩
  ·rw [h1] at hi; cases hi
  ·cases hi; exact glt h1
def Step (H : List Blk) (p : Nat) (H' : List Blk) : Prop := H.length ≤ H'.length ∧ (∀ i ∈ ids H' p, i ∈ ids H p ∨ H.length ≤ i) ∧ ∀ i x, i ∉ ids H p → H[i]? = some x → H'[i]? = some x
theorem DBA.inj {T T' : List (List Int)} {V V' : List Vw} {free free' : Bool} {p : Nat} {s s' : DS} {H : List Blk} (h : DBA T V free H p s) (h' : DBA T' V' free' H p s') : T = T' ∧ V = V' ∧ free = free' ∧ s = s' := by
 obtain ⟨q, wv, mv, h⟩ := h
 obtain ⟨q', wv', mv', h'⟩ := h'
 have h2 := h'.hp
 rw [h.hp] at h2
 simp only [Option.some.injEq, Blk.cells.injEq, dbC, List.cons.injEq, AV.ro.injEq, AV.bool.injEq, AV.sl.injEq, and_true, true_and] at h2
 obtain ⟨hT, hV, hf, ⟨hq, _, _⟩, rfl, rfl⟩ := h2
 subst hq
 refine ⟨map_inj tV_inj hT, map_inj vwV_inj hV, hf, ?_⟩
 have e1 : s.now = s'.now := by
  have := h'.hq
  rw [h.hq] at this
  simp only [Option.some.injEq, Blk.cells.injEq] at this
  exact map_inj bV_inj this
 have e2 : s.was = s'.was := by
  have a := h.hw
  have b := h'.hw
  cases ha : s.was with
  | none =>
   rw [ha] at a
   cases hb : s'.was with
   | none => rfl
   | some ts => rw [hb] at b; obtain ⟨qw, b1, _⟩ := b; rw [a] at b1; cases b1
  | some ts =>
   rw [ha] at a
   obtain ⟨qw, a1, a2, _⟩ := a
   cases hb : s'.was with
   | none => rw [hb] at b; rw [a1] at b; cases b
   | some ts' =>
    rw [hb] at b
    obtain ⟨qw', b1, b2, _⟩ := b
    rw [a1] at b1
    have b1 := (AV.sl.inj b1).1
    subst b1
    rw [a2] at b2
    simp only [Option.some.injEq, Blk.cells.injEq] at b2
    rw [map_inj bV_inj b2]
 have e3 : s.marks = s'.marks := by
  rcases h.hm with ⟨a0, a1⟩ | ⟨a0, mk, cap, zs, a1, a2, a3, a4⟩ <;> rcases h'.hm with ⟨b0, b1⟩ | ⟨b0, mk', cap', zs', b1, b2, b3, b4⟩
  ·rw [a0, b0]
  ·rw [a1] at b1; cases b1
  ·rw [a1] at b1; cases b1
  ·rw [a1] at b1
   simp only [AV.sl.injEq, true_and, and_true] at b1
   obtain ⟨rfl, hl, rfl⟩ := b1
   rw [a2] at b2
   simp only [Option.some.injEq, Blk.cells.injEq] at b2
   subst b2
   rw [← hl, a4] at b4
   refine map_inj (f := tsV) (fun a b e => ?_) b4
   simp only [AV.ro.injEq, and_true] at e
   exact map_inj bV_inj e
 cases s; cases s'
 simp only at e1 e2 e3
 rw [e1, e2, e3]
section
variable {X : Type}
def MR (enc : X → List AV) (step : List (List Int) → List Vw → Bool → DS → X → AV × DS) (args : List AV) (h : List Blk) (r : AV) (h' : List Blk) : Prop :=
 ∃ (T : List (List Int)) (V : List Vw) (free : Bool) (p : Nat) (s : DS) (x : X), args = .ptr p 0 :: enc x ∧ DBA T V free h p s ∧ r = (step T V free s x).1 ∧ DBA T V free h' p (step T V free s x).2 ∧ Step h p h'
theorem mr_e {enc : X → List AV} {step : List (List Int) → List Vw → Bool → DS → X → AV × DS} (hinj : ∀ a b, enc a = enc b → a = b) {Γ : FuncId → Option GF} {f : FuncId} (hg : Γ f = some (anyG Tryz.prog f (MR enc step))) {T : List (List Int)} {V : List Vw} {free : Bool} {p : Nat} {s : DS} {x : X} {H : List Blk} (hd : DBA T V free H p s)
  (ha : ∃ h', AMS Tryz.prog f (.ptr p 0 :: enc x) H (step T V free s x).1 h' ∧ DBA T V free h' p (step T V free s x).2 ∧ Step H p h') : ∃ H' lo, Cl Γ Mo.T f (.ptr p 0 :: enc x) H ((step T V free s x).1, H', lo) ∧ DBA T V free H' p (step T V free s x).2 ∧ Step H p H' := by
 obtain ⟨h', ha, hd', hs⟩ := ha
 obtain ⟨r, H', lo, ⟨T2, V2, free2, p2, s2, x2, h1, h2, rfl, h4, h5⟩, hc⟩ := anyG_cl (Γ := Γ) (tbl := Mo.T) hg ⟨T, V, free, p, s, x, rfl, hd, rfl, hd', hs⟩ ha hs.1
 simp only [List.cons.injEq, AV.ptr.injEq, and_true] at h1
 obtain ⟨rfl, hx⟩ := h1
 have := hinj _ _ hx
 subst this
 obtain ⟨rfl, rfl, rfl, rfl⟩ := hd.inj h2
 exact ⟨H', lo, hc, h4, h5⟩
end
theorem Step.of {T : List (List Int)} {V : List Vw} {free : Bool} {H H' : List Blk} {p q q' n n' : Nat} {wv mv wv' mv' : AV} (hp : H[p]? = some (.cells (dbC T V free q n wv mv))) (hp' : H'[p]? = some (.cells (dbC T V free q' n' wv' mv'))) (hl : H.length ≤ H'.length)
  (h : ∀ i, i ∈ q' :: ((slId wv').toList ++ (slId mv').toList) → i ∈ q :: ((slId wv).toList ++ (slId mv).toList) ∨ H.length ≤ i) (hk : ∀ i x, i ∉ ids H p → H[i]? = some x → H'[i]? = some x) : Step H p H' := by
 refine ⟨hl, fun i hi => ?_, hk⟩
 rw [ids_of hp'] at hi
 rw [ids_of hp]
 rcases List.mem_cons.1 hi with rfl | hi
 ·exact .inl (by simp)
 ·rcases h i hi with h | h
  ·exact .inl (List.mem_cons_of_mem _ h)
  ·exact .inr h
theorem Step.refl (H : List Blk) (p : Nat) : Step H p H := ⟨Nat.le_refl _, fun i h => .inl h, fun _ _ _ h => h⟩
theorem Step.kept {T : List (List Int)} {V : List Vw} {free : Bool} {p : Nat} {s : DS} {H H' : List Blk} (hd : DBA T V free H p s) (hk : Kept H H') : Step H p H' ∧ DBA T V free H' p s := by
 refine ⟨⟨hk.1, fun i hi => ?_, fun i x _ hx => hk.2 _ _ hx⟩, hd.keep fun i x _ hx => hk.2 _ _ hx⟩
 rw [hd.ids_keep fun i x _ hx => hk.2 _ _ hx] at hi
 exact .inl hi
theorem tab_fin {f : FuncId} {args : List AV} {H0 H2 H' : List Blk} {id N cap : Nat} {ex : Bool} {ts : Tabs} (hs : AMS Tryz.prog f args H0 (.sl id 1 0 N cap ex) H') (hz : H'[id]? = some (.cells (tsC ts))) (hN : N = ts.length)
  (hlt : H'.length ≤ H2.length) (hfr : ∀ (j : Nat) (bl : Blk), H2[j]? = some bl → bl ≠ .gone → j ≠ id ∧ H'[j]? = some bl) : AMS Tryz.prog f args H0 (tsV ts) H2 := by
 have hm : mapO (AM.frz (subB [id] H') 5) (tsC ts) = some (tsC ts) := mapO_of rfl fun i x y h1 h2 => by
  rw [h1] at h2
  cases h2
  obtain ⟨a, _, rfl⟩ := List.mem_map.1 (List.mem_of_getElem? h1)
  exact frz_bs (n := 1) a
 have helts : elts 1 (tsC ts) ts.length = tsC ts := by
  have := elts_flat (st := 1) (es := ts.map fun t => [bV t]) (fun e he => by obtain ⟨_, _, rfl⟩ := List.mem_map.1 he; rfl)
  have e1 : ∀ l : Tabs, (l.map fun t => [bV t]).flatten = tsC l := by
   intro l
   induction l with
   | nil => rfl
   | cons a r ih => simp only [List.map_cons, List.flatten_cons, ih]; rfl
  have e1 := e1 ts
  rw [e1, List.length_map, List.map_map] at this
  exact this
 have hall : (tsC ts).all AV.one = true := by
  rw [List.all_eq_true]
  intro v hv
  obtain ⟨r, _, rfl⟩ := List.mem_map.1 hv
  rfl
 have hf : ∃ ex', AM.frz (subB [id] H') 6 (.sl id 1 0 N cap ex) = some (.ro (tsC ts) 1 ex') := by
  by_cases h0 : N = 0
  ·have hx : ts = [] := List.length_eq_zero_iff.1 (hN ▸ h0)
   rw [AM.frz, if_pos h0, hx]
   by_cases hc : cap = 0
   ·rw [if_pos hc]; exact ⟨_, rfl⟩
   ·rw [if_neg hc]; exact ⟨_, rfl⟩
  ·rw [AM.frz, if_neg h0, subB_get hz (by simp)]
   simp only [Nat.zero_add, Nat.mul_one, List.drop_zero]
   rw [if_pos (by simp [hN]), List.take_of_length_le (by simp [hN]), hm, Option.bind_some, if_pos hall, hN, helts]
   exact ⟨_, rfl⟩
 obtain ⟨ex', hf⟩ := hf
 have h1 := (AMS.freezeR (subB_ok [id] H') (offB_ok [id] H') hf hs).cv ⟨rfl, fun i b' h => ⟨b', h, .refl _⟩⟩ Cv.ex
 refine h1.drop (by rw [offB_len]; exact hlt) fun j bl hj hg => ?_
 obtain ⟨h2, h3⟩ := hfr j bl hj hg
 exact offB_get h3 (by simpa using h2)
def okTs (ts : Tabs) : Prop := ts.length ≤ 1000 ∧ ∀ x ∈ ts, x.length ≤ 1000000
def slA (q : Nat) (ts : Tabs) : AV := .sl q 1 0 ts.length ts.length true
theorem gone_fin {H : List Blk} {c : Blk} : ∀ (j : Nat) (bl : Blk), (H ++ [Blk.gone])[j]? = some bl → bl ≠ .gone → j ≠ H.length ∧ (H ++ [c])[j]? = some bl := fun j bl hj hg => by
 by_cases hl : j < H.length
 ·rw [List.getElem?_append_left hl] at hj
  exact ⟨by omega, ga hj⟩
 ·rw [List.getElem?_append_right (by omega)] at hj
  cases hk : j - H.length with
  | zero => rw [hk] at hj; cases hj; exact absurd rfl hg
  | succ k => rw [hk] at hj; simp at hj
theorem cpSS {q : Nat} {ts : Tabs} {H : List Blk} (hq : H[q]? = some (.cells (tsC ts))) (ok : okTs ts) : AMS Tryz.prog 51 [slA q ts] H (slA H.length ts) (H ++ [.cells (tsC ts)]) := by
 obtain ⟨lo, h⟩ := copiedS_cl hq ok.1 ok.2
 exact Cl.ams K9 h (by kernel_rfl)
theorem cpSR {q : Nat} {ts : Tabs} {H : List Blk} (hq : H[q]? = some (.cells (tsC ts))) (ok : okTs ts) : AMS Tryz.prog 51 [slA q ts] H (tsV ts) (H ++ [.gone]) := tab_fin (cpSS hq ok) gl rfl (by simp) gone_fin
theorem cpRS {ts : Tabs} {H : List Blk} (ok : okTs ts) : AMS Tryz.prog 51 [tsV ts] H (slA H.length ts) (H ++ [.cells (tsC ts)]) := by
 obtain ⟨lo, h⟩ := copiedR_cl (H := H) (q := 0) ok.1 ok.2
 exact Cl.ams K9 h (by kernel_rfl)
theorem cpRR {ts : Tabs} {H : List Blk} (ok : okTs ts) : AMS Tryz.prog 51 [tsV ts] H (tsV ts) (H ++ [.gone]) := tab_fin (cpRS ok) gl rfl (by simp) gone_fin
def CP (fs fr : Bool) (args : List AV) (h : List Blk) (r : AV) (h' : List Blk) : Prop :=
 (∃ q ts, args = [slA q ts] ∧ h[q]? = some (.cells (tsC ts)) ∧ r = (if fs then tsV ts else slA h.length ts) ∧ h' = h ++ [if fs then .gone else .cells (tsC ts)]) ∨
 (∃ ts, args = [tsV ts] ∧ r = (if fr then tsV ts else slA h.length ts) ∧ h' = h ++ [if fr then .gone else .cells (tsC ts)])
theorem slA_inj {q q' : Nat} {ts ts' : Tabs} (h : slA q ts = slA q' ts') : q = q' := by simp only [slA, AV.sl.injEq] at h; exact h.1
theorem cp_s {Γ : FuncId → Option GF} {fs fr : Bool} (hg : Γ 51 = some (anyG Tryz.prog 51 (CP fs fr))) {q : Nat} {ts : Tabs} {H : List Blk} (hq : H[q]? = some (.cells (tsC ts))) (ok : okTs ts) : ∃ lo, Cl Γ Mo.T 51 [slA q ts] H (if fs then tsV ts else slA H.length ts, H ++ [if fs then .gone else .cells (tsC ts)], lo) := by
 obtain ⟨r, h', lo, hI, hc⟩ := anyG_cl (Γ := Γ) (tbl := Mo.T) hg (.inl ⟨q, ts, rfl, hq, rfl, rfl⟩) (by cases fs; exact cpSS hq ok; exact cpSR hq ok) (by simp)
 rcases hI with ⟨q', ts', h1, h2, rfl, rfl⟩ | ⟨ts', h1, _⟩
 ·simp only [List.cons.injEq, and_true] at h1
  have := slA_inj h1
  subst this
  rw [hq] at h2
  simp only [Option.some.injEq, Blk.cells.injEq] at h2
  have := map_inj bV_inj h2
  subst this
  exact ⟨lo, hc⟩
 ·simp only [List.cons.injEq, and_true] at h1
  cases h1
theorem cp_r {Γ : FuncId → Option GF} {fs fr : Bool} (hg : Γ 51 = some (anyG Tryz.prog 51 (CP fs fr))) {ts : Tabs} {H : List Blk} (ok : okTs ts) : ∃ lo, Cl Γ Mo.T 51 [tsV ts] H (if fr then tsV ts else slA H.length ts, H ++ [if fr then .gone else .cells (tsC ts)], lo) := by
 obtain ⟨r, h', lo, hI, hc⟩ := anyG_cl (Γ := Γ) (tbl := Mo.T) hg (.inr ⟨ts, rfl, rfl, rfl⟩) (by cases fr; exact cpRS ok; exact cpRR ok) (by simp)
 rcases hI with ⟨q', ts', h1, _⟩ | ⟨ts', h1, rfl, rfl⟩
 ·simp only [List.cons.injEq, and_true] at h1
  cases h1
 ·simp only [List.cons.injEq, and_true, AV.ro.injEq] at h1
  have := map_inj bV_inj h1
  subst this
  exact ⟨lo, hc⟩
open Go
def begS (s : DS) : Int × DS := match s.was with
 | some _ => (13, s)
 | none => (0, { s with was := some s.now })
def endS (s : DS) (stays : Bool) : Int × DS := match s.was with
 | none => (13, s)
 | some ts => (0, { now := if stays then s.now else ts, was := none, marks := [] })
def saveS (s : DS) : AV × DS := if 4 ≤ s.marks.length then (errA 5, s) else (.agg [.int .i64 0, .nils, .nils, .int .i64 (s.marks.length : Int)], { s with marks := s.marks ++ [s.now] })
def backS (s : DS) (n : Int) : Int × DS := if n < 0 ∨ (s.marks.length : Int) ≤ n then (1, s) else (0, { s with now := s.marks.getD n.toNat [], marks := s.marks.take (n.toNat + 1) })
theorem DBB.ne {T : List (List Int)} {V : List Vw} {free : Bool} {H : List Blk} {p q : Nat} {wv mv : AV} {s : DS} (h : DBB T V free H p q wv mv s) : q ≠ p ∧ (∀ i, slId wv = some i → i ≠ p ∧ i ≠ q) ∧ (∀ i, slId mv = some i → i ≠ p ∧ i ≠ q ∧ ∀ j, slId wv = some j → i ≠ j) := by
 have hn := h.nd
 rw [ids_of h.hp] at hn
 simp only [List.nodup_cons, List.mem_cons, List.mem_append, Option.mem_toList, not_or, List.nodup_append] at hn
 obtain ⟨⟨h1, h2, h3⟩, ⟨h4, h5⟩, _, _, h6⟩ := hn
 refine ⟨fun e => h1 e.symm, fun i hi => ⟨fun e => h2 (by rw [← e]; exact hi), fun e => h4 (by rw [← e]; exact hi)⟩, fun i hi => ⟨fun e => h3 (by rw [← e]; exact hi), fun e => h5 (by rw [← e]; exact hi), fun j hj e => h6 j hj i hi e.symm⟩⟩
section
variable {Γ : FuncId → Option GF}
theorem begin_cl (hn : Γ 12 = none) (hg : Γ 51 = some (anyG Tryz.prog 51 (CP false true))) {T : List (List Int)} {V : List Vw} {free : Bool} {p : Nat} {s : DS} {H : List Blk} (hd : DBA T V free H p s) (ok : okTs s.now) :
  ∃ H' lo, Cl Γ Mo.T 12 [.ptr p 0] H (.int .i64 (begS s).1, H', lo) ∧ DBA T V free H' p (begS s).2 ∧ Step H p H' := by
 obtain ⟨q, wv, mv, hb⟩ := hd
 obtain ⟨hqp, hwn, hmn⟩ := hb.ne
 have hw := hb.hw
 have hm := hb.hm
 have hp := hb.hp
 have hq := hb.hq
 obtain ⟨now, was, marks⟩ := s
 simp only at hp hq hw hm ok
 cases was with
 | some ts =>
  obtain ⟨qw, rfl, hqw, htl⟩ := hw
  obtain ⟨l, h⟩ := (clV 1 (af := a12) (r := (.int .i64 13)) (h' := H) [.q (.isNil 0 false (.c (.ptr p 0))) false, .f (.load none (.c (.ptr p 4))) (.sl qw 1 0 now.length now.length true), .q (.isNil 1 true (.c (.sl qw 1 0 now.length now.length true))) true] [] hn ⟨rfl, (ldV hp), rfl, trivial⟩ : ∃ l, Cl Γ Mo.T 12 [.ptr p 0] H (.int .i64 13, H, l))
  exact ⟨H, l, h, ⟨q, _, mv, hb⟩, Step.refl H p⟩
 | none =>
  have hwv : wv = .nils := hw
  subst hwv
  obtain ⟨lc, hcp⟩ := cp_s hg hq ok
  simp only [Bool.false_eq_true, if_false, slA] at hcp
  obtain ⟨l, h⟩ := (clV 1 (af := a12) (r := (.int .i64 0)) (h' := (List.set (H ++ [.cells (tsC now)]) p (.cells [(.ro (T.map tV) 1 false), (.ro (V.map vwV) 3 false), (.bool free), (.sl q 1 0 now.length now.length true), (.sl H.length 1 0 now.length now.length true), mv]))) [.q (.isNil 0 false (.c (.ptr p 0))) false, .f (.load none (.c (.ptr p 4))) .nils, .q (.isNil 1 true (.c .nils)) false, .f (.load none (.c (.ptr p 3))) (.sl q 1 0 now.length now.length true), .r 51 [(.sl q 1 0 now.length now.length true)] (.sl H.length 1 0 now.length now.length true) (H ++ [.cells (tsC now)]) lc, .w (.store 1 (.c (.ptr p 4)) (.c (.sl H.length 1 0 now.length now.length true))) (.tup []) (List.set (H ++ [.cells (tsC now)]) p (.cells [(.ro (T.map tV) 1 false), (.ro (V.map vwV) 3 false), (.bool free), (.sl q 1 0 now.length now.length true), (.sl H.length 1 0 now.length now.length true), mv])) (some p)] [] hn ⟨rfl, (ldV hp), rfl, (ldV hp), hcp, (stK (ga hp)), trivial⟩ : ∃ l, Cl Γ Mo.T 12 [.ptr p 0] H (.int .i64 0, _, l))
  have hpl := glt hp
  have hql := glt hq
  have hp' := gset (x := .cells (dbC T V free q now.length .nils mv)) (b := .cells (dbC T V free q now.length (.sl (List.length H) 1 0 (List.length now) (List.length now) true) mv)) (ga (b := .cells (tsC now)) hp)
  have hml : ∀ i, slId mv = some i → i ≠ p ∧ i ≠ q ∧ i < H.length := fun i hi => ⟨(hmn i hi).1, (hmn i hi).2.1, by
   have := DBA.lt ⟨q, _, mv, hb⟩ i (by rw [ids_of hp]; simp [hi])
   exact this⟩
  refine ⟨_, l, h, ⟨q, (.sl (List.length H) 1 0 (List.length now) (List.length now) true), mv, ⟨hp', gne (Ne.symm hqp) (ga hq), ⟨H.length, rfl, gne (by omega) gl, rfl⟩, hm.keep fun i x hi hx => gne (Ne.symm (hml i hi).1) (ga hx), ?_⟩⟩, Step.of hp hp' (by simp) (fun i hi => ?_) fun i x hi hx => gne (fun e => hi (by rw [ids_of hp, e]; simp)) (ga hx)⟩
  ·rw [ids_of hp']
   have := hb.nd
   rw [ids_of hp] at this
   cases hmv : slId mv with
   | none => simp [hmv, slId] at this ⊢; omega
   | some i => have := hml i hmv; simp [hmv, slId] at this ⊢; omega
  ·simp only [slId, Option.toList_some, List.mem_cons, List.mem_append] at hi ⊢
   rcases hi with rfl | (rfl | hi) | hi
   ·exact .inl (.inl rfl)
   ·exact .inr (Nat.le_refl _)
   ·simp at hi
   ·exact .inl (.inr (.inr hi))
theorem end_cl (hn : Γ 53 = none) {T : List (List Int)} {V : List Vw} {free : Bool} {p : Nat} {s : DS} {H : List Blk} (hd : DBA T V free H p s) (st : Bool) :
  ∃ H' lo, Cl Γ Mo.T 53 [.ptr p 0, .bool st] H (.int .i64 (endS s st).1, H', lo) ∧ DBA T V free H' p (endS s st).2 ∧ Step H p H' := by
 obtain ⟨q, wv, mv, hb⟩ := hd
 obtain ⟨hqp, hwn, hmn⟩ := hb.ne
 have hw := hb.hw
 have hp := hb.hp
 have hq := hb.hq
 obtain ⟨now, was, marks⟩ := s
 simp only at hp hq hw
 cases was with
 | none =>
  have hwv : wv = .nils := hw
  subst hwv
  obtain ⟨l, h⟩ := (clV 1 (af := a53) (r := (.int .i64 13)) (h' := H) [.q (.isNil 0 false (.c (.ptr p 0))) false, .f (.load none (.c (.ptr p 4))) .nils, .q (.isNil 1 false (.c .nils)) true] [] hn ⟨rfl, (ldV hp), rfl, trivial⟩ : ∃ l, Cl Γ Mo.T 53 [.ptr p 0, .bool st] H (.int .i64 13, H, l))
  exact ⟨H, l, h, ⟨q, _, mv, hb⟩, Step.refl H p⟩
 | some ts =>
  obtain ⟨qw, rfl, hqw, htl⟩ := hw
  obtain ⟨hwp, hwq⟩ := hwn qw rfl
  have hpl := glt hp
  cases st with
  | true =>
   obtain ⟨l, h⟩ := (clV 1 (af := a53) (r := (.int .i64 0)) (h' := (List.set (H.set p (.cells [(.ro (T.map tV) 1 false), (.ro (V.map vwV) 3 false), (.bool free), (.sl q 1 0 now.length now.length true), .nils, mv])) p (.cells [(.ro (T.map tV) 1 false), (.ro (V.map vwV) 3 false), (.bool free), (.sl q 1 0 now.length now.length true), .nils, .nils]))) [.q (.isNil 0 false (.c (.ptr p 0))) false, .f (.load none (.c (.ptr p 4))) (.sl qw 1 0 now.length now.length true), .q (.isNil 1 false (.c (.sl qw 1 0 now.length now.length true))) false, .w (.store 1 (.c (.ptr p 4)) (.c .nils)) (.tup []) (H.set p (.cells [(.ro (T.map tV) 1 false), (.ro (V.map vwV) 3 false), (.bool free), (.sl q 1 0 now.length now.length true), .nils, mv])) (some p), .w (.store 1 (.c (.ptr p 5)) (.c .nils)) (.tup []) (List.set (H.set p (.cells [(.ro (T.map tV) 1 false), (.ro (V.map vwV) 3 false), (.bool free), (.sl q 1 0 now.length now.length true), .nils, mv])) p (.cells [(.ro (T.map tV) 1 false), (.ro (V.map vwV) 3 false), (.bool free), (.sl q 1 0 now.length now.length true), .nils, .nils])) (some p)] [] hn ⟨rfl, (ldV hp), rfl, (stK hp), (stK (gset hp)), trivial⟩ : ∃ l, Cl Γ Mo.T 53 [.ptr p 0, .bool true] H (.int .i64 0, _, l))
   have hp' : ((List.set (List.set H p (.cells [(.ro (List.map tV T) 1 false), (.ro (List.map vwV V) 3 false), (.bool free), (.sl q 1 0 (List.length now) (List.length now) true), .nils, mv])) p (.cells [(.ro (List.map tV T) 1 false), (.ro (List.map vwV V) 3 false), (.bool free), (.sl q 1 0 (List.length now) (List.length now) true), .nils, .nils])))[p]? = some (.cells (dbC T V free q now.length .nils .nils)) := gset (gset hp)
   refine ⟨_, l, h, ⟨q, .nils, .nils, ⟨hp', gne (Ne.symm hqp) (gne (Ne.symm hqp) hq), rfl, .inl ⟨rfl, rfl⟩, ?_⟩⟩, Step.of hp hp' (by simp) (fun i hi => .inl (by simp [slId] at hi ⊢; exact .inl hi)) fun i x hi hx => gne (fun e => hi (by rw [ids_of hp, e]; simp)) (gne (fun e => hi (by rw [ids_of hp, e]; simp)) hx)⟩
   rw [ids_of hp']
   simp [slId]; omega
  | false =>
   obtain ⟨l, h⟩ := (clV 1 (af := a53) (r := (.int .i64 0)) (h' := (List.set (List.set (H.set p (.cells [(.ro (T.map tV) 1 false), (.ro (V.map vwV) 3 false), (.bool free), (.sl qw 1 0 now.length now.length true), (.sl qw 1 0 now.length now.length true), mv])) p (.cells [(.ro (T.map tV) 1 false), (.ro (V.map vwV) 3 false), (.bool free), (.sl qw 1 0 now.length now.length true), .nils, mv])) p (.cells [(.ro (T.map tV) 1 false), (.ro (V.map vwV) 3 false), (.bool free), (.sl qw 1 0 now.length now.length true), .nils, .nils]))) [.q (.isNil 0 false (.c (.ptr p 0))) false, .f (.load none (.c (.ptr p 4))) (.sl qw 1 0 now.length now.length true), .q (.isNil 1 false (.c (.sl qw 1 0 now.length now.length true))) false, .f (.load none (.c (.ptr p 4))) (.sl qw 1 0 now.length now.length true), .w (.store 1 (.c (.ptr p 3)) (.c (.sl qw 1 0 now.length now.length true))) (.tup []) (H.set p (.cells [(.ro (T.map tV) 1 false), (.ro (V.map vwV) 3 false), (.bool free), (.sl qw 1 0 now.length now.length true), (.sl qw 1 0 now.length now.length true), mv])) (some p), .w (.store 1 (.c (.ptr p 4)) (.c .nils)) (.tup []) (List.set (H.set p (.cells [(.ro (T.map tV) 1 false), (.ro (V.map vwV) 3 false), (.bool free), (.sl qw 1 0 now.length now.length true), (.sl qw 1 0 now.length now.length true), mv])) p (.cells [(.ro (T.map tV) 1 false), (.ro (V.map vwV) 3 false), (.bool free), (.sl qw 1 0 now.length now.length true), .nils, mv])) (some p), .w (.store 1 (.c (.ptr p 5)) (.c .nils)) (.tup []) (List.set (List.set (H.set p (.cells [(.ro (T.map tV) 1 false), (.ro (V.map vwV) 3 false), (.bool free), (.sl qw 1 0 now.length now.length true), (.sl qw 1 0 now.length now.length true), mv])) p (.cells [(.ro (T.map tV) 1 false), (.ro (V.map vwV) 3 false), (.bool free), (.sl qw 1 0 now.length now.length true), .nils, mv])) p (.cells [(.ro (T.map tV) 1 false), (.ro (V.map vwV) 3 false), (.bool free), (.sl qw 1 0 now.length now.length true), .nils, .nils])) (some p)] [] hn ⟨rfl, (ldV hp), rfl, (ldV hp), (stK hp), (stK (gset hp)), (stK (gset (gset hp))), trivial⟩ : ∃ l, Cl Γ Mo.T 53 [.ptr p 0, .bool false] H (.int .i64 0, _, l))
   have hp' : ((List.set (List.set (List.set H p (.cells [(.ro (List.map tV T) 1 false), (.ro (List.map vwV V) 3 false), (.bool free), (.sl qw 1 0 (List.length now) (List.length now) true), (.sl qw 1 0 (List.length now) (List.length now) true), mv])) p (.cells [(.ro (List.map tV T) 1 false), (.ro (List.map vwV V) 3 false), (.bool free), (.sl qw 1 0 (List.length now) (List.length now) true), .nils, mv])) p (.cells [(.ro (List.map tV T) 1 false), (.ro (List.map vwV V) 3 false), (.bool free), (.sl qw 1 0 (List.length now) (List.length now) true), .nils, .nils])))[p]? = some (.cells (dbC T V free qw ts.length .nils .nils)) := by rw [htl]; exact gset (gset (gset hp))
   refine ⟨_, l, h, ⟨qw, .nils, .nils, ⟨hp', gne (Ne.symm hwp) (gne (Ne.symm hwp) (gne (Ne.symm hwp) hqw)), rfl, .inl ⟨rfl, rfl⟩, ?_⟩⟩, Step.of hp hp' (by simp) (fun i hi => .inl (by simp [slId] at hi ⊢; exact .inr (.inl hi))) fun i x hi hx => gne (fun e => hi (by rw [ids_of hp, e]; simp)) (gne (fun e => hi (by rw [ids_of hp, e]; simp)) (gne (fun e => hi (by rw [ids_of hp, e]; simp)) hx))⟩
   rw [ids_of hp']
   simp [slId]; omega
theorem commit_cl (hn : Γ 14 = none) (hn2 : Γ 53 = none) {T : List (List Int)} {V : List Vw} {free : Bool} {p : Nat} {s : DS} {H : List Blk} (hd : DBA T V free H p s) :
  ∃ H' lo, Cl Γ Mo.T 14 [.ptr p 0] H (.int .i64 (endS s true).1, H', lo) ∧ DBA T V free H' p (endS s true).2 ∧ Step H p H' := by
 obtain ⟨H', lc, hcp, h1, h2⟩ := end_cl hn2 hd true
 obtain ⟨l, h⟩ := (clV 1 (af := a14) (r := (.int .i64 (Prod.fst (endS s true)))) (h' := H') [.r 53 [(.ptr p 0), (.bool true)] (.int .i64 (Prod.fst (endS s true))) H' lc] [] hn ⟨hcp, trivial⟩ : ∃ l, Cl Γ Mo.T 14 [.ptr p 0] H (.int .i64 (endS s true).1, H', l))
 exact ⟨H', l, h, h1, h2⟩
theorem abort_cl (hn : Γ 16 = none) (hn2 : Γ 53 = none) {T : List (List Int)} {V : List Vw} {free : Bool} {p : Nat} {s : DS} {H : List Blk} (hd : DBA T V free H p s) :
  ∃ H' lo, Cl Γ Mo.T 16 [.ptr p 0] H (.int .i64 (endS s false).1, H', lo) ∧ DBA T V free H' p (endS s false).2 ∧ Step H p H' := by
 obtain ⟨H', lc, hcp, h1, h2⟩ := end_cl hn2 hd false
 obtain ⟨l, h⟩ := (clV 1 (af := a16) (r := (.int .i64 (Prod.fst (endS s false)))) (h' := H') [.r 53 [(.ptr p 0), (.bool false)] (.int .i64 (Prod.fst (endS s false))) H' lc] [] hn ⟨hcp, trivial⟩ : ∃ l, Cl Γ Mo.T 16 [.ptr p 0] H (.int .i64 (endS s false).1, H', l))
 exact ⟨H', l, h, h1, h2⟩
end
end Go.Proofs.YtenpjpldjmoefaaGreat.AM.Mo

/-
  'gauger's law ModelBack holds of every input: it returns true, and each argument reads behind the call as it read before.
  This text: part 15 of 22 of the proof (MoK, MoL, MoM, MoR).
-/
import Derived.Test.YtenpjpldjmoefaaGreatMan
import Derived.Test.YtenpjpldjmoefaaGreatMal
set_option linter.unusedVariables false
set_option linter.unusedSimpArgs false
set_option maxRecDepth 100000
set_option maxHeartbeats 4000000
namespace Go.Proofs.YtenpjpldjmoefaaGreat.AM.Mo
open Go
noncomputable def gamK : List (Nat × GF) := (122, ovG) :: gam8
theorem KK : Known (gGet gamK) tree.get Tryz.prog := known_of (by kernel_rfl) ⟨ov_ok, oft_ok, ofv_ok, isVal_ok, view_ok, grp_ok, tot_ok, adt_ok, fit_ok, code_ok, int_ok, of_ok, add_ok, cmp_ok, good_ok, xSub_ok, xAdd_ok, trivial⟩ all
noncomputable abbrev GK : FuncId → Option GF := gGet gamK
def insL (rows : List (List Val)) (i : Nat) (row : List Val) : List (List Val) := rows.take i ++ row :: rows.drop i
theorem wr1 {n : Nat} (h : n + 1 < 9223372036854775808) : IntKind.i64.wrap ((n : Int) + 1) = ((n + 1 : Nat) : Int) := by rw [IntWalk.i64_in _ (by omega)]; rfl
section
variable {G : List Blk} {b vb n c i : Nat} {zs : List AV} {x : AV}
theorem sl_el {off len cap : Nat} {ex : Bool} (hb : G[b]? = some (.cells zs)) (hl : off + len ≤ zs.length) : elems G 1 (.sl b 1 off len cap ex) = some ((zs.drop off).take len) := by
 simp only [elems, if_pos]
 by_cases h0 : len = 0
 ·rw [if_pos h0, h0]; simp
 ·rw [if_neg h0]
  simp only [rdCells, hb, Nat.mul_one]
  rw [if_pos hl]
theorem sl_from {id k len cap : Nat} {ex : Bool} (h : k ≤ len) (hc : len ≤ cap) : pOp evC G (.slc 1 (.c (.sl id 1 0 len cap ex)) (some (.c (.int .i64 (k : Int)))) none none) = some (.sl id 1 k (len - k) (cap - k) ex) := by
 simp [pOp, evC, optNat, asNat, h, hc]
theorem sl_to {id k len cap : Nat} {ex : Bool} (hc : k ≤ cap) : pOp evC G (.slc 1 (.c (.sl id 1 0 len cap ex)) none (some (.c (.int .i64 (k : Int)))) none) = some (.sl id 1 0 k cap ex) := by
 simp [pOp, evC, optNat, asNat, hc]
theorem cp_in {off len cap k : Nat} {ex : Bool} {src : AV} {xs : List AV} (hb : G[b]? = some (.cells zs)) (hs : elems G 1 src = some xs) (hl : lenOf src = some k) (hk : xs.length = k) (h0 : 0 < len) (h1 : 0 < k) (ho : off + (if k ≤ len then k else len) ≤ zs.length) (hone : xs.all AV.one = true) :
  wOp evC G (.copy 1 (.c (.sl b 1 off len cap ex)) (.c src)) = some (.int .i64 ((if k ≤ len then k else len : Nat) : Int), G.set b (.cells (splice zs off (xs.take (if k ≤ len then k else len)))), some b) := by
 have hm : (if k ≤ len then k else len) ≠ 0 := by split <;> omega
 have hxl : (xs.take (if k ≤ len then k else len)).length = if k ≤ len then k else len := by rw [List.length_take, hk]; split <;> omega
 have hall : (xs.take (if k ≤ len then k else len)).all AV.one = true := by
  rw [List.all_eq_true] at hone ⊢
  exact fun v hv => hone v (List.mem_of_mem_take hv)
 have hd : lenOf (.sl b 1 off len cap ex) = some len := rfl
 simp only [wOp, evC, hd, hl, hs, Nat.mul_one, if_pos]
 generalize (if k ≤ len then k else len) = mm at hm hxl hall ho ⊢
 rw [if_neg hm]
 simp only [wrCells, hb]
 rw [if_pos (by rw [hxl, hall]; simp [ho])]
 rfl
theorem ap_in (hb : G[b]? = some (.cells zs)) (hv : G[vb]? = some (.cells [x])) (hc : n + 1 ≤ c) (hz : zs.length = c) (h1 : x.one = true) (hcl : n ≤ 1000000) :
  wOp evC G (.append 1 24 (.c (.sl b 1 0 n c true)) (.c (.sl vb 1 0 1 1 true))) = some (.sl b 1 0 (n + 1) c true, G.set b (.cells (splice zs n [x])), some b) := by
 have hx : elems G 1 (.sl vb 1 0 1 1 true) = some [x] := sl_el hv (by simp)
 have hone : ([x] : List AV).all AV.one = true := by simp [h1]
 simp only [wOp, evC, lenOf, hx, Nat.one_ne_zero, if_false]
 rw [if_pos (by simp [hone]; omega), if_pos hc]
 simp only [wrCells, hb, Nat.zero_add, Nat.mul_one]
 rw [if_pos (by simp [h1]; omega)]
 rfl
theorem ap_new (hb : G[b]? = some (.cells zs)) (hv : G[vb]? = some (.cells [x])) (hz : zs.length = n) (h1 : x.one = true) (hcl : n ≤ 1000000) :
  wOp evC G (.append 1 24 (.c (.sl b 1 0 n n true)) (.c (.sl vb 1 0 1 1 true))) = some (.sl G.length 1 0 (n + 1) (n + 1) false, G ++ [.cells (zs ++ [x])], none) := by
 have hx : elems G 1 (.sl vb 1 0 1 1 true) = some [x] := sl_el hv (by simp)
 have hs : elems G 1 (.sl b 1 0 n n true) = some zs := by rw [sl_el hb (by omega)]; simp [← hz]
 have hone : ([x] : List AV).all AV.one = true := by simp [h1]
 simp only [wOp, evC, lenOf, hx, Nat.one_ne_zero, if_false]
 rw [if_pos (by simp [hone]; omega), if_neg (by omega), hs]
 rfl
theorem spl_app {cs : List AV} (hz : zs.take n = cs) (hn : cs.length = n) (hc : n + 1 ≤ zs.length) : (splice zs n [x]).take (n + 1) = cs ++ [x] := by
 unfold splice
 rw [hz]
 simp only [List.length_singleton, List.cons_append, List.nil_append]
 rw [List.take_append, hn, List.take_of_length_le (by omega)]
 simp
theorem spl_in {cs : List AV} (hz : zs.take n = cs) (hn : cs.length = n) (hc : n + 1 ≤ zs.length) (hi : i ≤ n) : (splice (splice zs (i + 1) (cs.drop i)) i [x]).take (n + 1) = cs.take i ++ x :: cs.drop i := by
 have hti : zs.take i = cs.take i := by rw [← hz, List.take_take, Nat.min_eq_left hi]
 have e1 : splice zs (i + 1) (cs.drop i) = zs.take (i + 1) ++ (cs.drop i ++ zs.drop (i + 1 + (cs.drop i).length)) := rfl
 have l1 : (zs.take (i + 1)).length = i + 1 := by simp; omega
 have e2 : (splice zs (i + 1) (cs.drop i)).take i = cs.take i := by
  rw [e1, List.take_append_of_le_length (by omega), List.take_take, Nat.min_eq_left (by omega), hti]
 have e3 : (splice zs (i + 1) (cs.drop i)).drop (i + 1) = cs.drop i ++ zs.drop (i + 1 + (cs.drop i).length) := by
  rw [e1, List.drop_left' l1]
 rw [splice, e2, List.length_singleton, e3, List.singleton_append, ← List.cons_append, ← List.append_assoc]
 exact List.take_left' (by simp; omega)
theorem spl_new {cs : List AV} (hn : cs.length = n) (hi : i ≤ n) : splice (splice (cs.take i ++ List.replicate (n + 1 - i) AV.nils) i [x]) (i + 1) (cs.drop i) = cs.take i ++ x :: cs.drop i := by
 have l1 : (cs.take i).length = i := by simp; omega
 have e1 : splice (cs.take i ++ List.replicate (n + 1 - i) AV.nils) i [x] = (cs.take i ++ [x]) ++ List.replicate (n - i) AV.nils := by
  rw [splice, List.take_left' l1, List.length_singleton, List.drop_append, List.drop_of_length_le (by omega), List.nil_append, List.drop_replicate, List.append_assoc]
  congr 3
  omega
 have l2 : (cs.take i ++ [x]).length = i + 1 := by simp; omega
 rw [e1]
 unfold splice
 have e4 : ((cs.take i ++ [x]) ++ List.replicate (n - i) AV.nils).drop (i + 1 + (cs.drop i).length) = [] := List.drop_of_length_le (by simp; omega)
 rw [List.take_left' l2, e4, List.append_nil, List.append_assoc]
 rfl
end
theorem flatL (xs : List (List Val)) : (lsR xs).flatten = xs.map rV := by
 induction xs with
 | nil => rfl
 | cons a r ih => simp only [lsR, List.map_cons, List.flatten_cons] at ih ⊢; rw [ih]; rfl
theorem all_one (rows : List (List Val)) : (rows.map rV).all AV.one = true := by
 rw [List.all_eq_true]
 intro v hv
 obtain ⟨r, _, rfl⟩ := List.mem_map.1 hv
 rfl
theorem ins_fin {args : List AV} {H0 H H' : List Blk} {b id N cap : Nat} {ex : Bool} {zs : List AV} {xs : List (List Val)} (hs : AMS Tryz.prog 95 args H0 (.sl id 1 0 N cap ex) H') (hz : H'[id]? = some (.cells zs)) (htk : zs.take N = xs.map rV) (hN : N = xs.length) (hN0 : 0 < N)
  (hlt : H'.length ≤ H.length + 1) (hfr : ∀ (j : Nat) (bl : Blk), j ≠ b → H[j]? = some bl → H'[j]? = some bl) (hid : id = b ∨ H.length ≤ id) : AMS Tryz.prog 95 args H0 (bV xs) (H.set b .gone ++ [.gone]) := by
 have hzl : N ≤ zs.length := by
  have := congrArg List.length htk
  rw [List.length_take, List.length_map] at this
  omega
 have hm : mapO (AM.frz (subB [id] H') 3) (xs.map rV) = some (xs.map rV) := by
  clear hs hz htk hN
  induction xs with
  | nil => rfl
  | cons a r ih => rw [List.map_cons, mapO, ih, frz_vs]
 have helts : elts 1 (xs.map rV) xs.length = xs.map rV := by
  have := elts_flat (st := 1) (es := lsR xs) (fun e he => (lsR_ok e he).1)
  rw [lsR_elt, List.length_map, flatL] at this
  exact this
 have hf : ∃ ex', AM.frz (subB [id] H') 4 (.sl id 1 0 N cap ex) = some (.ro (xs.map rV) 1 ex') := by
  rw [AM.frz, if_neg (by omega), subB_get hz (by simp)]
  simp only [Nat.zero_add, Nat.mul_one, List.drop_zero]
  rw [if_pos (by simp [hzl]), htk, hm, Option.bind_some, if_pos (all_one xs), hN, helts]
  exact ⟨_, rfl⟩
 obtain ⟨ex', hf⟩ := hf
 have h1 := (AMS.freezeR (subB_ok [id] H') (offB_ok [id] H') hf hs).cv ⟨rfl, fun i b' h => ⟨b', h, .refl _⟩⟩ Cv.ex
 refine h1.drop (by rw [offB_len]; simp; omega) fun j bl hj hg => ?_
 by_cases hjl : j < H.length
 ·rw [List.getElem?_append_left (by simpa using hjl)] at hj
  by_cases hjb : j = b
  ·subst hjb
   rw [List.getElem?_set_self hjl] at hj
   cases hj
   exact absurd rfl hg
  ·rw [List.getElem?_set_ne (Ne.symm hjb)] at hj
   exact offB_get (hfr j bl hjb hj) (by simp; rcases hid with rfl | h; exact hjb; omega)
 ·rw [List.getElem?_append_right (by simp; omega)] at hj
  have : bl = .gone := by
   cases hk : j - (H.set b .gone).length with
   | zero => rw [hk] at hj; cases hj; rfl
   | succ k => rw [hk] at hj; simp at hj
  exact absurd this hg
theorem insA_cl {G : List Blk} {b vb n c : Nat} {zs : List AV} {x : AV} (hb : G[b]? = some (.cells zs)) (hv : G[vb]? = some (.cells [x])) (hnc : n ≤ c) (hz : zs.length = c) (h1 : x.one = true) (hcl : n ≤ 1000000) :
  ∃ r G' lo, Cl GK Mo.T 95 [(.sl b 1 0 n c true), .int .i64 (n : Int), (.sl vb 1 0 1 1 true)] G (r, G', lo) ∧ ((n + 1 ≤ c ∧ r = .sl b 1 0 (n + 1) c true ∧ G' = G.set b (.cells (splice zs n [x]))) ∨ (c = n ∧ r = .sl G.length 1 0 (n + 1) (n + 1) false ∧ G' = G ++ [.cells (zs ++ [x])])) := by
 by_cases hc : n + 1 ≤ c
 ·obtain ⟨lo, h⟩ := (clV 1 (af := a95) (r := (.sl b 1 0 (n + 1) c true)) (h' := (G.set b (.cells (splice zs n [x])))) [.f (.slc 1 (.c (.sl b 1 0 n c true)) (some (.c (.int .i64 (n : Int)))) none none) (.sl b 1 n (n - n) (c - n) true), .b ((1 : Int) == 0) false, .b ((n : Int) == (n : Int)) true, .w (.append 1 24 (.c (.sl b 1 0 n c true)) (.c (.sl vb 1 0 1 1 true))) (.sl b 1 0 (n + 1) c true) (G.set b (.cells (splice zs n [x]))) (some b)] [] (by kernel_rfl) ⟨(sl_from (Nat.le_refl _) hnc), rfl, (cE rfl), (ap_in hb hv hc hz h1 hcl), trivial⟩ : ∃ lo, Cl GK Mo.T 95 [(.sl b 1 0 n c true), .int .i64 (n : Int), (.sl vb 1 0 1 1 true)] G (_, _, lo))
  exact ⟨_, _, lo, h, .inl ⟨hc, rfl, rfl⟩⟩
 ·have hcn : c = n := by omega
  subst hcn
  obtain ⟨lo, h⟩ := (clV 1 (af := a95) (r := (.sl G.length 1 0 (c + 1) (c + 1) false)) (h' := (G ++ [(.cells (zs ++ [x]))])) [.f (.slc 1 (.c (.sl b 1 0 c c true)) (some (.c (.int .i64 (c : Int)))) none none) (.sl b 1 c (c - c) (c - c) true), .b ((1 : Int) == 0) false, .b ((c : Int) == (c : Int)) true, .w (.append 1 24 (.c (.sl b 1 0 c c true)) (.c (.sl vb 1 0 1 1 true))) (.sl G.length 1 0 (c + 1) (c + 1) false) (G ++ [(.cells (zs ++ [x]))]) none] [] (by kernel_rfl) ⟨(sl_from (Nat.le_refl _) (Nat.le_refl _)), rfl, (cE rfl), (ap_new hb hv hz h1 hcl), trivial⟩ : ∃ lo, Cl GK Mo.T 95 [.sl b 1 0 c c true, .int .i64 (c : Int), (.sl vb 1 0 1 1 true)] G (_, _, lo))
  exact ⟨_, _, lo, h, .inr ⟨rfl, rfl, rfl⟩⟩
def ar1 : ACode → ACode
 | .cond _ a _ => a
 | c => c
def gar1 : Code → Code
 | .cond _ a _ => a
 | c => c
def gar2 : Code → Code
 | .cond _ _ b => b
 | c => c
noncomputable def hB95 : Code := (Tryz.f95.body).getD .skip
noncomputable def hS95 : Code := gtl (gtl (gtl (gtl (gtl (gtl hB95)))))
noncomputable def hR8 : Code := ghd (ghd hS95)
noncomputable def oK8 : List Oper := gops hR8
noncomputable def oN8 : Oper := oK8.getD 4 ⟨none, .assign (.tmp 0), 0, "", #[], none⟩
noncomputable def hC8 : Code := gtl (ghd hS95)
noncomputable def hR9 : Code := ghd (gar1 hC8)
noncomputable def oK9 : List Oper := gops hR9
noncomputable def oN9 : Oper := oK9.getD 8 ⟨none, .assign (.tmp 0), 0, "", #[], none⟩
theorem hB95_is : hB95 = .seq (ghd hB95) (.seq (ghd (gtl hB95)) (.seq (ghd (gtl (gtl hB95))) (.seq (ghd (gtl (gtl (gtl hB95)))) (.seq (ghd (gtl (gtl (gtl (gtl hB95))))) (.seq (ghd (gtl (gtl (gtl (gtl (gtl hB95)))))) (.seq (.seq (.region (gid hR8) oK8.toArray false) hC8) (gtl hS95))))))) := by kernel_rfl
theorem hC8_is : hC8 = .cond (.tmp 31) (.seq (.region (gid hR9) oK9.toArray false) (gtl (gar1 hC8))) (gar2 hC8) := by kernel_rfl
theorem resT6 {t : List AV} {h : List Blk} {lo : Option Nat} {r : AV} (hl : Lv 95 [(6, r)] t) : resAll ({ t := t, h := h, lo := lo } : St) [.t 6] = some [r] := by
 have := hl.get (6, r) (by simp)
 rw [getX_eq] at this
 simp [resAll, resOf, this]
theorem insB_ams {G : List Blk} {b vb n c i : Nat} {zs cs : List AV} {x : AV} (hb : G[b]? = some (.cells zs)) (hv : G[vb]? = some (.cells [x])) (hne : vb ≠ b) (hc : n + 1 ≤ c) (hz : zs.length = c) (htk : zs.take n = cs) (hcs : cs.length = n) (hone : zs.all AV.one = true ∨ cs.all AV.one = true) (h1 : x.one = true) (hcl : n ≤ 1000000) (hin : i < n) :
  AMS Tryz.prog 95 [(.sl b 1 0 n c true), .int .i64 (i : Int), (.sl vb 1 0 1 1 true)] G (.sl b 1 0 (n + 1) c true) (List.set (List.set G b (.cells (splice zs (i + 1) (List.drop i cs)))) b (.cells (splice (splice zs (i + 1) (List.drop i cs)) i [x]))) := by
 have hnc : n ≤ c := by omega
 have hcone : cs.all AV.one = true := by
  rcases hone with h | h
  ·rw [List.all_eq_true] at h ⊢
   intro v hv
   rw [← htk] at hv
   exact h v (List.mem_of_mem_take hv)
  ·exact h
 have hl0 : Lv 95 [(0, (.sl b 1 0 n c true)), (1, (.int .i64 (i : Int))), (2, (.sl vb 1 0 1 1 true))] ([(.sl b 1 0 n c true), (.int .i64 (i : Int)), (.sl vb 1 0 1 1 true)] ++ List.replicate (Tryz.f95.ntmps - 3) (.tup [])) := ⟨by kernel_rfl, by simp [getX_eq]⟩
 obtain ⟨e0, s0, ⟨rfl, t0, lo0, rfl, hl1⟩, d0⟩ := DC.det KK (P := Tryz.prog) (code := ghd hB95) (c := hd a95.body) (by kernel_rfl) (pathE (Γ := GK) (tbl := Mo.T) (k := hd a95.body) (h := G) (lo := none) (nt := 95) [] [0, 1, 2] (e := .normal) (vals := [(.sl b 1 0 n c true), (.int .i64 (i : Int)), (.sl vb 1 0 1 1 true)]) (h' := G) hl0 (fun _ => by kernel_rfl) trivial)
 obtain ⟨e1, s1, ⟨rfl, t1, lo1, rfl, hl2⟩, d1⟩ := DC.det KK (P := Tryz.prog) (code := ghd (gtl hB95)) (c := hd (tl a95.body)) (by kernel_rfl) (pathE (Γ := GK) (tbl := Mo.T) (k := hd (tl a95.body)) (h := G) (lo := lo0) (nt := 95) [.f (.slc 1 (.c (.sl b 1 0 n c true)) (some (.c (.int .i64 (i : Int)))) none none) (.sl b 1 i (n - i) (c - i) true)] [0, 1, 2] (e := .normal) (vals := [(.sl b 1 0 n c true), (.int .i64 (i : Int)), (.sl vb 1 0 1 1 true)]) (h' := G) hl1 (fun _ => by kernel_rfl) ⟨(sl_from (Nat.le_of_lt hin) hnc), trivial⟩)
 obtain ⟨e2, s2, ⟨rfl, t2, lo2, rfl, hl3⟩, d2⟩ := DC.det KK (P := Tryz.prog) (code := ghd (gtl (gtl hB95))) (c := hd (tl (tl a95.body))) (by kernel_rfl) (pathE (Γ := GK) (tbl := Mo.T) (k := hd (tl (tl a95.body))) (h := G) (lo := lo1) (nt := 95) [] [0, 1, 2, 7] (e := .normal) (vals := [(.sl b 1 0 n c true), (.int .i64 (i : Int)), (.sl vb 1 0 1 1 true), (.int .i64 (1 : Int))]) (h' := G) hl2 (fun _ => by kernel_rfl) trivial)
 obtain ⟨e3, s3, ⟨rfl, t3, lo3, rfl, hl4⟩, d3⟩ := DC.det KK (P := Tryz.prog) (code := ghd (gtl (gtl (gtl hB95)))) (c := hd (tl (tl (tl a95.body)))) (by kernel_rfl) (pathE (Γ := GK) (tbl := Mo.T) (k := hd (tl (tl (tl a95.body)))) (h := G) (lo := lo2) (nt := 95) [.b ((1 : Int) == 0) false] [0, 1, 2, 7] (e := .normal) (vals := [(.sl b 1 0 n c true), (.int .i64 (i : Int)), (.sl vb 1 0 1 1 true), (.int .i64 (1 : Int))]) (h' := G) hl3 (fun _ => by kernel_rfl) ⟨rfl, trivial⟩)
 obtain ⟨e4, s4, ⟨rfl, t4, lo4, rfl, hl5⟩, d4⟩ := DC.det KK (P := Tryz.prog) (code := ghd (gtl (gtl (gtl (gtl hB95))))) (c := hd (tl (tl (tl (tl a95.body))))) (by kernel_rfl) (pathE (Γ := GK) (tbl := Mo.T) (k := hd (tl (tl (tl (tl a95.body))))) (h := G) (lo := lo3) (nt := 95) [] [0, 1, 2, 7, 8] (e := .normal) (vals := [(.sl b 1 0 n c true), (.int .i64 (i : Int)), (.sl vb 1 0 1 1 true), (.int .i64 (1 : Int)), (.int .i64 (n : Int))]) (h' := G) hl4 (fun _ => by kernel_rfl) trivial)
 obtain ⟨e5, s5, ⟨rfl, t5, lo5, rfl, hl6⟩, d5⟩ := DC.det KK (P := Tryz.prog) (code := ghd (gtl (gtl (gtl (gtl (gtl hB95)))))) (c := hd (tl (tl (tl (tl (tl a95.body)))))) (by kernel_rfl) (pathE (Γ := GK) (tbl := Mo.T) (k := hd (tl (tl (tl (tl (tl a95.body)))))) (h := G) (lo := lo4) (nt := 95) [.b ((i : Int) == (n : Int)) false] [0, 1, 2, 7, 8] (e := .normal) (vals := [(.sl b 1 0 n c true), (.int .i64 (i : Int)), (.sl vb 1 0 1 1 true), (.int .i64 (1 : Int)), (.int .i64 (n : Int))]) (h' := G) hl5 (fun _ => by kernel_rfl) ⟨(cN (show ¬ (i : Int) = (n : Int) by omega)), trivial⟩)
 obtain ⟨n8, t8, lo8, hr8, hm1⟩ := pathO (nt := 95) (Γ := GK) (tbl := Mo.T) (t := t5) (lo := lo5) (h := G) (k := [⟨(some 26), (.mv (.t 8)), none, 0, 0⟩, ⟨(some 27), (.mv (.t 7)), none, 0, 0⟩, ⟨(some 28), (.bin .add (.t 26) (.t 27)), none, 0, 0⟩, ⟨(some 29), (.mv (.t 0)), none, 0, 0⟩]) [] [0, 1, 2, 7, 8, 28, 29] (vals := [(.sl b 1 0 n c true), (.int .i64 (i : Int)), (.sl vb 1 0 1 1 true), (.int .i64 (1 : Int)), (.int .i64 (n : Int)), (.int .i64 (IntKind.i64.wrap ((n : Int) + (1 : Int)))), (.sl b 1 0 n c true)]) (h' := G) [] hl6 (fun t0 => by kernel_rfl) trivial
 have hm2 : Lv 95 [(0, (.sl b 1 0 n c true)), (1, (.int .i64 (i : Int))), (2, (.sl vb 1 0 1 1 true)), (7, (.int .i64 (1 : Int))), (8, (.int .i64 (n : Int))), (28, (.int .i64 (IntKind.i64.wrap ((n : Int) + (1 : Int))))), (30, (.int .i64 (c : Int)))] (put t8 (some 30) (.int .i64 (c : Int))) := (((hm1.sub (live' := [(0, (.sl b 1 0 n c true)), (1, (.int .i64 (i : Int))), (2, (.sl vb 1 0 1 1 true)), (7, (.int .i64 (1 : Int))), (8, (.int .i64 (n : Int))), (28, (.int .i64 (IntKind.i64.wrap ((n : Int) + (1 : Int)))))]) (by simp)).put' (d := 30) (v := .int .i64 (c : Int)) (by decide) (by simp)).sub (by simp))
 have hgt : ¬ ((IntKind.i64.wrap ((n : Int) + (1 : Int))) > (c : Int)) := by rw [wr1 (by omega)]; omega
 obtain ⟨n9, t9, lo9, hr9, hm3⟩ := pathO (nt := 95) (Γ := GK) (tbl := Mo.T) (t := put t8 (some 30) (.int .i64 (c : Int))) (lo := none) (h := G) (k := [⟨(some 31), (.bin .gtr (.t 28) (.t 30)), none, 0, 0⟩]) [.b false] [0, 1, 2, 7, 8, 31] (vals := [(.sl b 1 0 n c true), (.int .i64 (i : Int)), (.sl vb 1 0 1 1 true), (.int .i64 (1 : Int)), (.int .i64 (n : Int)), (.bool false)]) (h' := G) [cB (decide ((IntKind.i64.wrap ((n : Int) + (1 : Int))) > (c : Int))) false] hm2 (fun t0 => by kernel_rfl) ⟨(cF hgt), trivial⟩
 have hc1 := runOps_mono (callF_mono (Γ := GK) (tbl := Mo.T) n8 (n8 + n9) (by omega)) _ _ _ hr8
 have hc2 := runOps_mono (callF_mono (Γ := GK) (tbl := Mo.T) n9 (n8 + n9) (by omega)) _ _ _ hr9
 have dk := DC.one (P := Tryz.prog) (call := callF GK Mo.T (n8 + n9)) (callF_sound _ Mo.T KK _) (i0 := gid hR8) (d := some 30) (ops := oK8.toArray) (oK8.take 4) (oK8.drop 5) (o := oN8) (by kernel_rfl) (by kernel_rfl) (by kernel_rfl) (s := { t := t5, h := G, lo := lo5 }) (by kernel_rfl) hc1 (.int .i64 (c : Int)) G
  (fun S m w a r ht => ⟨.int .i64 (c : Int), w, S, m, cap_op (x := .tmp 29) (ats := #[51]) (t := 51) (by kernel_rfl) rfl Tryz.underlying51 (id := b) (st := 1) (off := 0) (len := n) (cap := c) (by
   have := compO_sound ht (x := .tmp 29) (y := .t 29) rfl
   rw [hm1.ev (n := 29) (v := (.sl b 1 0 n c true)) (by simp)] at this
   exact this), .int, r, Stp.refl ..⟩) (by kernel_rfl) (s2 := { t := t9, h := G, lo := lo9 }) hc2
 have w8 := pathE (Γ := GK) (tbl := Mo.T) (k := tl (hd (tl (tl (tl (tl (tl (tl a95.body)))))))) (h := G) (lo := lo9) (nt := 95) [] [0, 1, 2, 7, 8] (e := .normal) (vals := [(.sl b 1 0 n c true), (.int .i64 (i : Int)), (.sl vb 1 0 1 1 true), (.int .i64 (1 : Int)), (.int .i64 (n : Int))]) (h' := G) hm3 (fun _ => by kernel_rfl) trivial
 obtain ⟨e10, s10, ⟨rfl, tB, loB, rfl, hmB⟩, d10⟩ := DC.det KK (P := Tryz.prog) (code := hC8) (c := tl (hd (tl (tl (tl (tl (tl (tl a95.body)))))))) (by kernel_rfl) w8
 have hw1 := wr1 (n := n) (by omega)
 have hwi := wr1 (n := i) (by omega)
 have hs1 : ∀ {G}, pOp evC G (.slc 1 (.c (.sl b 1 0 n c true)) none (some (.c (.int .i64 (IntKind.i64.wrap ((n : Int) + 1))))) none) = some (.sl b 1 0 (n + 1) c true) := by intro G; rw [hw1]; exact sl_to hc
 have hs2 : ∀ {G}, pOp evC G (.slc 1 (.c (.sl b 1 0 (n + 1) c true)) (some (.c (.int .i64 (IntKind.i64.wrap ((i : Int) + 1))))) none none) = some (.sl b 1 (i + 1) (n - i) (c - (i + 1)) true) := by
  intro G
  rw [hwi, sl_from (by omega) hc, show n + 1 - (i + 1) = n - i by omega]
 have hs3 : ∀ {G}, pOp evC G (.slc 1 (.c (.sl b 1 0 (n + 1) c true)) (some (.c (.int .i64 (i : Int)))) none none) = some (.sl b 1 i (n + 1 - i) (c - i) true) := by intro G; exact sl_from (by omega) hc
 have hs3b := @hs3
 have hov : Cl GK Mo.T 122 [(.sl vb 1 0 1 1 true), .sl b 1 (i + 1) (n - i) (c - (i + 1)) true] G (.bool false, G, none) := Cl.known (g := ovG) (by kernel_rfl) (by
  show (if (vb ≠ b ∧ isCells G vb = true) ∧ (isCells G b = true ∧ (0 < 1 ∧ 0 < n - i)) then some (AV.bool false, G, none) else none) = _
  rw [if_pos]
  exact ⟨⟨hne, by unfold isCells; rw [hv]⟩, by unfold isCells; rw [hb], by omega, by omega⟩)
 have hdl : (List.drop i cs).length = n - i := by simp; omega
 have hsrc : elems G 1 (.sl b 1 i (n + 1 - i) (c - i) true) = some ((zs.drop i).take (n + 1 - i)) := sl_el hb (by omega)
 have hsrcl : ((zs.drop i).take (n + 1 - i)).length = n + 1 - i := by simp; omega
 have htd : ((zs.drop i).take (n + 1 - i)).take (n - i) = cs.drop i := by
  rw [List.take_take, Nat.min_eq_left (by omega), ← htk, List.drop_take]
 have hcp1 : wOp evC G (.copy 1 (.c (.sl b 1 (i + 1) (n - i) (c - (i + 1)) true)) (.c (.sl b 1 i (n + 1 - i) (c - i) true))) = some (.int .i64 ((n - i : Nat) : Int), (List.set G b (.cells (splice zs (i + 1) (List.drop i cs)))), some b) := by
  have hm : (if n + 1 - i ≤ n - i then n + 1 - i else n - i) = n - i := by rw [if_neg (by omega)]
  simp only [wOp, evC, lenOf, hsrc, Nat.mul_one, if_pos, hm, htd]
  rw [if_neg (by omega)]
  simp only [wrCells, hb]
  rw [if_pos (by rw [hdl]; simp only [Bool.and_eq_true, decide_eq_true_eq]; refine ⟨by omega, ?_⟩; rw [List.all_eq_true] at hcone ⊢; exact fun v hv => hcone v (List.mem_of_mem_drop hv))]
  rfl
 have hG1b : (List.set G b (.cells (splice zs (i + 1) (List.drop i cs))))[b]? = some (.cells (splice zs (i + 1) (List.drop i cs))) := gset hb
 have hG1v : (List.set G b (.cells (splice zs (i + 1) (List.drop i cs))))[vb]? = some (.cells [x]) := gne (Ne.symm hne) hv
 have hz1 : ((splice zs (i + 1) (List.drop i cs))).length = c := by rw [splice_len (by rw [hdl]; omega), hz]
 have hcp2 : wOp evC (List.set G b (.cells (splice zs (i + 1) (List.drop i cs)))) (.copy 1 (.c (.sl b 1 i (n + 1 - i) (c - i) true)) (.c (.sl vb 1 0 1 1 true))) = some (.int .i64 ((1 : Nat) : Int), (List.set (List.set G b (.cells (splice zs (i + 1) (List.drop i cs)))) b (.cells (splice (splice zs (i + 1) (List.drop i cs)) i [x]))), some b) := by
  have := cp_in (off := i) (len := n + 1 - i) (cap := c - i) (ex := true) (src := (.sl vb 1 0 1 1 true)) (k := 1) (xs := [x]) hG1b (sl_el hG1v (by simp)) rfl rfl (by omega) (by omega) (by rw [if_pos (by omega)]; omega) (by simp [h1])
  rw [if_pos (by omega)] at this
  exact this
 have w9 := pathE (Γ := GK) (tbl := Mo.T) (k := tl (tl (tl (tl (tl (tl (tl a95.body))))))) (h := G) (lo := loB) (nt := 95) [.f (.slc 1 (.c (.sl b 1 0 n c true)) none (some (.c (.int .i64 (IntKind.i64.wrap ((n : Int) + (1 : Int)))))) none) (.sl b 1 0 (n + 1) c true), .f (.slc 1 (.c (.sl b 1 0 (n + 1) c true)) (some (.c (.int .i64 (IntKind.i64.wrap ((i : Int) + (1 : Int)))))) none none) (.sl b 1 (i + 1) (n - i) (c - (i + 1)) true), .r 122 [(.sl vb 1 0 1 1 true), (.sl b 1 (i + 1) (n - i) (c - (i + 1)) true)] (.bool false) G none, .f (.slc 1 (.c (.sl b 1 0 (n + 1) c true)) (some (.c (.int .i64 (IntKind.i64.wrap ((i : Int) + (1 : Int)))))) none none) (.sl b 1 (i + 1) (n - i) (c - (i + 1)) true), .f (.slc 1 (.c (.sl b 1 0 (n + 1) c true)) (some (.c (.int .i64 (i : Int)))) none none) (.sl b 1 i (n + 1 - i) (c - i) true), .w (.copy 1 (.c (.sl b 1 (i + 1) (n - i) (c - (i + 1)) true)) (.c (.sl b 1 i (n + 1 - i) (c - i) true))) (.int .i64 ((n - i : Nat) : Int)) (G.set b (.cells (splice zs (i + 1) (List.drop i cs)))) (some b), .f (.slc 1 (.c (.sl b 1 0 (n + 1) c true)) (some (.c (.int .i64 (i : Int)))) none none) (.sl b 1 i (n + 1 - i) (c - i) true), .w (.copy 1 (.c (.sl b 1 i (n + 1 - i) (c - i) true)) (.c (.sl vb 1 0 1 1 true))) (.int .i64 ((1 : Nat) : Int)) (List.set (G.set b (.cells (splice zs (i + 1) (List.drop i cs)))) b (.cells (splice (splice zs (i + 1) (List.drop i cs)) i [x]))) (some b)] [6] (e := .ret) (vals := [(.sl b 1 0 (n + 1) c true)]) (h' := (List.set (G.set b (.cells (splice zs (i + 1) (List.drop i cs)))) b (.cells (splice (splice zs (i + 1) (List.drop i cs)) i [x])))) hmB (fun _ => by kernel_rfl) ⟨hs1, hs2, hov, hs2, hs3, hcp1, hs3b, hcp2, trivial⟩
 obtain ⟨e11, s11, ⟨rfl, t11, lo11, rfl, hm11⟩, d11⟩ := DC.det KK (P := Tryz.prog) (code := gtl hS95) (c := tl (tl (tl (tl (tl (tl (tl a95.body))))))) (by kernel_rfl) w9
 refine DC.ams (fn := Tryz.f95) (body := hB95) (rs := [.t 6]) Tryz.func95 (by kernel_rfl) (by kernel_rfl) (DC.mono (Q := fun e s => e = .ret ∧ s = { t := t11, h := (List.set (List.set G b (.cells (splice zs (i + 1) (List.drop i cs)))) b (.cells (splice (splice zs (i + 1) (List.drop i cs)) i [x]))), lo := lo11 }) ?_ fun e s h => ?_)
 ·rw [hB95_is]
  refine DC.seq d0 (fun s' h => ?_) (fun e s' hne h => absurd h.1 hne)
  obtain ⟨_, rfl⟩ := h
  refine DC.seq d1 (fun s' h => ?_) (fun e s' hne h => absurd h.1 hne)
  obtain ⟨_, rfl⟩ := h
  refine DC.seq d2 (fun s' h => ?_) (fun e s' hne h => absurd h.1 hne)
  obtain ⟨_, rfl⟩ := h
  refine DC.seq d3 (fun s' h => ?_) (fun e s' hne h => absurd h.1 hne)
  obtain ⟨_, rfl⟩ := h
  refine DC.seq d4 (fun s' h => ?_) (fun e s' hne h => absurd h.1 hne)
  obtain ⟨_, rfl⟩ := h
  refine DC.seq d5 (fun s' h => ?_) (fun e s' hne h => absurd h.1 hne)
  obtain ⟨_, rfl⟩ := h
  refine DC.seq (Q := fun e s => e = .normal ∧ s = { t := tB, h := G, lo := loB }) (DC.seq dk (fun s' h => ?_) (fun e s' hne h => absurd h.1 hne)) (fun s' h => ?_) (fun e s' hne h => absurd h.1 hne)
  ·obtain ⟨_, rfl⟩ := h
   exact d10
  ·obtain ⟨_, rfl⟩ := h
   exact d11
 ·obtain ⟨rfl, rfl⟩ := h
  exact ⟨(fun i hi => by cases hi), _, resT6 hm11, rfl, rfl⟩
theorem insC_ams {G : List Blk} {b vb n i : Nat} {cs : List AV} {x : AV} (hb : G[b]? = some (.cells cs)) (hv : G[vb]? = some (.cells [x])) (hcs : cs.length = n) (hcone : cs.all AV.one = true) (h1 : x.one = true) (hcl : n ≤ 1000000) (hin : i < n) :
  ∃ G', AMS Tryz.prog 95 [.sl b 1 0 n n true, .int .i64 (i : Int), (.sl vb 1 0 1 1 true)] G (.sl G.length 1 0 (n + 1) (n + 1) false) G' ∧ G'[G.length]? = some (.cells (cs.take i ++ x :: cs.drop i)) ∧ G'.length = G.length + 1 ∧ ∀ (j : Nat) (bl : Blk), G[j]? = some bl → G'[j]? = some bl := by
 have hl0 : Lv 95 [(0, (.sl b 1 0 n n true)), (1, (.int .i64 (i : Int))), (2, (.sl vb 1 0 1 1 true))] ([(.sl b 1 0 n n true), (.int .i64 (i : Int)), (.sl vb 1 0 1 1 true)] ++ List.replicate (Tryz.f95.ntmps - 3) (.tup [])) := ⟨by kernel_rfl, by simp [getX_eq]⟩
 obtain ⟨e0, s0, ⟨rfl, t0, lo0, rfl, hl1⟩, d0⟩ := DC.det KK (P := Tryz.prog) (code := ghd hB95) (c := hd a95.body) (by kernel_rfl) (pathE (Γ := GK) (tbl := Mo.T) (k := hd a95.body) (h := G) (lo := none) (nt := 95) [] [0, 1, 2] (e := .normal) (vals := [(.sl b 1 0 n n true), (.int .i64 (i : Int)), (.sl vb 1 0 1 1 true)]) (h' := G) hl0 (fun _ => by kernel_rfl) trivial)
 obtain ⟨e1, s1, ⟨rfl, t1, lo1, rfl, hl2⟩, d1⟩ := DC.det KK (P := Tryz.prog) (code := ghd (gtl hB95)) (c := hd (tl a95.body)) (by kernel_rfl) (pathE (Γ := GK) (tbl := Mo.T) (k := hd (tl a95.body)) (h := G) (lo := lo0) (nt := 95) [.f (.slc 1 (.c (.sl b 1 0 n n true)) (some (.c (.int .i64 (i : Int)))) none none) (.sl b 1 i (n - i) (n - i) true)] [0, 1, 2] (e := .normal) (vals := [(.sl b 1 0 n n true), (.int .i64 (i : Int)), (.sl vb 1 0 1 1 true)]) (h' := G) hl1 (fun _ => by kernel_rfl) ⟨(sl_from (Nat.le_of_lt hin) (Nat.le_refl _)), trivial⟩)
 obtain ⟨e2, s2, ⟨rfl, t2, lo2, rfl, hl3⟩, d2⟩ := DC.det KK (P := Tryz.prog) (code := ghd (gtl (gtl hB95))) (c := hd (tl (tl a95.body))) (by kernel_rfl) (pathE (Γ := GK) (tbl := Mo.T) (k := hd (tl (tl a95.body))) (h := G) (lo := lo1) (nt := 95) [] [0, 1, 2, 7] (e := .normal) (vals := [(.sl b 1 0 n n true), (.int .i64 (i : Int)), (.sl vb 1 0 1 1 true), (.int .i64 (1 : Int))]) (h' := G) hl2 (fun _ => by kernel_rfl) trivial)
 obtain ⟨e3, s3, ⟨rfl, t3, lo3, rfl, hl4⟩, d3⟩ := DC.det KK (P := Tryz.prog) (code := ghd (gtl (gtl (gtl hB95)))) (c := hd (tl (tl (tl a95.body)))) (by kernel_rfl) (pathE (Γ := GK) (tbl := Mo.T) (k := hd (tl (tl (tl a95.body)))) (h := G) (lo := lo2) (nt := 95) [.b ((1 : Int) == 0) false] [0, 1, 2, 7] (e := .normal) (vals := [(.sl b 1 0 n n true), (.int .i64 (i : Int)), (.sl vb 1 0 1 1 true), (.int .i64 (1 : Int))]) (h' := G) hl3 (fun _ => by kernel_rfl) ⟨rfl, trivial⟩)
 obtain ⟨e4, s4, ⟨rfl, t4, lo4, rfl, hl5⟩, d4⟩ := DC.det KK (P := Tryz.prog) (code := ghd (gtl (gtl (gtl (gtl hB95))))) (c := hd (tl (tl (tl (tl a95.body))))) (by kernel_rfl) (pathE (Γ := GK) (tbl := Mo.T) (k := hd (tl (tl (tl (tl a95.body))))) (h := G) (lo := lo3) (nt := 95) [] [0, 1, 2, 7, 8] (e := .normal) (vals := [(.sl b 1 0 n n true), (.int .i64 (i : Int)), (.sl vb 1 0 1 1 true), (.int .i64 (1 : Int)), (.int .i64 (n : Int))]) (h' := G) hl4 (fun _ => by kernel_rfl) trivial)
 obtain ⟨e5, s5, ⟨rfl, t5, lo5, rfl, hl6⟩, d5⟩ := DC.det KK (P := Tryz.prog) (code := ghd (gtl (gtl (gtl (gtl (gtl hB95)))))) (c := hd (tl (tl (tl (tl (tl a95.body)))))) (by kernel_rfl) (pathE (Γ := GK) (tbl := Mo.T) (k := hd (tl (tl (tl (tl (tl a95.body)))))) (h := G) (lo := lo4) (nt := 95) [.b ((i : Int) == (n : Int)) false] [0, 1, 2, 7, 8] (e := .normal) (vals := [(.sl b 1 0 n n true), (.int .i64 (i : Int)), (.sl vb 1 0 1 1 true), (.int .i64 (1 : Int)), (.int .i64 (n : Int))]) (h' := G) hl5 (fun _ => by kernel_rfl) ⟨(cN (show ¬ (i : Int) = (n : Int) by omega)), trivial⟩)
 obtain ⟨n8, t8, lo8, hr8, hm1⟩ := pathO (nt := 95) (Γ := GK) (tbl := Mo.T) (t := t5) (lo := lo5) (h := G) (k := [⟨(some 26), (.mv (.t 8)), none, 0, 0⟩, ⟨(some 27), (.mv (.t 7)), none, 0, 0⟩, ⟨(some 28), (.bin .add (.t 26) (.t 27)), none, 0, 0⟩, ⟨(some 29), (.mv (.t 0)), none, 0, 0⟩]) [] [0, 1, 2, 7, 8, 28, 29] (vals := [(.sl b 1 0 n n true), (.int .i64 (i : Int)), (.sl vb 1 0 1 1 true), (.int .i64 (1 : Int)), (.int .i64 (n : Int)), (.int .i64 (IntKind.i64.wrap ((n : Int) + (1 : Int)))), (.sl b 1 0 n n true)]) (h' := G) [] hl6 (fun t0 => by kernel_rfl) trivial
 have hm2 : Lv 95 [(0, (.sl b 1 0 n n true)), (1, (.int .i64 (i : Int))), (2, (.sl vb 1 0 1 1 true)), (7, (.int .i64 (1 : Int))), (8, (.int .i64 (n : Int))), (28, (.int .i64 (IntKind.i64.wrap ((n : Int) + (1 : Int))))), (30, (.int .i64 (n : Int)))] (put t8 (some 30) (.int .i64 (n : Int))) := (((hm1.sub (live' := [(0, (.sl b 1 0 n n true)), (1, (.int .i64 (i : Int))), (2, (.sl vb 1 0 1 1 true)), (7, (.int .i64 (1 : Int))), (8, (.int .i64 (n : Int))), (28, (.int .i64 (IntKind.i64.wrap ((n : Int) + (1 : Int)))))]) (by simp)).put' (d := 30) (v := .int .i64 (n : Int)) (by decide) (by simp)).sub (by simp))
 have hgt : ((IntKind.i64.wrap ((n : Int) + (1 : Int))) > (n : Int)) := by rw [wr1 (by omega)]; omega
 obtain ⟨n9, t9, lo9, hr9, hm3⟩ := pathO (nt := 95) (Γ := GK) (tbl := Mo.T) (t := put t8 (some 30) (.int .i64 (n : Int))) (lo := none) (h := G) (k := [⟨(some 31), (.bin .gtr (.t 28) (.t 30)), none, 0, 0⟩]) [.b true] [0, 1, 2, 7, 8, 31] (vals := [(.sl b 1 0 n n true), (.int .i64 (i : Int)), (.sl vb 1 0 1 1 true), (.int .i64 (1 : Int)), (.int .i64 (n : Int)), (.bool true)]) (h' := G) [cB (decide ((IntKind.i64.wrap ((n : Int) + (1 : Int))) > (n : Int))) true] hm2 (fun t0 => by kernel_rfl) ⟨(cT hgt), trivial⟩
 have hc1 := runOps_mono (callF_mono (Γ := GK) (tbl := Mo.T) n8 (n8 + n9) (by omega)) _ _ _ hr8
 have hc2 := runOps_mono (callF_mono (Γ := GK) (tbl := Mo.T) n9 (n8 + n9) (by omega)) _ _ _ hr9
 have dk := DC.one (P := Tryz.prog) (call := callF GK Mo.T (n8 + n9)) (callF_sound _ Mo.T KK _) (i0 := gid hR8) (d := some 30) (ops := oK8.toArray) (oK8.take 4) (oK8.drop 5) (o := oN8) (by kernel_rfl) (by kernel_rfl) (by kernel_rfl) (s := { t := t5, h := G, lo := lo5 }) (by kernel_rfl) hc1 (.int .i64 (n : Int)) G
  (fun S m w a r ht => ⟨.int .i64 (n : Int), w, S, m, cap_op (x := .tmp 29) (ats := #[51]) (t := 51) (by kernel_rfl) rfl Tryz.underlying51 (id := b) (st := 1) (off := 0) (len := n) (cap := n) (by
   have := compO_sound ht (x := .tmp 29) (y := .t 29) rfl
   rw [hm1.ev (n := 29) (v := .sl b 1 0 n n true) (by simp)] at this
   exact this), .int, r, Stp.refl ..⟩) (by kernel_rfl) (s2 := { t := t9, h := G, lo := lo9 }) hc2
 have hm3c : Lv 95 [(0, (.sl b 1 0 n n true)), (1, (.int .i64 (i : Int))), (2, (.sl vb 1 0 1 1 true)), (7, (.int .i64 (1 : Int))), (8, (.int .i64 (n : Int)))] t9 := hm3.sub (by simp)
 have hm3' := hm3
 clear hm3
 have hm3 := hm3c
 obtain ⟨nA, tA, loA, hrA, hm4⟩ := pathO (nt := 95) (Γ := GK) (tbl := Mo.T) (t := t9) (lo := lo9) (h := G) (k := [⟨(some 32), (.mv (.t 0)), none, 0, 0⟩, ⟨(some 33), (.mv (.t 1)), none, 0, 0⟩, ⟨(some 34), (.slc 1 (.t 32) none (some (.t 33)) none), none, 0, 0⟩, ⟨(some 35), (.mv (.t 8)), none, 0, 0⟩, ⟨(some 36), (.mv (.t 7)), none, 0, 0⟩, ⟨(some 37), (.bin .add (.t 35) (.t 36)), none, 0, 0⟩, ⟨(some 38), (.mv (.t 1)), none, 0, 0⟩, ⟨(some 39), (.bin .sub (.t 37) (.t 38)), none, 0, 0⟩]) [.f (.sl b 1 0 i n true)] [0, 1, 2, 7, 8, 34, 39] (vals := [(.sl b 1 0 n n true), (.int .i64 (i : Int)), (.sl vb 1 0 1 1 true), (.int .i64 (1 : Int)), (.int .i64 (n : Int)), (.sl b 1 0 i n true), (.int .i64 (IntKind.i64.wrap ((IntKind.i64.wrap ((n : Int) + (1 : Int))) - (i : Int))))]) (h' := G) [pOp evC G (.slc 1 (.c (.sl b 1 0 n n true)) none (some (.c (.int .i64 (i : Int)))) none) = some (.sl b 1 0 i n true)] hm3 (fun t0 => by kernel_rfl) ⟨(sl_to (Nat.le_of_lt hin)), trivial⟩
 have hw39 : ((.int .i64 (IntKind.i64.wrap ((IntKind.i64.wrap ((n : Int) + (1 : Int))) - (i : Int)))) : AV) = AV.int .i64 ((n + 1 - i : Nat) : Int) := by rw [wr1 (by omega), IntWalk.i64_in _ (by omega)]; congr 1; omega
 obtain ⟨nb, hnb⟩ : ∃ nb, nb = G.length := ⟨_, rfl⟩
 obtain ⟨G2, hG2⟩ : ∃ G2, G2 = G ++ [.cells (cs.take i ++ List.replicate (n + 1 - i) AV.nils)] := ⟨_, rfl⟩
 have hm5 : Lv 95 [(0, (.sl b 1 0 n n true)), (1, (.int .i64 (i : Int))), (2, (.sl vb 1 0 1 1 true)), (7, (.int .i64 (1 : Int))), (8, (.int .i64 (n : Int))), (40, (.sl nb 1 0 (n + 1) (n + 1) false))] (put tA (some 40) (.sl nb 1 0 (n + 1) (n + 1) false)) := (((hm4.sub (live' := [(0, (.sl b 1 0 n n true)), (1, (.int .i64 (i : Int))), (2, (.sl vb 1 0 1 1 true)), (7, (.int .i64 (1 : Int))), (8, (.int .i64 (n : Int)))]) (by simp)).put' (d := 40) (v := .sl nb 1 0 (n + 1) (n + 1) false) (by decide) (by simp)).sub (by simp))
 obtain ⟨nD, tD, loD, hrD, hm6⟩ := pathO (nt := 95) (Γ := GK) (tbl := Mo.T) (t := put tA (some 40) (.sl nb 1 0 (n + 1) (n + 1) false)) (lo := none) (h := G2) (k := [⟨(some 9), (.mv (.t 40)), none, 0, 0⟩]) [] [0, 1, 2, 7, 8, 9] (vals := [(.sl b 1 0 n n true), (.int .i64 (i : Int)), (.sl vb 1 0 1 1 true), (.int .i64 (1 : Int)), (.int .i64 (n : Int)), (.sl nb 1 0 (n + 1) (n + 1) false)]) (h' := G2) [] hm5 (fun t0 => by kernel_rfl) trivial
 have hc3 := runOps_mono (callF_mono (Γ := GK) (tbl := Mo.T) nA (nA + nD) (by omega)) _ _ _ hrA
 have hc4 := runOps_mono (callF_mono (Γ := GK) (tbl := Mo.T) nD (nA + nD) (by omega)) _ _ _ hrD
 have hel : elems G 1 (.sl b 1 0 i n true) = some (cs.take i) := by rw [sl_el hb (by omega)]; rfl
 have dz := DC.one (P := Tryz.prog) (call := callF GK Mo.T (nA + nD)) (callF_sound _ Mo.T KK _) (i0 := gid hR9) (d := some 40) (ops := oK9.toArray) (oK9.take 8) (oK9.drop 9) (o := oN9) (by kernel_rfl) (by kernel_rfl) (by kernel_rfl) (s := { t := t9, h := G, lo := lo9 }) (by kernel_rfl) hc3 (.sl nb 1 0 (n + 1) (n + 1) false) G2
  (fun S m w a r ht => by
   have g1 := compO_sound ht (x := .tmp 34) (y := .t 34) rfl
   rw [hm4.ev (n := 34) (v := .sl b 1 0 i n true) (by simp)] at g1
   have g2 := compO_sound ht (x := .tmp 39) (y := .t 39) rfl
   rw [hm4.ev (n := 39) (v := (.int .i64 (IntKind.i64.wrap ((IntKind.i64.wrap ((n : Int) + (1 : Int))) - (i : Int))))) (by simp), hw39] at g2
   have := appz_op (P := Tryz.prog) (o := oN9) (s := .tmp 34) (x := .tmp 39) (t := 51) (tn := 3) (e := 40) (kn := .i64) (by kernel_rfl) Tryz.underlying51 Tryz.underlying3 (st := 1) (by_ := 24) (z := [.nils]) (by kernel_rfl) r (a := a) (id := b) (len := i) (cap := n) (n := n + 1 - i) (os := cs.take i) g1 hel g2 (by omega) (by omega) (by omega)
   rw [show i + (n + 1 - i) = n + 1 by omega, ← hnb] at this
   rw [hG2]
   have hfl : ∀ k, (List.replicate k [AV.nils]).flatten = List.replicate k AV.nils := fun k => by
    induction k with
    | zero => rfl
    | succ k ih => rw [List.replicate_succ, List.flatten_cons, ih]; rfl
   rw [hfl] at this
   exact this) (by kernel_rfl) (s2 := { t := tD, h := G2, lo := loD }) hc4
 have hw1 := wr1 (n := n) (by omega)
 have hwi := wr1 (n := i) (by omega)
 have hs1 : ∀ {G}, pOp evC G (.slc 1 (.c (.sl nb 1 0 (n + 1) (n + 1) false)) (some (.c (.int .i64 (i : Int)))) none none) = some (.sl nb 1 i (n + 1 - i) (n + 1 - i) false) := by intro G; exact sl_from (by omega) (Nat.le_refl _)
 have hs2 : ∀ {G}, pOp evC G (.slc 1 (.c (.sl nb 1 0 (n + 1) (n + 1) false)) (some (.c (.int .i64 (IntKind.i64.wrap ((i : Int) + 1))))) none none) = some (.sl nb 1 (i + 1) (n - i) (n - i) false) := by
  intro G
  rw [hwi, sl_from (by omega) (Nat.le_refl _), show n + 1 - (i + 1) = n - i by omega]
 have hs3 : ∀ {G}, pOp evC G (.slc 1 (.c (.sl b 1 0 n n true)) (some (.c (.int .i64 (i : Int)))) none none) = some (.sl b 1 i (n - i) (n - i) true) := by intro G; exact sl_from (by omega) (Nat.le_refl _)
 have hG2n : G2[nb]? = some (.cells (List.take i cs ++ List.replicate (n + 1 - i) AV.nils)) := by rw [hG2, hnb]; exact gl
 have hG2k : ∀ (j : Nat) (bl : Blk), G[j]? = some bl → G2[j]? = some bl := fun j bl h => by rw [hG2]; exact ga h
 have hltb := glt hb
 have hltv := glt hv
 have hdl : (List.drop i cs).length = n - i := by simp; omega
 have hyl : ((List.take i cs ++ List.replicate (n + 1 - i) AV.nils)).length = n + 1 := by simp; omega
 have hcp1 : wOp evC G2 (.copy 1 (.c (.sl nb 1 i (n + 1 - i) (n + 1 - i) false)) (.c (.sl vb 1 0 1 1 true))) = some (.int .i64 ((1 : Nat) : Int), (List.set G2 nb (.cells (splice (List.take i cs ++ List.replicate (n + 1 - i) AV.nils) i [x]))), some nb) := by
  have := cp_in (off := i) (len := n + 1 - i) (cap := n + 1 - i) (ex := false) (src := (.sl vb 1 0 1 1 true)) (k := 1) (xs := [x]) hG2n (sl_el (hG2k _ _ hv) (by simp)) rfl rfl (by omega) (by omega) (by rw [if_pos (by omega), hyl]; omega) (by simp [h1])
  rw [if_pos (by omega)] at this
  exact this
 have hG3n : (List.set G2 nb (.cells (splice (List.take i cs ++ List.replicate (n + 1 - i) AV.nils) i [x])))[nb]? = some (.cells (splice (List.take i cs ++ List.replicate (n + 1 - i) AV.nils) i [x])) := gset hG2n
 have hG3b : (List.set G2 nb (.cells (splice (List.take i cs ++ List.replicate (n + 1 - i) AV.nils) i [x])))[b]? = some (.cells cs) := gne (by omega) (hG2k _ _ hb)
 have hcp2 : wOp evC (List.set G2 nb (.cells (splice (List.take i cs ++ List.replicate (n + 1 - i) AV.nils) i [x]))) (.copy 1 (.c (.sl nb 1 (i + 1) (n - i) (n - i) false)) (.c (.sl b 1 i (n - i) (n - i) true))) = some (.int .i64 ((n - i : Nat) : Int), (List.set (List.set G2 nb (.cells (splice (List.take i cs ++ List.replicate (n + 1 - i) AV.nils) i [x]))) nb (.cells (splice (splice (List.take i cs ++ List.replicate (n + 1 - i) AV.nils) i [x]) (i + 1) (List.drop i cs)))), some nb) := by
  have hz1 : (splice (List.take i cs ++ List.replicate (n + 1 - i) AV.nils) i [x]).length = n + 1 := by rw [splice_len (by rw [hyl]; simp; omega), hyl]
  have := cp_in (off := i + 1) (len := n - i) (cap := n - i) (ex := false) (src := .sl b 1 i (n - i) (n - i) true) (k := n - i) (xs := cs.drop i) hG3n (by rw [sl_el hG3b (by omega), List.take_of_length_le (by omega)]) rfl hdl (by omega) (by omega) (by rw [if_pos (Nat.le_refl _)]; rw [hz1]; omega) (by rw [List.all_eq_true] at hcone ⊢; exact fun v hv => hcone v (List.mem_of_mem_drop hv))
  have htd : (cs.drop i).take (n - i) = cs.drop i := List.take_of_length_le (by omega)
  rw [if_pos (Nat.le_refl _), htd] at this
  exact this
 obtain ⟨lo11, hlo11⟩ : ∃ lo, lo = loD := ⟨_, rfl⟩
 have w9 := pathE (Γ := GK) (tbl := Mo.T) (k := tl (ar1 (tl (hd (tl (tl (tl (tl (tl (tl a95.body)))))))))) (h := G2) (lo := lo11) (nt := 95) [.f (.slc 1 (.c (.sl nb 1 0 (n + 1) (n + 1) false)) (some (.c (.int .i64 (i : Int)))) none none) (.sl nb 1 i (n + 1 - i) (n + 1 - i) false), .w (.copy 1 (.c (.sl nb 1 i (n + 1 - i) (n + 1 - i) false)) (.c (.sl vb 1 0 1 1 true))) (.int .i64 ((1 : Nat) : Int)) (G2.set nb (.cells (splice (List.take i cs ++ List.replicate (n + 1 - i) AV.nils) i [x]))) (some nb), .f (.slc 1 (.c (.sl nb 1 0 (n + 1) (n + 1) false)) (some (.c (.int .i64 (IntKind.i64.wrap ((i : Int) + (1 : Int)))))) none none) (.sl nb 1 (i + 1) (n - i) (n - i) false), .f (.slc 1 (.c (.sl b 1 0 n n true)) (some (.c (.int .i64 (i : Int)))) none none) (.sl b 1 i (n - i) (n - i) true), .w (.copy 1 (.c (.sl nb 1 (i + 1) (n - i) (n - i) false)) (.c (.sl b 1 i (n - i) (n - i) true))) (.int .i64 ((n - i : Nat) : Int)) (List.set (G2.set nb (.cells (splice (List.take i cs ++ List.replicate (n + 1 - i) AV.nils) i [x]))) nb (.cells (splice (splice (List.take i cs ++ List.replicate (n + 1 - i) AV.nils) i [x]) (i + 1) (List.drop i cs)))) (some nb)] [6] (e := .ret) (vals := [(.sl nb 1 0 (n + 1) (n + 1) false)]) (h' := (List.set (G2.set nb (.cells (splice (List.take i cs ++ List.replicate (n + 1 - i) AV.nils) i [x]))) nb (.cells (splice (splice (List.take i cs ++ List.replicate (n + 1 - i) AV.nils) i [x]) (i + 1) (List.drop i cs))))) hm6 (fun _ => by kernel_rfl) ⟨hs1, hcp1, hs2, hs3, hcp2, trivial⟩
 obtain ⟨e11, s11, ⟨rfl, t11, lo12, rfl, hm11⟩, d11⟩ := DC.det KK (P := Tryz.prog) (code := gtl (gar1 hC8)) (c := tl (ar1 (tl (hd (tl (tl (tl (tl (tl (tl a95.body)))))))))) (by kernel_rfl) w9
 rw [hlo11] at d11
 refine ⟨(List.set (List.set G2 nb (.cells (splice (List.take i cs ++ List.replicate (n + 1 - i) AV.nils) i [x]))) nb (.cells (splice (splice (List.take i cs ++ List.replicate (n + 1 - i) AV.nils) i [x]) (i + 1) (List.drop i cs)))), ?_, ?_, ?_, fun j bl hj => ?_⟩
 rotate_left 1
 ·rw [← hnb, spl_new hcs (by omega)]
  exact gset hG3n
 ·simp [hG2]
 ·exact gne (by have := glt hj; omega) (gne (by have := glt hj; omega) (hG2k _ _ hj))
 rw [← hnb]
 refine DC.ams (fn := Tryz.f95) (body := hB95) (rs := [.t 6]) Tryz.func95 (by kernel_rfl) (by kernel_rfl) (DC.mono (Q := fun e s => e = .ret ∧ s = { t := t11, h := (List.set (List.set G2 nb (.cells (splice (List.take i cs ++ List.replicate (n + 1 - i) AV.nils) i [x]))) nb (.cells (splice (splice (List.take i cs ++ List.replicate (n + 1 - i) AV.nils) i [x]) (i + 1) (List.drop i cs)))), lo := lo12 }) ?_ fun e s h => ?_)
 ·rw [hB95_is]
  refine DC.seq d0 (fun s' h => ?_) (fun e s' hne h => absurd h.1 hne)
  obtain ⟨_, rfl⟩ := h
  refine DC.seq d1 (fun s' h => ?_) (fun e s' hne h => absurd h.1 hne)
  obtain ⟨_, rfl⟩ := h
  refine DC.seq d2 (fun s' h => ?_) (fun e s' hne h => absurd h.1 hne)
  obtain ⟨_, rfl⟩ := h
  refine DC.seq d3 (fun s' h => ?_) (fun e s' hne h => absurd h.1 hne)
  obtain ⟨_, rfl⟩ := h
  refine DC.seq d4 (fun s' h => ?_) (fun e s' hne h => absurd h.1 hne)
  obtain ⟨_, rfl⟩ := h
  refine DC.seq d5 (fun s' h => ?_) (fun e s' hne h => absurd h.1 hne)
  obtain ⟨_, rfl⟩ := h
  refine DC.seq (Q := fun e s => e = .ret ∧ s = { t := t11, h := (List.set (List.set G2 nb (.cells (splice (List.take i cs ++ List.replicate (n + 1 - i) AV.nils) i [x]))) nb (.cells (splice (splice (List.take i cs ++ List.replicate (n + 1 - i) AV.nils) i [x]) (i + 1) (List.drop i cs)))), lo := lo12 }) ?_ (fun s' h => by cases h.1) (fun e s' hne h => h)
  refine DC.seq dk (fun s' h => ?_) (fun e s' hne h => absurd h.1 hne)
  obtain ⟨_, rfl⟩ := h
  rw [hC8_is]
  refine DC.cond true (hm3'.ev (by simp)) ?_
  refine DC.seq dz (fun s' h => ?_) (fun e s' hne h => absurd h.1 hne)
  obtain ⟨_, rfl⟩ := h
  exact d11
 ·obtain ⟨rfl, rfl⟩ := h
  exact ⟨(fun i hi => by cases hi), _, resT6 hm11, rfl, rfl⟩
theorem ins_ams {rows : List (List Val)} {row : List Val} {i b vb : Nat} {H : List Blk} (hb : H[b]? = some (.cells (rows.map rV))) (hv : H[vb]? = some (.cells [rV row])) (hne : vb ≠ b) (hn0 : 0 < rows.length) (hcl : rows.length ≤ 1000000) (hi : i ≤ rows.length) :
  AMS Tryz.prog 95 [.sl b 1 0 rows.length rows.length false, .int .i64 (i : Int), .sl vb 1 0 1 1 true] H (bV (insL rows i row)) (H.set b .gone ++ [.gone]) := by
 have hlb := glt hb
 have hcs : (rows.map rV).length = rows.length := by simp
 have hil : (insL rows i row).length = rows.length + 1 := by simp [insL]; omega
 have him : (insL rows i row).map rV = (rows.map rV).take i ++ rV row :: (rows.map rV).drop i := by simp [insL]
 refine AMS.room hb hn0 (by simp) fun c hc => ?_
 rw [Nat.mul_one]
 have hz : (rows.map rV ++ List.replicate (c - rows.length) AV.dead).length = c := by simp; omega
 have htk : (rows.map rV ++ List.replicate (c - rows.length) AV.dead).take rows.length = rows.map rV := List.take_left' hcs
 have hb2 : (H.set b (.cells (rows.map rV ++ List.replicate (c - rows.length) AV.dead)))[b]? = some (.cells (rows.map rV ++ List.replicate (c - rows.length) AV.dead)) := gset hb
 have hv2 : (H.set b (.cells (rows.map rV ++ List.replicate (c - rows.length) AV.dead)))[vb]? = some (.cells [rV row]) := gne (Ne.symm hne) hv
 have hk2 : ∀ (j : Nat) (bl : Blk), j ≠ b → H[j]? = some bl → (H.set b (.cells (rows.map rV ++ List.replicate (c - rows.length) AV.dead)))[j]? = some bl := fun j bl hj h => gne (Ne.symm hj) h
 have hl2 : (H.set b (.cells (rows.map rV ++ List.replicate (c - rows.length) AV.dead))).length = H.length := by simp
 generalize hzs : rows.map rV ++ List.replicate (c - rows.length) AV.dead = zs at hz htk hb2 hv2 hk2 hl2 ⊢
 generalize hG : H.set b (.cells zs) = G at hb2 hv2 hk2 hl2 ⊢
 by_cases hin : i < rows.length
 ·by_cases hcc : rows.length + 1 ≤ c
  ·have h := insB_ams (n := rows.length) (c := c) (i := i) (cs := rows.map rV) (x := rV row) hb2 hv2 hne hcc hz htk hcs (.inr (all_one rows)) rfl hcl hin
   refine ins_fin (zs := splice (splice zs (i + 1) ((rows.map rV).drop i)) i [rV row]) h (gset (gset hb2)) ?_ hil.symm (by omega) (by simp [hl2]) (fun j bl hj hjb => gne (Ne.symm hj) (gne (Ne.symm hj) (hk2 j bl hj hjb))) (.inl rfl)
   rw [him]
   exact spl_in htk hcs (by omega) (by omega)
  ·have hcn : c = rows.length := by omega
   subst hcn
   have hzr : zs = rows.map rV := by rw [← hzs]; simp
   rw [hzr] at hb2
   obtain ⟨G', h, h1, h2, h3⟩ := insC_ams (n := rows.length) (i := i) hb2 hv2 hcs (all_one rows) rfl hcl hin
   refine ins_fin h h1 ?_ hil.symm (by omega) (by omega) (fun j bl hj hjb => h3 j bl (hk2 j bl hj hjb)) (.inr (by omega))
   rw [him, List.take_of_length_le (by simp; omega)]
 ·have hie : i = rows.length := by omega
  subst hie
  obtain ⟨r, G', lo, h, h2⟩ := insA_cl hb2 hv2 hc hz (x := rV row) rfl hcl
  have ha := Cl.ams KK h (by kernel_rfl)
  have hid : (insL rows rows.length row).map rV = rows.map rV ++ [rV row] := by rw [him, List.take_of_length_le (by simp), List.drop_of_length_le (by simp)]
  rcases h2 with ⟨hcc, rfl, rfl⟩ | ⟨hcc, rfl, rfl⟩
  ·refine ins_fin (zs := splice zs rows.length [rV row]) ha (gset hb2) ?_ hil.symm (by omega) (by simp [hl2]) (fun j bl hj hjb => gne (Ne.symm hj) (hk2 j bl hj hjb)) (.inl rfl)
   rw [hid]
   exact spl_app htk hcs (by omega)
  ·refine ins_fin (zs := zs ++ [rV row]) ha gl ?_ hil.symm (by omega) (by simp; omega) (fun j bl hj hjb => ga (hk2 j bl hj hjb)) (.inr (by omega))
   have hzr : zs = rows.map rV := by rw [← hzs, hcc]; simp
   rw [hid, hzr, List.take_of_length_le (by simp)]
open Go
abbrev Tabs := List (List (List Val))
abbrev tsC (ts : Tabs) : List AV := ts.map bV
abbrev tsV (ts : Tabs) : AV := .ro (tsC ts) 1 false
noncomputable def gam9 : List (Nat × GF) := (55, pureG g55) :: (64, pureG g64) :: (90, pureG g90) :: gam7
theorem K9 : Known (gGet gam9) tree.get Tryz.prog := known_of (by kernel_rfl) ⟨wish_ok, clone64_ok, clone90_ok, isVal_ok, view_ok, grp_ok, tot_ok, adt_ok, fit_ok, code_ok, int_ok, of_ok, add_ok, cmp_ok, good_ok, xSub_ok, xAdd_ok, trivial⟩ all
noncomputable abbrev G9 : FuncId → Option GF := gGet gam9
theorem ldX {H : List Blk} {q k : Nat} {cs : List AV} {v : AV} (hb : H[q]? = some (.cells cs)) (hv : cs[k]? = some v) : pOp evC H (.load none (.c (.ptr q (0 + Int.toNat (k : Int) * 1)))) = some v := by
 have hk := (List.getElem?_eq_some_iff.1 hv).1
 have e : (List.drop k cs).take 1 = [v] := by
  rw [List.drop_eq_getElem_cons hk]
  have := (List.getElem?_eq_some_iff.1 hv).2
  simp [this]
 simp only [pOp, evC, rdPtr, rdCells, hb, Int.toNat_natCast, Nat.zero_add, Nat.mul_one, cellsN]
 rw [if_pos (by omega), e]
 rfl
theorem stN {H : List Blk} {cs : List AV} {k : Nat} {v : AV} (hk : k < cs.length) (h1 : v.cells = [v]) (h2 : v.one = true) : wOp evC (H ++ [.cells cs]) (.store 1 (.c (.ptr H.length (0 + Int.toNat (k : Int) * 1))) (.c v)) = some (.tup [], H ++ [.cells (cs.set k v)], some H.length) := by
 have hs : splice cs k [v] = cs.set k v := by
  rw [splice, List.set_eq_take_append_cons_drop, if_pos hk]
  rfl
 simp only [wOp, evC, h1, Int.toNat_natCast, Nat.zero_add, Nat.mul_one, List.length_singleton, if_true, wrCells, gl]
 rw [if_pos (by simp [h2]; omega)]
 simp only [Option.map_some, hs]
 rw [List.set_append_right _ _ (Nat.le_refl _), Nat.sub_self]
 rfl
def fillC (ts : Tabs) (k : Nat) : List AV := tsC (ts.take k) ++ List.replicate (ts.length - k) .nils
theorem fillC_set {ts : Tabs} {k : Nat} (hk : k < ts.length) : (fillC ts k).set k (bV ts[k]) = fillC ts (k + 1) := by
 have hl : (tsC (ts.take k)).length = k := by simp; omega
 unfold fillC
 rw [List.set_append_right _ _ (by omega), hl, Nat.sub_self, show ts.length - k = (ts.length - (k + 1)) + 1 by omega, List.replicate_succ, List.set_cons_zero, List.take_succ_eq_append_getElem hk]
 show _ = List.map bV (ts.take k ++ [ts[k]]) ++ _
 rw [List.map_append, List.append_assoc]
 rfl
theorem fillC_len {ts : Tabs} {k : Nat} (hk : k ≤ ts.length) : (fillC ts k).length = ts.length := by simp [fillC]; omega
theorem fillC_all (ts : Tabs) : fillC ts ts.length = tsC ts := by simp [fillC]
theorem copiedS_cl {H : List Blk} {q : Nat} {ts : Tabs} (hq : H[q]? = some (.cells (tsC ts))) (hl : ts.length ≤ 1000) (hx : ∀ x ∈ ts, x.length ≤ 1000000) : ∃ lo, Cl G9 Mo.T 51 [(.sl q 1 0 (List.length ts) (List.length ts) true)] H (.sl H.length 1 0 ts.length ts.length true, H ++ [.cells (tsC ts)], lo) := by
 have key : ∃ r h' lo, (r = .sl H.length 1 0 ts.length ts.length true ∧ h' = H ++ [.cells (tsC ts)]) ∧ Cl G9 Mo.T 51 [(.sl q 1 0 (List.length ts) (List.length ts) true)] H (r, h', lo) := by
  refine clE (Γ := G9) (tbl := Mo.T) (f := 51) (af := a51) (args := [(.sl q 1 0 (List.length ts) (List.length ts) true)]) (h := H) (by kernel_rfl) (by kernel_rfl) (by kernel_rfl) (fun r h' => r = .sl H.length 1 0 ts.length ts.length true ∧ h' = H ++ [.cells (tsC ts)]) ?_
  refine Wp.seq ((pathE (nt := 23) (live := [(0, (.sl q 1 0 ts.length ts.length true))]) [] [0] (e := .normal) (vals := [(.sl q 1 0 ts.length ts.length true)]) (h' := H) (Lv.start (by rfl) (by simp)) (fun _ => by kernel_rfl) trivial).mono ?_)
  rintro e s ⟨rfl, t1, lo1, rfl, hl1⟩
  have lenB : ∀ {H}, pOp evC H (.len 1 (.c (.ro (List.map bV ts) 1 false))) = some (.int .i64 (List.length ts : Int)) := by intro H; simp [pOp, evC]
  have hmk : wOp evC H (.mksl [.nils] 24 (.c (.int .i64 (List.length ts : Int))) (.c (.int .i64 (List.length ts : Int)))) = some ((.sl (List.length H) 1 0 (List.length ts) (List.length ts) true), H ++ [.cells (fillC ts 0)], none) := by
   have hfl : (List.replicate ts.length [AV.nils]).flatten = fillC ts 0 := by
    have : ∀ n, (List.replicate n [AV.nils]).flatten = List.replicate n AV.nils := fun n => by
     induction n with
     | zero => rfl
     | succ k ih => rw [List.replicate_succ, List.flatten_cons, ih]; rfl
    rw [this]; simp [fillC]
   simp only [wOp, evC]
   rw [if_pos (by simp; omega)]
   simp only [Int.toNat_natCast, hfl, List.length_singleton]
  refine Wp.seq ((pathE (nt := 23) [.w (.mksl [.nils] 24 (.c (.int .i64 (ts.length : Int))) (.c (.int .i64 (ts.length : Int)))) (.sl H.length 1 0 ts.length ts.length true) (H ++ [(.cells (fillC ts 0))]) none] [0, 3] (e := .normal) (vals := [(.sl q 1 0 ts.length ts.length true), (.sl H.length 1 0 ts.length ts.length true)]) (h' := (H ++ [(.cells (fillC ts 0))])) hl1 (fun _ => by kernel_rfl) ⟨hmk, trivial⟩).mono ?_)
  rintro e s ⟨rfl, t2, lo2, rfl, hl2⟩
  refine Wp.seq (Wp.seq ((pathE (nt := 23) [] [11, 3, 9, 10] (e := .normal) (vals := [(.int .i64 0), (.sl H.length 1 0 ts.length ts.length true), (.sl q 1 0 ts.length ts.length true), (.int .i64 (ts.length : Int))]) (h' := (H ++ [(.cells (fillC ts 0))])) hl2 (fun _ => by kernel_rfl) trivial).mono ?_))
  rintro e s ⟨rfl, t3, lo3, rfl, hl3⟩
  refine (rangeL (i := 11) (n := 10) (c := 12) (d := 21) (X := Unit) (N := ts.length) (fun _ _ => [(3, (.sl (List.length H) 1 0 (List.length ts) (List.length ts) true)), (9, (.sl q 1 0 (List.length ts) (List.length ts) true)), (10, .int .i64 (List.length ts : Int))]) (fun k _ => H ++ [.cells (fillC ts k)]) (fun _ _ => True) (fun _ => False)
   (by omega) (by decide) (by decide) (by decide) (by decide) (by decide) (fun _ _ => rfl) (fun _ _ => rfl) ?_ (x0 := ()) trivial hl3).mono ?_
  ·rintro k ⟨⟩ t4 lo4 hkN - hlb
   have hst := fillC_set hkN
   have hxm := hx _ (List.getElem_mem hkN)
   have hx : (tsC ts)[k]? = some (bV ts[k]) := by simp [hkN]
   generalize ts[k] = x at hst hxm hx
   have hxl : x.length * 24 ≤ 140737488355328 := by omega
   refine (pathE (nt := 23) [.p (1 = 1), .p ((0 : Int) ≤ (k : Int)), .p (((k : Int) : Int) < ((ts.length : Nat) : Int)), .f (.load none (.c (.ptr q (0 + (Int.toNat (k : Int)) * 1)))) (.ro (x.map rV) 1 false), .r 90 [(.ro (x.map rV) 1 false)] (.ro (x.map rV) 1 false) (H ++ [(.cells (fillC ts k))]) none, .p (1 = 1), .p ((0 : Int) ≤ (k : Int)), .p (((k : Int) : Int) < ((ts.length : Nat) : Int)), .w (.store 1 (.c (.ptr H.length (0 + (Int.toNat (k : Int)) * 1))) (.c (.ro (x.map rV) 1 false))) (.tup []) (H ++ [(.cells (List.set (fillC ts k) k (.ro (x.map rV) 1 false)))]) (some H.length)] [11, 3, 9, 10] (e := .normal) (vals := [(.int .i64 (k : Int)), (.sl H.length 1 0 ts.length ts.length true), (.sl q 1 0 ts.length ts.length true), (.int .i64 (List.length ts : Int))]) (h' := (H ++ [(.cells (List.set (fillC ts k) k (.ro (x.map rV) 1 false)))])) hlb (fun _ => by kernel_rfl) ⟨rfl, (by omega), (by simp; omega), (ldX (ga hq) hx), (clone90_e (by kernel_rfl) x hxl _), rfl, (by omega), (by simp; omega), (stN (by rw [fillC_len (by omega)]; omega) rfl rfl), trivial⟩).mono ?_
   rintro e s' ⟨rfl, t5, lo5, rfl, hl5⟩
   rw [hst]
   exact .inl ⟨rfl, (), t5, lo5, rfl, trivial, hl5⟩
  ·rintro e s (⟨rfl, _, t5, lo5, rfl, -, hle⟩ | ⟨rfl, h⟩)
   ·refine (pathE (nt := 23) [] [2] (e := .ret) (vals := [(.sl H.length 1 0 ts.length ts.length true)]) (h' := (H ++ [(.cells (fillC ts ts.length))])) hle (fun _ => by kernel_rfl) trivial).mono ?_
    rintro e s ⟨rfl, t6, lo6, rfl, hl6⟩
    refine ⟨rfl, [(.sl (List.length H) 1 0 (List.length ts) (List.length ts) true)], ?_, rfl, by rw [fillC_all]⟩
    have := hl6.get (2, (.sl (List.length H) 1 0 (List.length ts) (List.length ts) true)) (by simp)
    rw [getX_eq] at this
    show resAll _ [.t 2] = _
    simp only [resAll, resOf, this]
   ·exact h.elim
 obtain ⟨r, h', lo, ⟨rfl, rfl⟩, h⟩ := key
 exact ⟨lo, h⟩
theorem copiedR_cl {H : List Blk} {q : Nat} {ts : Tabs}  (hl : ts.length ≤ 1000) (hx : ∀ x ∈ ts, x.length ≤ 1000000) : ∃ lo, Cl G9 Mo.T 51 [(.ro (List.map bV ts) 1 false)] H (.sl H.length 1 0 ts.length ts.length true, H ++ [.cells (tsC ts)], lo) := by
 have key : ∃ r h' lo, (r = .sl H.length 1 0 ts.length ts.length true ∧ h' = H ++ [.cells (tsC ts)]) ∧ Cl G9 Mo.T 51 [(.ro (List.map bV ts) 1 false)] H (r, h', lo) := by
  refine clE (Γ := G9) (tbl := Mo.T) (f := 51) (af := a51) (args := [(.ro (List.map bV ts) 1 false)]) (h := H) (by kernel_rfl) (by kernel_rfl) (by kernel_rfl) (fun r h' => r = .sl H.length 1 0 ts.length ts.length true ∧ h' = H ++ [.cells (tsC ts)]) ?_
  refine Wp.seq ((pathE (nt := 23) (live := [(0, (.ro (ts.map bV) 1 false))]) [] [0] (e := .normal) (vals := [(.ro (ts.map bV) 1 false)]) (h' := H) (Lv.start (by rfl) (by simp)) (fun _ => by kernel_rfl) trivial).mono ?_)
  rintro e s ⟨rfl, t1, lo1, rfl, hl1⟩
  have lenB : ∀ {H}, pOp evC H (.len 1 (.c (.ro (List.map bV ts) 1 false))) = some (.int .i64 (List.length ts : Int)) := by intro H; simp [pOp, evC]
  have hmk : wOp evC H (.mksl [.nils] 24 (.c (.int .i64 (List.length ts : Int))) (.c (.int .i64 (List.length ts : Int)))) = some ((.sl (List.length H) 1 0 (List.length ts) (List.length ts) true), H ++ [.cells (fillC ts 0)], none) := by
   have hfl : (List.replicate ts.length [AV.nils]).flatten = fillC ts 0 := by
    have : ∀ n, (List.replicate n [AV.nils]).flatten = List.replicate n AV.nils := fun n => by
     induction n with
     | zero => rfl
     | succ k ih => rw [List.replicate_succ, List.flatten_cons, ih]; rfl
    rw [this]; simp [fillC]
   simp only [wOp, evC]
   rw [if_pos (by simp; omega)]
   simp only [Int.toNat_natCast, hfl, List.length_singleton]
  refine Wp.seq ((pathE (nt := 23) [.g (.len 1 (.c (.ro (ts.map bV) 1 false))) (.int .i64 (List.length ts : Int)), .w (.mksl [.nils] 24 (.c (.int .i64 (List.length ts : Int))) (.c (.int .i64 (List.length ts : Int)))) (.sl H.length 1 0 ts.length ts.length true) (H ++ [(.cells (fillC ts 0))]) none] [0, 3] (e := .normal) (vals := [(.ro (ts.map bV) 1 false), (.sl H.length 1 0 ts.length ts.length true)]) (h' := (H ++ [(.cells (fillC ts 0))])) hl1 (fun _ => by kernel_rfl) ⟨lenB, hmk, trivial⟩).mono ?_)
  rintro e s ⟨rfl, t2, lo2, rfl, hl2⟩
  refine Wp.seq (Wp.seq ((pathE (nt := 23) [.g (.len 1 (.c (.ro (ts.map bV) 1 false))) (.int .i64 (List.length ts : Int))] [11, 3, 9, 10] (e := .normal) (vals := [(.int .i64 0), (.sl H.length 1 0 ts.length ts.length true), (.ro (ts.map bV) 1 false), (.int .i64 (List.length ts : Int))]) (h' := (H ++ [(.cells (fillC ts 0))])) hl2 (fun _ => by kernel_rfl) ⟨lenB, trivial⟩).mono ?_))
  rintro e s ⟨rfl, t3, lo3, rfl, hl3⟩
  refine (rangeL (i := 11) (n := 10) (c := 12) (d := 21) (X := Unit) (N := ts.length) (fun _ _ => [(3, (.sl (List.length H) 1 0 (List.length ts) (List.length ts) true)), (9, (.ro (List.map bV ts) 1 false)), (10, .int .i64 (List.length ts : Int))]) (fun k _ => H ++ [.cells (fillC ts k)]) (fun _ _ => True) (fun _ => False)
   (by omega) (by decide) (by decide) (by decide) (by decide) (by decide) (fun _ _ => rfl) (fun _ _ => rfl) ?_ (x0 := ()) trivial hl3).mono ?_
  ·rintro k ⟨⟩ t4 lo4 hkN - hlb
   have hst := fillC_set hkN
   have hxm := hx _ (List.getElem_mem hkN)
   have hx : (List.map bV ts)[(k : Int).toNat]? = some (bV ts[k]) := by simp [hkN]
   generalize ts[k] = x at hst hxm hx
   have hxl : x.length * 24 ≤ 140737488355328 := by omega
   refine (pathE (nt := 23) [.p (1 = 1), .p ((0 : Int) ≤ (k : Int)), .p (((k : Int) : Int) < (List.length (ts.map bV) : Int)), .e (ts.map bV) (Int.toNat (k : Int)) (.ro (x.map rV) 1 false), .r 90 [(.ro (x.map rV) 1 false)] (.ro (x.map rV) 1 false) (H ++ [(.cells (fillC ts k))]) none, .p (1 = 1), .p ((0 : Int) ≤ (k : Int)), .p (((k : Int) : Int) < ((ts.length : Nat) : Int)), .w (.store 1 (.c (.ptr H.length (0 + (Int.toNat (k : Int)) * 1))) (.c (.ro (x.map rV) 1 false))) (.tup []) (H ++ [(.cells (List.set (fillC ts k) k (.ro (x.map rV) 1 false)))]) (some H.length)] [11, 3, 9, 10] (e := .normal) (vals := [(.int .i64 (k : Int)), (.sl H.length 1 0 ts.length ts.length true), (.ro (ts.map bV) 1 false), (.int .i64 (List.length ts : Int))]) (h' := (H ++ [(.cells (List.set (fillC ts k) k (.ro (x.map rV) 1 false)))])) hlb (fun _ => by kernel_rfl) ⟨rfl, (by omega), (by simp; omega), hx, (clone90_e (by kernel_rfl) x hxl _), rfl, (by omega), (by simp; omega), (stN (by rw [fillC_len (by omega)]; omega) rfl rfl), trivial⟩).mono ?_
   rintro e s' ⟨rfl, t5, lo5, rfl, hl5⟩
   rw [hst]
   exact .inl ⟨rfl, (), t5, lo5, rfl, trivial, hl5⟩
  ·rintro e s (⟨rfl, _, t5, lo5, rfl, -, hle⟩ | ⟨rfl, h⟩)
   ·refine (pathE (nt := 23) [] [2] (e := .ret) (vals := [(.sl H.length 1 0 ts.length ts.length true)]) (h' := (H ++ [(.cells (fillC ts ts.length))])) hle (fun _ => by kernel_rfl) trivial).mono ?_
    rintro e s ⟨rfl, t6, lo6, rfl, hl6⟩
    refine ⟨rfl, [(.sl (List.length H) 1 0 (List.length ts) (List.length ts) true)], ?_, rfl, by rw [fillC_all]⟩
    have := hl6.get (2, (.sl (List.length H) 1 0 (List.length ts) (List.length ts) true)) (by simp)
    rw [getX_eq] at this
    show resAll _ [.t 2] = _
    simp only [resAll, resOf, this]
   ·exact h.elim
 obtain ⟨r, h', lo, ⟨rfl, rfl⟩, h⟩ := key
 exact ⟨lo, h⟩
open Go
abbrev dbC (T : List (List Int)) (V : List Vw) (free : Bool) (q n : Nat) (wv mv : AV) : List AV := [.ro (T.map tV) 1 false, .ro (V.map vwV) 3 false, .bool free, .sl q 1 0 n n true, wv, mv]
def Kept (H H' : List Blk) : Prop := H.length ≤ H'.length ∧ ∀ (i : Nat) (x : Blk), H[i]? = some x → H'[i]? = some x
theorem Kept.refl (H) : Kept H H := ⟨Nat.le_refl _, fun _ _ h => h⟩
theorem Kept.ap {H G : List Blk} (h : Kept H G) {b : Blk} : Kept H (G ++ [b]) := ⟨by simp; have := h.1; omega, fun i x hx => ga (h.2 i x hx)⟩
theorem Kept.set {H G : List Blk} (h : Kept H G) {b : Blk} {j : Nat} (hj : H.length ≤ j) : Kept H (G.set j b) := ⟨by simp; exact h.1, fun i x hx => gne (by have := glt hx; omega) (h.2 i x hx)⟩
theorem Kept.trans {H G K : List Blk} (h : Kept H G) (k : Kept G K) : Kept H K := ⟨Nat.le_trans h.1 k.1, fun i x hx => k.2 i x (h.2 i x hx)⟩
def hdV (r : List Val) : Val := r.headD default
def rowsS (rows : List (List Val)) (lo hi : Val) : List (List Val) := rows.filter fun r => isInB (hdV r) lo hi
structure UnM (Γ : FuncId → Option GF) : Prop where
 n97 : Γ 97 = none
 n58 : Γ 58 = none
 n25 : Γ 25 = none
 e120 : Γ 120 = some (pureG g120)
 e64 : Γ 64 = some (pureG g64)
 e66 : Γ 66 = some (pureG g66)
section
variable {Γ : FuncId → Option GF} (u : UnM Γ)
include u
theorem rows_cl {T : List (List Int)} {V : List Vw} {free : Bool} {p q n : Nat} {wv mv : AV} {now : Tabs} {t : Int} {rows : List (List Val)} {lo hi : Val} {H : List Blk} (hp : H[p]? = some (.cells (dbC T V free q n wv mv))) (hq : H[q]? = some (.cells (tsC now))) (hn : now.length = n) (ht0 : 0 ≤ t) (hrows : now[t.toNat]? = some rows) (hrl0 : rows.length ≤ 1000000) (hr : ∀ r ∈ rows, 0 < r.length ∧ r.length ≤ 1000) :
  ∃ sv H' l, Cl Γ Mo.T 58 [.ptr p 0, .int .i64 t, vV lo, vV hi] H (.agg [.int .i64 0, sv, .nils, .int .i64 0], H', l) ∧ Gro 1 (lsR (rowsS rows lo hi)) H' sv ∧ (∀ i, svId sv = some i → H.length ≤ i) ∧ Kept H H' := by
 have htl := (List.getElem?_eq_some_iff.1 hrows).1
 have key : ∃ r h' l, (∃ sv, r = .agg [.int .i64 0, sv, .nils, .int .i64 0] ∧ Gro 1 (lsR (rowsS rows lo hi)) h' sv ∧ (∀ i, svId sv = some i → H.length ≤ i) ∧ Kept H h') ∧ Cl Γ Mo.T 58 [.ptr p 0, .int .i64 t, vV lo, vV hi] H (r, h', l) := by
  refine clE (Γ := Γ) (tbl := Mo.T) (f := 58) (af := a58) (args := [.ptr p 0, .int .i64 t, vV lo, vV hi]) (h := H) u.n58 (by kernel_rfl) (by kernel_rfl) (fun r h' => ∃ sv, r = .agg [.int .i64 0, sv, .nils, .int .i64 0] ∧ Gro 1 (lsR (rowsS rows lo hi)) h' sv ∧ (∀ i, svId sv = some i → H.length ≤ i) ∧ Kept H h') ?_
  refine Wp.seq ((pathE (nt := 38) (live := [(0, (.ptr p 0)), (1, (.int .i64 t)), (2, (.agg (enV lo))), (3, (.agg (enV hi)))]) [.w (.box (.c (.agg (enV lo)))) (.ptr H.length 0) (ap H (enV lo)) none, .w (.box (.c (.agg (enV hi)))) (.ptr (List.length (ap H (enV lo))) 0) (ap (ap H (enV lo)) (enV hi)) none, .w (.alloc [(.int .i64 0), .nils, .nils, (.int .i64 0)]) (.ptr (List.length (ap (ap H (enV lo)) (enV hi))) 0) (ap (ap (ap H (enV lo)) (enV hi)) [(.int .i64 0), .nils, .nils, (.int .i64 0)]) none] [0, 1, 6, 7, 8] (e := .normal) (vals := [(.ptr p 0), (.int .i64 t), (.ptr H.length 0), (.ptr (List.length (ap H (enV lo))) 0), (.ptr (List.length (ap (ap H (enV lo)) (enV hi))) 0)]) (h' := (ap (ap (ap H (enV lo)) (enV hi)) [(.int .i64 0), .nils, .nils, (.int .i64 0)])) (Lv.start (by rfl) (by simp)) (fun _ => by kernel_rfl) ⟨rfl, rfl, rfl, trivial⟩).mono ?_)
  rintro e s ⟨rfl, t1, lo1, rfl, hl1⟩
  have hk : Kept H (ap (ap (ap H (enV lo)) (enV hi)) [(.int .i64 0), .nils, .nils, (.int .i64 0)]) := ((Kept.refl H).ap.ap).ap
  have h6 : ((ap (ap (ap H (enV lo)) (enV hi)) [(.int .i64 0), .nils, .nils, (.int .i64 0)]) : List Blk)[H.length]? = some (.cells [(.int .i64 lo.k), (.int .i64 lo.n), (.str lo.s)]) := ga (ga gl)
  have h7 : ((ap (ap (ap H (enV lo)) (enV hi)) [(.int .i64 0), .nils, .nils, (.int .i64 0)]) : List Blk)[(ap H [(.int .i64 lo.k), (.int .i64 lo.n), (.str lo.s)]).length]? = some (.cells [(.int .i64 hi.k), (.int .i64 hi.n), (.str hi.s)]) := ga gl
  have h8 : ((ap (ap (ap H (enV lo)) (enV hi)) [(.int .i64 0), .nils, .nils, (.int .i64 0)]) : List Blk)[(ap (ap H [(.int .i64 lo.k), (.int .i64 lo.n), (.str lo.s)]) [(.int .i64 hi.k), (.int .i64 hi.n), (.str hi.s)]).length]? = some (.cells [(.int .i64 0), .nils, .nils, (.int .i64 0)]) := gl
  have g6 : H.length ≤ H.length := Nat.le_refl _
  have g7 : (ap H [(.int .i64 lo.k), (.int .i64 lo.n), (.str lo.s)]).length = H.length + 1 := by simp
  have g8 : (ap (ap H [(.int .i64 lo.k), (.int .i64 lo.n), (.str lo.s)]) [(.int .i64 hi.k), (.int .i64 hi.n), (.str hi.s)]).length = H.length + 2 := by simp
  have gG : ((ap (ap (ap H (enV lo)) (enV hi)) [(.int .i64 0), .nils, .nils, (.int .i64 0)]) : List Blk).length = H.length + 3 := by simp
  generalize ((ap (ap (ap H (enV lo)) (enV hi)) [(.int .i64 0), .nils, .nils, (.int .i64 0)]) : List Blk) = G at hk h6 h7 h8 gG hl1 ⊢
  generalize (ap (ap H [(.int .i64 lo.k), (.int .i64 lo.n), (.str lo.s)]) [(.int .i64 hi.k), (.int .i64 hi.n), (.str hi.s)]).length = k8 at h8 g8 hl1
  generalize (ap H [(.int .i64 lo.k), (.int .i64 lo.n), (.str lo.s)]).length = k7 at h7 g7 hl1
  obtain ⟨k6, hk6⟩ : ∃ k6, H.length = k6 := ⟨_, rfl⟩
  have hl1 : Lv 38 [(0, .ptr p 0), (1, .int .i64 t), (6, .ptr k6 0), (7, .ptr k7 0), (8, .ptr k8 0)] t1 := hk6 ▸ hl1
  have h6 : G[k6]? = some (.cells [(.int .i64 lo.k), (.int .i64 lo.n), (.str lo.s)]) := hk6 ▸ h6
  have hpG := hk.2 _ _ hp
  have hqG := hk.2 _ _ hq
  have hld : ∀ {G : List Blk}, G[q]? = some (.cells (tsC now)) → pOp evC G (.load none (.c (.ptr q (0 + Int.toNat t * 1)))) = some (bV rows) := by
   intro G h
   have := ldX (k := t.toNat) h (show (tsC now)[t.toNat]? = some (bV rows) by simp [hrows])
   rw [show ((t.toNat : Nat) : Int) = t by omega] at this
   exact this
  have htn : t < ((n : Nat) : Int) := by omega
  refine Wp.seq (Wp.seq ((pathE (nt := 38) [.f (.load none (.c (.ptr p 3))) (.sl q 1 0 n n true), .p (1 = 1), .p ((0 : Int) ≤ t), .p ((t : Int) < ((n : Nat) : Int)), .f (.load none (.c (.ptr q (0 + (Int.toNat t) * 1)))) (.ro (rows.map rV) 1 false)] [19, 6, 7, 8, 17, 18] (e := .normal) (vals := [(.int .i64 0), (.ptr k6 0), (.ptr k7 0), (.ptr k8 0), (.ro (rows.map rV) 1 false), (.int .i64 ((List.length (rows.map rV)) : Int))]) (h' := G) hl1 (fun _ => by kernel_rfl) ⟨(ldV hpG), rfl, ht0, htn, (hld hqG), trivial⟩).mono ?_))
  rintro e s ⟨rfl, t3, lo3, rfl, hl3⟩
  simp only [List.length_map] at hl3
  refine (rangeL (i := 19) (n := 18) (c := 20) (d := 36) (X := List Blk × AV) (N := rows.length) (fun _ _ => [(6, .ptr k6 0), (7, .ptr k7 0), (8, .ptr k8 0), (17, (.ro (List.map rV rows) 1 false)), (18, .int .i64 (rows.length : Int))]) (fun _ x => x.1)
   (fun k x => x.1[k6]? = some (.cells [(.int .i64 lo.k), (.int .i64 lo.n), (.str lo.s)]) ∧ x.1[k7]? = some (.cells [(.int .i64 hi.k), (.int .i64 hi.n), (.str hi.s)]) ∧ x.1[k8]? = some (.cells [.int .i64 0, x.2, .nils, .int .i64 0]) ∧ Gro 1 (lsR (rowsS (rows.take k) lo hi)) x.1 x.2 ∧ (∀ i, svId x.2 = some i → H.length + 3 ≤ i) ∧ Kept H x.1 ∧ H.length + 3 ≤ x.1.length) (fun _ => False)
   (by omega) (by decide) (by decide) (by decide) (by decide) (by decide) (fun _ _ => rfl) (fun _ _ => rfl) ?_ (x0 := (G, .nils)) ⟨h6, h7, h8, Gro.nil _ _, (fun i h => by cases h), hk, (by show _ ≤ G.length; omega)⟩ hl3).mono ?_
  ·rintro k ⟨G, sv⟩ t4 lo4 hkN ⟨h6, h7, h8, hg, hid, hkp, hlen⟩ hlb
   simp only at h6 h7 h8 hg hid hkp hlen hlb ⊢
   have hrow : (List.map rV rows)[(k : Int).toNat]? = some (.ro (List.map vV rows[k]) 3 false) := by simp [hkN]
   obtain ⟨hrp, hrL⟩ := hr _ (List.getElem_mem hkN)
   have htk : rowsS (rows.take (k + 1)) lo hi = rowsS (rows.take k) lo hi ++ rowsS [rows[k]] lo hi := by
    rw [List.take_succ_eq_append_getElem hkN]; exact List.filter_append ..
   generalize rows[k] = row at hrow hrp hrL htk
   have hr0 : (0 : Int) < ((List.map vV row).length : Int) := by simp; omega
   have hrl : row.length * 32 ≤ 140737488355328 := by omega
   obtain ⟨u0, hu⟩ : ∃ u0, row = u0 :: row.tail := by cases row with
    | nil => simp at hrp
    | cons a r => exact ⟨a, rfl⟩
   have hu0 : (List.map vV row)[0]? = some (.agg (enV u0)) := by rw [hu]; rfl
   have hhd : hdV row = u0 := by rw [hu]; rfl
   obtain ⟨l9, h9⟩ := isIn_cl (Γ := Γ) u.n97 u.e120 u0 lo hi G
   have hsv := hg.eqv
   cases hin : isInB u0 lo hi with
   | false =>
    refine (pathE (nt := 38) [.p (1 = 1), .p ((0 : Int) ≤ (k : Int)), .p (((k : Int) : Int) < (List.length (rows.map rV) : Int)), .e (rows.map rV) (Int.toNat (k : Int)) (.ro (row.map vV) 3 false), .p (3 = 3), .p ((0 : Int) ≤ 0), .p ((0 : Int) < (List.length (row.map vV) : Int)), .e (row.map vV) 0 (.agg (enV u0)), .f (.load (some 3) (.c (.ptr k6 0))) (.agg (enV lo)), .f (.load (some 3) (.c (.ptr k7 0))) (.agg (enV hi)), .r 97 [(.agg (enV u0)), (.agg (enV lo)), (.agg (enV hi))] (.bool false) (ap (ap (ap G [(.int .i64 u0.k), (.int .i64 u0.n), (.str u0.s)]) [(.int .i64 lo.k), (.int .i64 lo.n), (.str lo.s)]) [(.int .i64 hi.k), (.int .i64 hi.n), (.str hi.s)]) l9] [19, 6, 7, 8, 17, 18] (e := .normal) (vals := [(.int .i64 (k : Int)), (.ptr k6 0), (.ptr k7 0), (.ptr k8 0), (.ro (rows.map rV) 1 false), (.int .i64 (List.length rows : Int))]) (h' := (ap (ap (ap G [(.int .i64 u0.k), (.int .i64 u0.n), (.str u0.s)]) [(.int .i64 lo.k), (.int .i64 lo.n), (.str lo.s)]) [(.int .i64 hi.k), (.int .i64 hi.n), (.str hi.s)])) hlb (fun _ => by kernel_rfl) ⟨rfl, (by omega), (by simp; omega), hrow, rfl, (by omega), hr0, hu0, (ldV h6), (ldV h7), (hin ▸ h9), trivial⟩).mono ?_
    rintro e s' ⟨rfl, t5, lo5, rfl, hl5⟩
    refine .inl ⟨rfl, ((ap (ap (ap G [(.int .i64 u0.k), (.int .i64 u0.n), (.str u0.s)]) [(.int .i64 lo.k), (.int .i64 lo.n), (.str lo.s)]) [(.int .i64 hi.k), (.int .i64 hi.n), (.str hi.s)]), sv), t5, lo5, rfl, ⟨ga (ga (ga h6)), ga (ga (ga h7)), ga (ga (ga h8)), ?_, hid, hkp.ap.ap.ap, by simp; omega⟩, hl5⟩
    rw [htk, show rowsS [row] lo hi = [] by simp [rowsS, hhd, hin], List.append_nil]
    exact hg.grow fun i _ x hx => ga (ga (ga hx))
   | true =>
    have hg1 : Gro 1 (lsR (rowsS (rows.take k) lo hi)) (ap (ap (ap (ap G [(.int .i64 u0.k), (.int .i64 u0.n), (.str u0.s)]) [(.int .i64 lo.k), (.int .i64 lo.n), (.str lo.s)]) [(.int .i64 hi.k), (.int .i64 hi.n), (.str hi.s)]) [(.ro (List.map vV row) 3 false)]) sv := hg.grow fun i _ x hx => ga (ga (ga (ga hx)))
    have hrsl : (rowsS (rows.take k) lo hi).length ≤ k := Nat.le_trans (List.length_filter_le ..) (by simp; omega)
    obtain ⟨sv', H1, lo1, happ, hg2, hi2, hl2, hfr⟩ := hg1.app (by_ := 24) (e := [rV row]) rfl rfl (jd := ((ap (ap (ap G [(.int .i64 u0.k), (.int .i64 u0.n), (.str u0.s)]) [(.int .i64 lo.k), (.int .i64 lo.n), (.str lo.s)]) [(.int .i64 hi.k), (.int .i64 hi.n), (.str hi.s)])).length) gl (by rw [List.length_map]; omega)
    have k6f := hfr k6 _ (fun h => by have := hid k6 h; omega) (ga (ga (ga (ga h6))))
    have k7f := hfr k7 _ (fun h => by have := hid k7 h; omega) (ga (ga (ga (ga h7))))
    have k8f := hfr k8 _ (fun h => by have := hid k8 h; omega) (ga (ga (ga (ga h8))))
    have hkp1 : Kept H H1 := ⟨by rw [hl2]; simp; omega, fun i x hx => hfr i x (fun h => by have := hid i h; have := glt hx; omega) (hkp.ap.ap.ap.ap.2 i x hx)⟩
    generalize hjd : ((ap (ap (ap (ap G [(.int .i64 u0.k), (.int .i64 u0.n), (.str u0.s)]) [(.int .i64 lo.k), (.int .i64 lo.n), (.str lo.s)]) [(.int .i64 hi.k), (.int .i64 hi.n), (.str hi.s)]) [(.ro (List.map vV row) 3 false)])).length = jd at hi2 hl2
    have hjd2 : jd = G.length + 4 := by rw [← hjd]; simp
    generalize ((lsR (rowsS (rows.take k) lo hi)).length + 1) = nn at hi2
    subst hi2
    refine (pathE (nt := 38) [.p (1 = 1), .p ((0 : Int) ≤ (k : Int)), .p (((k : Int) : Int) < (List.length (rows.map rV) : Int)), .e (rows.map rV) (Int.toNat (k : Int)) (.ro (row.map vV) 3 false), .p (3 = 3), .p ((0 : Int) ≤ 0), .p ((0 : Int) < (List.length (row.map vV) : Int)), .e (row.map vV) 0 (.agg (enV u0)), .f (.load (some 3) (.c (.ptr k6 0))) (.agg (enV lo)), .f (.load (some 3) (.c (.ptr k7 0))) (.agg (enV hi)), .r 97 [(.agg (enV u0)), (.agg (enV lo)), (.agg (enV hi))] (.bool true) (ap (ap (ap G [(.int .i64 u0.k), (.int .i64 u0.n), (.str u0.s)]) [(.int .i64 lo.k), (.int .i64 lo.n), (.str lo.s)]) [(.int .i64 hi.k), (.int .i64 hi.n), (.str hi.s)]) l9, .p (stays evC (AOper.mk (some 30) (.load none (.c (.ptr k8 1))) none 0 2) sv [(ap (ap (ap G [(.int .i64 u0.k), (.int .i64 u0.n), (.str u0.s)]) [(.int .i64 lo.k), (.int .i64 lo.n), (.str lo.s)]) [(.int .i64 hi.k), (.int .i64 hi.n), (.str hi.s)]), (ap (ap (ap G [(.int .i64 u0.k), (.int .i64 u0.n), (.str u0.s)]) [(.int .i64 lo.k), (.int .i64 lo.n), (.str lo.s)]) [(.int .i64 hi.k), (.int .i64 hi.n), (.str hi.s)]), (ap (ap (ap (ap G [(.int .i64 u0.k), (.int .i64 u0.n), (.str u0.s)]) [(.int .i64 lo.k), (.int .i64 lo.n), (.str lo.s)]) [(.int .i64 hi.k), (.int .i64 hi.n), (.str hi.s)]) [(.ro (row.map vV) 3 false)]), H1, (H1.set k8 (.cells [(.int .i64 0), (.sl jd 1 0 nn nn false), .nils, (.int .i64 0)]))] = true), .f (.load none (.c (.ptr k8 1))) sv, .r 64 [(.ro (row.map vV) 3 false)] (.ro (row.map vV) 3 false) (ap (ap (ap G [(.int .i64 u0.k), (.int .i64 u0.n), (.str u0.s)]) [(.int .i64 lo.k), (.int .i64 lo.n), (.str lo.s)]) [(.int .i64 hi.k), (.int .i64 hi.n), (.str hi.s)]) none, .w (.buildSl [.nils] 1 [(0, (.c (.ro (row.map vV) 3 false)))]) (.sl (List.length (ap (ap (ap G [(.int .i64 u0.k), (.int .i64 u0.n), (.str u0.s)]) [(.int .i64 lo.k), (.int .i64 lo.n), (.str lo.s)]) [(.int .i64 hi.k), (.int .i64 hi.n), (.str hi.s)])) 1 0 1 1 true) (ap (ap (ap (ap G [(.int .i64 u0.k), (.int .i64 u0.n), (.str u0.s)]) [(.int .i64 lo.k), (.int .i64 lo.n), (.str lo.s)]) [(.int .i64 hi.k), (.int .i64 hi.n), (.str hi.s)]) [(.ro (row.map vV) 3 false)]) none, .w (.append 1 24 (.c sv) (.c (.sl (List.length (ap (ap (ap G [(.int .i64 u0.k), (.int .i64 u0.n), (.str u0.s)]) [(.int .i64 lo.k), (.int .i64 lo.n), (.str lo.s)]) [(.int .i64 hi.k), (.int .i64 hi.n), (.str hi.s)])) 1 0 1 1 true))) (.sl jd 1 0 nn nn false) H1 lo1, .w (.store 1 (.c (.ptr k8 1)) (.c (.sl jd 1 0 nn nn false))) (.tup []) (H1.set k8 (.cells [(.int .i64 0), (.sl jd 1 0 nn nn false), .nils, (.int .i64 0)])) (some k8)] [19, 6, 7, 8, 17, 18] (e := .normal) (vals := [(.int .i64 (k : Int)), (.ptr k6 0), (.ptr k7 0), (.ptr k8 0), (.ro (rows.map rV) 1 false), (.int .i64 (List.length rows : Int))]) (h' := (H1.set k8 (.cells [(.int .i64 0), (.sl jd 1 0 nn nn false), .nils, (.int .i64 0)]))) hlb (fun _ => by kernel_rfl) ⟨rfl, (by omega), (by simp; omega), hrow, rfl, (by omega), hr0, hu0, (ldV h6), (ldV h7), (hin ▸ h9), (stays2 hsv (And.intro (ldV (ga (ga (ga h8)))) (And.intro (ldV (ga (ga (ga h8)))) (And.intro (ldV (ga (ga (ga (ga h8))))) trivial)))), (ldV (ga (ga (ga h8)))), (clone64_e u.e64 row hrl _), rfl, happ, (stK k8f), trivial⟩).mono ?_
    rintro e s' ⟨rfl, t5, lo5, rfl, hl5⟩
    refine .inl ⟨rfl, ((List.set H1 k8 (.cells [(.int .i64 0), (.sl jd 1 0 nn nn false), .nils, (.int .i64 0)])), .sl jd 1 0 nn nn false), t5, lo5, rfl, ⟨gne (by omega) k6f, gne (by omega) k7f, gset k8f, ?_, (fun i hi => by cases hi; omega), hkp1.set (by omega), by simp; omega⟩, hl5⟩
    rw [htk, show rowsS [row] lo hi = [row] by simp [rowsS, hhd, hin]]
    rw [show lsR (rowsS (rows.take k) lo hi ++ [row]) = lsR (rowsS (rows.take k) lo hi) ++ [[rV row]] by simp [lsR]]
    exact hg2.grow fun i hi x hx => by cases hi; exact gne (by omega) hx
  ·rintro e s (⟨rfl, ⟨G, sv⟩, t5, lo5, rfl, ⟨h6, h7, h8, hg, hid, hkp, hlen⟩, hle⟩ | ⟨rfl, h⟩)
   ·simp only at h6 h7 h8 hg hid hkp hlen hle
    rw [List.take_of_length_le (Nat.le_refl _)] at hg
    have hone : (AV.agg [.int .i64 0, sv, .nils, .int .i64 0]).cells.all AV.one = true := by
     simp only [AV.cells, List.all_cons, hg.one]
     rfl
    refine (pathE (nt := 38) [.f (.load (some 4) (.c (.ptr k8 0))) (.agg [(.int .i64 0), sv, .nils, (.int .i64 0)]), .w (.store 4 (.c (.ptr k8 0)) (.c (.agg [(.int .i64 0), sv, .nils, (.int .i64 0)]))) (.tup []) (G.set k8 (.cells [(.int .i64 0), sv, .nils, (.int .i64 0)])) (some k8)] [8] (e := .ret) (vals := [(.ptr k8 0)]) (h' := (G.set k8 (.cells [(.int .i64 0), sv, .nils, (.int .i64 0)]))) hle (fun _ => by kernel_rfl) ⟨(ldV h8), (stC h8 (by kernel_rfl) (by kernel_rfl) hone), trivial⟩).mono ?_
    rintro e s ⟨rfl, t6, lo6, rfl, hl6⟩
    refine ⟨rfl, _, resCell (hl6.ev List.mem_cons_self) (ldC (gset h8) (by kernel_rfl)), sv, rfl, ?_, fun i hi => by have := hid i hi; omega, hkp.set (by omega)⟩
    exact hg.grow fun i hi x hx => gne (by have := hid i hi; omega) hx
   ·exact h.elim
 obtain ⟨r, h', l, ⟨sv, rfl, h1, h2, h3⟩, h⟩ := key
 exact ⟨sv, h', l, h, h1, h2, h3⟩
theorem groupsM_cl {T : List (List Int)} {V : List Vw} {free : Bool} {p q n : Nat} {wv mv : AV} {now : Tabs} {v : Int} {w : Vw} {rows : List (List Val)} {H : List Blk} (hp : H[p]? = some (.cells (dbC T V free q n wv mv))) (hq : H[q]? = some (.cells (tsC now))) (hn : now.length = n) (ok : OkVw T V v w rows) (hw0 : 0 ≤ w.1) (hrows : now[w.1.toNat]? = some rows) :
  ∃ l, Cl Γ Mo.T 25 [.ptr p 0, .int .i64 v] H (gsV (viewS T V v rows), H, l) := by
 have hv0 := ok.v0
 have hvl0 := (List.getElem?_eq_some_iff.1 ok.hw).1
 have hvl : v < ((List.map vwV V).length : Int) := by simp; omega
 have h1 : ¬ v < 0 := by omega
 have h2 : ¬ v ≥ ((List.map vwV V).length : Int) := by omega
 have hw : (List.map vwV V)[v.toNat]? = some (.agg [(.int .i64 (Prod.fst w)), (.int .i64 (Prod.fst (Prod.snd w))), (.ro (List.map iV (Prod.snd (Prod.snd w))) 1 false)]) := by simp [ok.hw]
 have htl := (List.getElem?_eq_some_iff.1 hrows).1
 have hwn : w.1 < ((n : Nat) : Int) := by omega
 have hld : ∀ {G : List Blk}, G[q]? = some (.cells (tsC now)) → pOp evC G (.load none (.c (.ptr q (0 + Int.toNat w.1 * 1)))) = some (bV rows) := by
  intro G h
  have := ldX (k := w.1.toNat) h (show (tsC now)[w.1.toNat]? = some (bV rows) by simp [hrows])
  rw [show ((w.1.toNat : Nat) : Int) = w.1 by omega] at this
  exact this
 exact clV 1 (af := a25) (r := (gsV (viewS T V v rows))) (h' := H) [.q (.isNil 0 false (.c (.ptr p 0))) false, .b (decide (v < 0)) false, .f (.load none (.c (.ptr p 1))) (.ro (V.map vwV) 3 false), .b (decide (v ≥ ((List.length (V.map vwV)) : Int))) false, .f (.load (some 2) (.c (.ptr p 0))) (.agg [(.ro (T.map tV) 1 false), (.ro (V.map vwV) 3 false)]), .f (.load none (.c (.ptr p 3))) (.sl q 1 0 n n true), .f (.load none (.c (.ptr p 1))) (.ro (V.map vwV) 3 false), .p (3 = 3), .p ((0 : Int) ≤ v), .p ((v : Int) < (List.length (V.map vwV) : Int)), .e (V.map vwV) (Int.toNat v) (.agg [(.int .i64 (Prod.fst w)), (.int .i64 (Prod.fst (Prod.snd w))), (.ro (List.map iV (Prod.snd (Prod.snd w))) 1 false)]), .p (1 = 1), .p ((0 : Int) ≤ (Prod.fst w)), .p (((Prod.fst w) : Int) < ((n : Nat) : Int)), .f (.load none (.c (.ptr q (0 + (Int.toNat (Prod.fst w)) * 1)))) (.ro (rows.map rV) 1 false), .r 66 [(.agg [(.ro (T.map tV) 1 false), (.ro (V.map vwV) 3 false)]), (.int .i64 v), (.ro (rows.map rV) 1 false)] (gsV (viewS T V v rows)) H none] [] u.n25 ⟨rfl, (cF h1), (ldV hp), (cF h2), (ldV hp), (ldV hp), (ldV hp), rfl, hv0, hvl, hw, rfl, hw0, hwn, (hld hq), (view_e u.e66 ok _), trivial⟩
end
open Go
abbrev u8 (b : UInt8) : Int := b.toNat
theorem neS {a b : List UInt8} {x : Bool} {H : List Blk} (h : bytesEq a b = x) : pOp evC H (.bin .neq (.c (.str a)) (.c (.str b))) = some (.bool (!x)) := by subst h; rfl
theorem resCT {t : List AV} {h : List Blk} {lo : Option Nat} {a c : Nat} {n : Option Nat} {p v w : AV} (ha : evalO t (.t a) = p) (hp : pOp evC h (.load n (.c p)) = some v) (hc : evalO t (.t c) = w) : resAll { t := t, h := h, lo := lo } [.cell a n, .t c] = some [v, w] := by
 have e : (rdPtr h (cellsN n) ((t[a]?).getD .dead)).bind (asVar n) = some v := by
  have : (t[a]?).getD .dead = p := ha
  rw [this]; exact hp
 have e2 : (t[c]?).getD .dead = w := hc
 simp only [resAll, resOf, e, e2]
theorem read_cl0 (b1 b2 b3 b4 b5 b6 b7 b8 : UInt8) : ∃ (v : Val) (e : Int) (H' : List Blk) (lo : Option Nat), Cl G3 T 98 [.str [1, b1, b2, b3, b4, b5, b6, b7, b8]] [] (.tup [vV v, .int .i64 e], H', lo) := by
 have key : ∃ r h' lo, (∃ (v : Val) (e : Int), r = .tup [vV v, .int .i64 e]) ∧ Cl G3 T 98 [.str [1, b1, b2, b3, b4, b5, b6, b7, b8]] [] (r, h', lo) := by
  refine clE (Γ := G3) (tbl := T) (f := 98) (af := a98) (args := [.str [1, b1, b2, b3, b4, b5, b6, b7, b8]]) (h := []) (by kernel_rfl) (by kernel_rfl) (by kernel_rfl) (fun r _ => ∃ (v : Val) (e : Int), r = .tup [vV v, .int .i64 e]) ?_
  refine Wp.seq ((pathX (Γ := G3) (tbl := T) (k := (hd a98.body)) (h := []) (lo := none) (nt := 71) (live := [(0, (.str [1, b1, b2, b3, b4, b5, b6, b7, b8]))]) 100 [0, 2] (e := .normal) (vals := [(.str [1, b1, b2, b3, b4, b5, b6, b7, b8]), .ptr 0 0]) (h' := [.cells [.int .i64 0, .int .i64 0, .str []]]) (lo' := none) (Lv.start (by rfl) (by simp)) (fun t0 => by kernel_rfl)).mono ?_)
  rintro e s ⟨rfl, t1, rfl, hl1⟩
  refine Wp.seq ((pathX (Γ := G3) (tbl := T) (k := (hd (tl a98.body))) (h := [.cells [.int .i64 0, .int .i64 0, .str []]]) (lo := none) (nt := 71) (live := [(0, (.str [1, b1, b2, b3, b4, b5, b6, b7, b8])), (2, .ptr 0 0)]) 100 [0, 2] (e := .normal) (vals := [(.str [1, b1, b2, b3, b4, b5, b6, b7, b8]), .ptr 0 0]) (h' := [.cells [.int .i64 0, .int .i64 0, .str []]]) (lo' := none) hl1 (fun t0 => by kernel_rfl)).mono ?_)
  rintro e s ⟨rfl, t2, rfl, hl2⟩
  refine Wp.seq ((pathX (Γ := G3) (tbl := T) (k := (hd (tl (tl a98.body)))) (h := [.cells [.int .i64 0, .int .i64 0, .str []]]) (lo := none) (nt := 71) (live := [(0, (.str [1, b1, b2, b3, b4, b5, b6, b7, b8])), (2, .ptr 0 0)]) 100 [0, 2, 4] (e := .normal) (vals := [(.str [1, b1, b2, b3, b4, b5, b6, b7, b8]), .ptr 0 0, .ptr 1 0]) (h' := [.cells [.int .i64 0, .int .i64 0, .str []], .cells [.int .i64 1, .int .i64 0, .str []]]) (lo' := (some 1)) hl2 (fun t0 => by kernel_rfl)).mono ?_)
  rintro e s ⟨rfl, t3, rfl, hl3⟩
  refine Wp.seq ((pathX (Γ := G3) (tbl := T) (k := (hd (tl (tl (tl a98.body))))) (h := [.cells [.int .i64 0, .int .i64 0, .str []], .cells [.int .i64 1, .int .i64 0, .str []]]) (lo := (some 1)) (nt := 71) (live := [(0, (.str [1, b1, b2, b3, b4, b5, b6, b7, b8])), (2, .ptr 0 0), (4, .ptr 1 0)]) 100 [0, 2, 4, 5] (e := .normal) (vals := [(.str [1, b1, b2, b3, b4, b5, b6, b7, b8]), .ptr 0 0, .ptr 1 0, .int .i64 (IntKind.i64.wrap (u8 b8))]) (h' := [.cells [.int .i64 0, .int .i64 0, .str []], .cells [.int .i64 1, .int .i64 0, .str []]]) (lo' := (some 1)) hl3 (fun t0 => by kernel_rfl)).mono ?_)
  rintro e s ⟨rfl, t4, rfl, hl4⟩
  refine Wp.seq ((pathX (Γ := G3) (tbl := T) (k := (hd (tl (tl (tl (tl a98.body)))))) (h := [.cells [.int .i64 0, .int .i64 0, .str []], .cells [.int .i64 1, .int .i64 0, .str []]]) (lo := (some 1)) (nt := 71) (live := [(0, (.str [1, b1, b2, b3, b4, b5, b6, b7, b8])), (2, .ptr 0 0), (4, .ptr 1 0), (5, .int .i64 (IntKind.i64.wrap (u8 b8)))]) 100 [0, 2, 4] (e := .normal) (vals := [(.str [1, b1, b2, b3, b4, b5, b6, b7, b8]), .ptr 0 0, .ptr 1 0]) (h' := [.cells [.int .i64 0, .int .i64 0, .str []], .cells [.int .i64 1, .int .i64 (IntKind.i64.wrap (bXor .u64 (bOr .u64 (IntKind.u64.wrap ((bOr .u64 (IntKind.u64.wrap ((bOr .u64 (IntKind.u64.wrap ((bOr .u64 (IntKind.u64.wrap ((bOr .u64 (IntKind.u64.wrap ((bOr .u64 (IntKind.u64.wrap ((bOr .u64 (IntKind.u64.wrap ((bOr .u64 (IntKind.u64.wrap (0 * (2 ^ 8))) (IntKind.u64.wrap (u8 b1))) * (2 ^ 8))) (IntKind.u64.wrap (u8 b2))) * (2 ^ 8))) (IntKind.u64.wrap (u8 b3))) * (2 ^ 8))) (IntKind.u64.wrap (u8 b4))) * (2 ^ 8))) (IntKind.u64.wrap (u8 b5))) * (2 ^ 8))) (IntKind.u64.wrap (u8 b6))) * (2 ^ 8))) (IntKind.u64.wrap (u8 b7))) * (2 ^ 8))) (IntKind.u64.wrap (u8 b8))) 9223372036854775808)), .str []]]) (lo' := (some 1)) hl4 (fun t0 => by kernel_rfl)).mono ?_)
  rintro e s ⟨rfl, t5, rfl, hl5⟩
  generalize (IntKind.i64.wrap (bXor .u64 (bOr .u64 (IntKind.u64.wrap ((bOr .u64 (IntKind.u64.wrap ((bOr .u64 (IntKind.u64.wrap ((bOr .u64 (IntKind.u64.wrap ((bOr .u64 (IntKind.u64.wrap ((bOr .u64 (IntKind.u64.wrap ((bOr .u64 (IntKind.u64.wrap ((bOr .u64 (IntKind.u64.wrap (0 * (2 ^ 8))) (IntKind.u64.wrap (u8 b1))) * (2 ^ 8))) (IntKind.u64.wrap (u8 b2))) * (2 ^ 8))) (IntKind.u64.wrap (u8 b3))) * (2 ^ 8))) (IntKind.u64.wrap (u8 b4))) * (2 ^ 8))) (IntKind.u64.wrap (u8 b5))) * (2 ^ 8))) (IntKind.u64.wrap (u8 b6))) * (2 ^ 8))) (IntKind.u64.wrap (u8 b7))) * (2 ^ 8))) (IntKind.u64.wrap (u8 b8))) 9223372036854775808)) = N0
  refine Wp.seq (Wp.seq ((pathX (Γ := G3) (tbl := T) (k := (hd (hd (tl (tl (tl (tl (tl a98.body)))))))) (h := [.cells [.int .i64 0, .int .i64 0, .str []], .cells [.int .i64 1, .int .i64 N0, .str []]]) (lo := (some 1)) (nt := 71) (live := [(0, (.str [1, b1, b2, b3, b4, b5, b6, b7, b8])), (2, .ptr 0 0), (4, .ptr 1 0)]) 100 [0, 2, 4, 9, 10] (e := .normal) (vals := [(.str [1, b1, b2, b3, b4, b5, b6, b7, b8]), .ptr 0 0, .ptr 1 0, .str (codeNum N0), .int .i64 0]) (h' := [.cells [.int .i64 0, .int .i64 0, .str []], .cells [.int .i64 1, .int .i64 N0, .str []]]) (lo' := (some 1)) hl5 (fun t0 => by kernel_rfl)).mono ?_))
  rintro e s ⟨rfl, t6, rfl, hl6⟩
  have h0 : ([.cells [.int .i64 0, .int .i64 0, .str []], .cells [.int .i64 1, .int .i64 N0, .str []]] : List Blk)[0]? = some (.cells [.int .i64 0, .int .i64 0, .str []]) := rfl
  have h1 : ([.cells [.int .i64 0, .int .i64 0, .str []], .cells [.int .i64 1, .int .i64 N0, .str []]] : List Blk)[1]? = some (.cells [.int .i64 1, .int .i64 N0, .str []]) := rfl
  generalize ([.cells [.int .i64 0, .int .i64 0, .str []], .cells [.int .i64 1, .int .i64 N0, .str []]] : List Blk) = H at h0 h1 ⊢
  cases h : bytesEq (codeNum N0) [1, b1, b2, b3, b4, b5, b6, b7, b8] with
  | false =>
   refine (pathE (nt := 71) [.b ((0 : Int) != 0) false, .q (.bin .neq (.c (.str (codeNum N0))) (.c (.str [1, b1, b2, b3, b4, b5, b6, b7, b8]))) true, .w (.store 3 (.c (.ptr 0 0)) (.c (.agg [(.int .i64 0), (.int .i64 0), (.str [])]))) (.tup []) (H.set 0 (.cells [(.int .i64 0), (.int .i64 0), (.str [])])) (some 0)] [2, 3] (e := .ret) (vals := [(.ptr 0 0), (.int .i64 3)]) (h' := (H.set 0 (.cells [(.int .i64 0), (.int .i64 0), (.str [])]))) hl6 (fun _ => by kernel_rfl) ⟨rfl, (neS h), (stK h0), trivial⟩).mono ?_
   rintro e s ⟨rfl, t7, lo7, rfl, hl7⟩
   exact ⟨rfl, _, resCT (hl7.ev (n := 2) (v := .ptr 0 0) (by simp)) (ldC (gset h0) (by kernel_rfl)) (hl7.ev (n := 3) (v := .int .i64 3) (by simp)), ⟨0, 0, []⟩, 3, rfl⟩
  | true =>
   refine (pathE (nt := 71) [.b ((0 : Int) != 0) false, .q (.bin .neq (.c (.str (codeNum N0))) (.c (.str [1, b1, b2, b3, b4, b5, b6, b7, b8]))) false] [2, 4] (e := .normal) (vals := [(.ptr 0 0), (.ptr 1 0)]) (h' := H) hl6 (fun _ => by kernel_rfl) ⟨rfl, (neS h), trivial⟩).mono ?_
   rintro e s ⟨rfl, t7, lo7, rfl, hl7⟩
   refine (pathE (nt := 71) [.f (.load (some 3) (.c (.ptr 1 0))) (.agg [(.int .i64 1), (.int .i64 N0), (.str [])]), .w (.store 3 (.c (.ptr 0 0)) (.c (.agg [(.int .i64 1), (.int .i64 N0), (.str [])]))) (.tup []) (H.set 0 (.cells [(.int .i64 1), (.int .i64 N0), (.str [])])) (some 0)] [2, 3] (e := .ret) (vals := [(.ptr 0 0), (.int .i64 0)]) (h' := (H.set 0 (.cells [(.int .i64 1), (.int .i64 N0), (.str [])]))) hl7 (fun _ => by kernel_rfl) ⟨(ldV h1), (stK h0), trivial⟩).mono ?_
   rintro e s ⟨rfl, t8, lo8, rfl, hl8⟩
   exact ⟨rfl, _, resCT (hl8.ev (n := 2) (v := .ptr 0 0) (by simp)) (ldC (gset h0) (by kernel_rfl)) (hl8.ev (n := 3) (v := .int .i64 0) (by simp)), ⟨1, N0, []⟩, 0, rfl⟩
 obtain ⟨r, h', lo, ⟨v, e, rfl⟩, h⟩ := key
 exact ⟨v, e, h', lo, h⟩
theorem read_ex (n : Int) : ∃ (x : Val × Int) (H' : List Blk) (lo : Option Nat), Cl G3 T 98 [.str (codeNum n)] [] (.tup [vV x.1, .int .i64 x.2], H', lo) := by
 obtain ⟨v, e, H', lo, h⟩ := read_cl0 (codeB n 7) (codeB n 6) (codeB n 5) (codeB n 4) (codeB n 3) (codeB n 2) (codeB n 1) (codeB n 0)
 exact ⟨(v, e), H', lo, h⟩
open Classical in
noncomputable def readK (k : List UInt8) : Val × Int := if h : ∃ (x : Val × Int) (H' : List Blk) (lo : Option Nat), Cl G3 T 98 [.str k] [] (.tup [vV x.1, .int .i64 x.2], H', lo) then h.choose else default
def okRd (k : List UInt8) : Prop := ∃ n, k = codeNum n
theorem readK_cl {k : List UInt8} (hk : okRd k) : ∃ (H' : List Blk) (lo : Option Nat), Cl G3 T 98 [.str k] [] (.tup [vV (readK k).1, .int .i64 (readK k).2], H', lo) := by
 obtain ⟨n, rfl⟩ := hk
 unfold readK
 rw [dif_pos (read_ex n)]
 exact (read_ex n).choose_spec
noncomputable def g98 : List AV → Option AV := gOf okRd (fun k => [.str k]) (fun k => .tup [vV (readK k).1, .int .i64 (readK k).2])
theorem read_ok : GOk Tryz.prog 98 (pureG g98) := gOf_ok ⟨_, Tryz.func98, by kernel_rfl, by kernel_rfl⟩ fun k hk => by
 obtain ⟨H', lo, h⟩ := readK_cl hk
 exact pureS_cl K3 h (by kernel_rfl) rfl
theorem read_e {Γ : FuncId → Option GF} (hg : Γ 98 = some (pureG g98)) {k : List UInt8} (hk : okRd k) (H : List Blk) : Cl Γ T 98 [.str k] H (.tup [vV (readK k).1, .int .i64 (readK k).2], H, none) :=
 Cl.pure (g := g98) hg (gOf_eq (fun a b _ _ h => by
  have h := AV.str.inj (List.cons.inj h).1
  rw [h]) (a := k) hk) rfl rfl H
end Go.Proofs.YtenpjpldjmoefaaGreat.AM.Mo

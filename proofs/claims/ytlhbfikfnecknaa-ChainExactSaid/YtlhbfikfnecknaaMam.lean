/-
  'gauger's law ChainExact holds of every input: it returns true, and each argument reads behind the call as it read before.
  This text: part 13 of 14 of the proof (ChT, ChU).
-/
import Derived.Test.YtlhbfikfnecknaaMal
import Derived.Test.YtlhbfikfnecknaaMaf
set_option linter.unusedVariables false
set_option linter.unusedSimpArgs false
set_option maxRecDepth 100000
set_option maxHeartbeats 4000000
namespace Go.Proofs.Ytlhbfikfnecknaa.AM.Ch
open Go
theorem OpIs.len {v : AV} {l : List (Int × Int)} (h : OpIs v l) (G : List Blk) : pOp evC G (.len 1 (.c v)) = some (.int .i64 (l.length : Int)) := by
 rcases h with ⟨rfl, rfl⟩ | ⟨ex, rfl⟩
 ·rfl
 ·exact len_ro l _ 2 ex _
structure Inc (r : Rec) : Prop extends One r where
 pn : ∃ n : Nat, ∀ G, pOp evC G (.len 1 (.c r.pages)) = some (.int .i64 (n : Int))
 dn : ∃ n : Nat, ∀ G, pOp evC G (.len 1 (.c r.dirty)) = some (.int .i64 (n : Int))
 ps : ∀ h, frz h 6 r.pages = some r.pages
 os : ∀ h, frz h 6 r.opv = some r.opv
 ds : ∀ h, frz h 6 r.dirty = some r.dirty
theorem great_cl {Γ : FuncId → Option GF} (h5 : Γ 5 = none) {r : Rec} (hi : Inc r) (H : List Blk) : ∃ H' lo b, Cl Γ T 5 [.agg (enR r)] H (.bool b, H', lo) ∧ Up H H' ∧ (b = false → r.op.length ≤ 20) := by
 obtain ⟨np, hp⟩ := hi.pn
 obtain ⟨nd, hd⟩ := hi.dn
 have hop := hi.op.len
 by_cases h1 : (np : Int) > 8
 ·have hx : ∃ lo, Cl Γ T 5 [.agg (enR r)] H ((.bool true), (ap H (enR r)), lo) := clP (af := a5) [.w (.ptr (List.length H) 0) (ap H (enR r)) none, .f r.pages, .g (.int .i64 (np : Int)), .b true] [wOp evC H (.box (.c (.agg (enR r)))) = some ((.ptr (List.length H) 0), (ap H (enR r)), none), pOp evC (ap H (enR r)) (.load none (.c (.ptr (List.length H) 4))) = some r.pages, pOp evC (ap H (enR r)) (.len 1 (.c r.pages)) = some (.int .i64 (np : Int)), cB (decide ((np : Int) > 8)) true] h5 (by kernel_rfl) (by kernel_rfl) (by kernel_rfl) ⟨rfl, (ldC gl (by kernel_rfl)), (hp _), (cT h1), trivial⟩
  obtain ⟨lo, hx⟩ := hx
  exact ⟨_, lo, true, hx, Up.app _ _, fun h => by cases h⟩
 by_cases h2 : (r.op.length : Int) > 20
 ·have hx : ∃ lo, Cl Γ T 5 [.agg (enR r)] H ((.bool true), (ap H (enR r)), lo) := clP (af := a5) [.w (.ptr (List.length H) 0) (ap H (enR r)) none, .f r.pages, .g (.int .i64 (np : Int)), .b false, .f r.opv, .g (.int .i64 (r.op.length : Int)), .b true] [wOp evC H (.box (.c (.agg (enR r)))) = some ((.ptr (List.length H) 0), (ap H (enR r)), none), pOp evC (ap H (enR r)) (.load none (.c (.ptr (List.length H) 4))) = some r.pages, pOp evC (ap H (enR r)) (.len 1 (.c r.pages)) = some (.int .i64 (np : Int)), cB (decide ((np : Int) > 8)) false, pOp evC (ap H (enR r)) (.load none (.c (.ptr (List.length H) 9))) = some r.opv, pOp evC (ap H (enR r)) (.len 1 (.c r.opv)) = some (.int .i64 (r.op.length : Int)), cB (decide ((r.op.length : Int) > 20)) true] h5 (by kernel_rfl) (by kernel_rfl) (by kernel_rfl) ⟨rfl, (ldC gl (by kernel_rfl)), (hp _), (cF h1), (ldC gl (by kernel_rfl)), (hop _), (cT h2), trivial⟩
  obtain ⟨lo, hx⟩ := hx
  exact ⟨_, lo, true, hx, Up.app _ _, fun h => by cases h⟩
 ·have hx : ∃ lo, Cl Γ T 5 [.agg (enR r)] H ((.bool (decide ((nd : Int) > 20))), (ap H (enR r)), lo) := clP (af := a5) [.w (.ptr (List.length H) 0) (ap H (enR r)) none, .f r.pages, .g (.int .i64 (np : Int)), .b false, .f r.opv, .g (.int .i64 (r.op.length : Int)), .b false, .f r.dirty, .g (.int .i64 (nd : Int))] [wOp evC H (.box (.c (.agg (enR r)))) = some ((.ptr (List.length H) 0), (ap H (enR r)), none), pOp evC (ap H (enR r)) (.load none (.c (.ptr (List.length H) 4))) = some r.pages, pOp evC (ap H (enR r)) (.len 1 (.c r.pages)) = some (.int .i64 (np : Int)), cB (decide ((np : Int) > 8)) false, pOp evC (ap H (enR r)) (.load none (.c (.ptr (List.length H) 9))) = some r.opv, pOp evC (ap H (enR r)) (.len 1 (.c r.opv)) = some (.int .i64 (r.op.length : Int)), cB (decide ((r.op.length : Int) > 20)) false, pOp evC (ap H (enR r)) (.load none (.c (.ptr (List.length H) 10))) = some r.dirty, pOp evC (ap H (enR r)) (.len 1 (.c r.dirty)) = some (.int .i64 (nd : Int))] h5 (by kernel_rfl) (by kernel_rfl) (by kernel_rfl) ⟨rfl, (ldC gl (by kernel_rfl)), (hp _), (cF h1), (ldC gl (by kernel_rfl)), (hop _), (cF h2), (ldC gl (by kernel_rfl)), (hd _), trivial⟩
  obtain ⟨lo, hx⟩ := hx
  exact ⟨_, lo, _, hx, Up.app _ _, fun _ => by omega⟩
theorem up_frH (es : List (List AV)) (h : List Blk) : Up h (frH es h) := by
 unfold frH
 split
 ·exact Up.refl _
 ·exact Up.app _ _
theorem frz_in {l : List Stm} (hl : ∀ s ∈ l, Inc s.r) (h : List Blk) : mapO (frz h 8) [(.ro (l.map encS) 12 false)] = some [(.ro (l.map encS) 12 false)] := by
 have h1 : ∀ s ∈ l, frz h 7 (encS s) = some (encS s) := fun s hs => by
  have hi := hl s hs
  show (mapO (frz h 6) (enS s)).map AV.agg = some (AV.agg (enS s))
  have : mapO (frz h 6) (enS s) = some (enS s) := by
   simp only [enS, enR, mapO, hi.ps h, hi.os h, hi.ds h]
   rfl
  rw [this]
  rfl
 have h2 : ∀ q : List Stm, (∀ s ∈ q, frz h 7 (encS s) = some (encS s)) → mapO (frz h 7) (q.map encS) = some (q.map encS) := fun q => by
  induction q with
  | nil => exact fun _ => rfl
  | cons s q ih =>
   intro hq
   rw [List.map_cons, mapO, hq s (by simp), ih fun x hx => hq x (by simp [hx])]
 have h3 : frz h 8 (.ro (l.map encS) 12 false) = some (.ro (l.map encS) 12 false) := by
  rw [frz, h2 l h1]
  simp only [Option.bind_some]
  rw [if_pos]
  rw [List.all_eq_true]
  intro v hv
  obtain ⟨s, _, rfl⟩ := List.mem_map.1 hv
  rfl
 rw [mapO, h3]
 rfl
theorem law_cl {l : List Stm} (hinl : ∀ s ∈ l, Inc s.r) (hwf : ∀ s ∈ l, (Lit.int .i64 s.r.deal).wf = true) : ∃ H' lo, Cl (gGet gam2) T 3 [(.ro (l.map encS) 12 false)] [] (.bool true, H', lo) := by
 have hb := clB (Γ := gGet gam2) (tbl := T) (f := 3) (af := a3) (args := [(.ro (l.map encS) 12 false)]) (h := []) rfl (by kernel_rfl) (by kernel_rfl) (fun r h' => r = .bool true) ?_
 ·obtain ⟨r, h', lo, rfl, h2⟩ := hb
  exact ⟨h', lo, h2⟩
 have fin : ∀ (t : List AV) (G : List Blk) (lo : Option Nat), getX t 2 = .bool true → (∀ i, AExit.ret ≠ .exit i) ∧ ∃ vs, resAll { t := t, h := G, lo := lo } a3.res = some vs ∧ packRes vs = .bool true := fun t G lo h => by
  refine ⟨(fun i hi => by cases hi), [.bool true], ?_, rfl⟩
  rw [getX_eq] at h
  simp [a3, resAll, resOf, h]
 obtain ⟨G, loA, haw⟩ := awake_cl
 refine Wp.seq ((path4 (nt := 142) (live := [(0, (.ro (l.map encS) 12 false))]) [] [0] (e := .normal) (vals := [(.ro (l.map encS) 12 false)]) (h' := nil0) [] ⟨by simp [a3], by simp [getX_eq]⟩ (fun t0 => by kernel_rfl) trivial).mono ?_)
 rintro e s ⟨rfl, t0, lo0, rfl, hl1⟩
 refine Wp.seq ((path4 (nt := 142) [.r (.bool true) G loA] [0] (e := .normal) (vals := [(.ro (l.map encS) 12 false)]) (h' := G) [Cl (gGet gam2) T 4 [] nil0 ((.bool true), G, loA)] hl1 (fun t0 => by kernel_rfl) ⟨haw, trivial⟩).mono ?_)
 rintro e s ⟨rfl, t1, lo1, rfl, hl2⟩
 by_cases h40 : (l.length : Int) > 40
 ·refine Wp.seq ((path4 (nt := 142) [.g (.int .i64 (l.length : Int)), .b true] [2] (e := .ret) (vals := [(.bool true)]) (h' := G) [pOp evC G (.len 1 (.c (.ro (l.map encS) 12 false))) = some (.int .i64 (l.length : Int)), cB (decide ((l.length : Int) > 40)) true] hl2 (fun t0 => by kernel_rfl) ⟨(len_ro l _ 12 false _), (cT h40), trivial⟩).mono ?_)
  rintro e s ⟨rfl, t2, lo2, rfl, hl3⟩
  exact fin t2 _ lo2 (hl3.get (2, .bool true) (by simp))
 refine Wp.seq ((path4 (nt := 142) [.g (.int .i64 (l.length : Int)), .b false] [0] (e := .normal) (vals := [(.ro (l.map encS) 12 false)]) (h' := G) [pOp evC G (.len 1 (.c (.ro (l.map encS) 12 false))) = some (.int .i64 (l.length : Int)), cB (decide ((l.length : Int) > 40)) false] hl2 (fun t0 => by kernel_rfl) ⟨(len_ro l _ 12 false _), (cF h40), trivial⟩).mono ?_)
 rintro e s ⟨rfl, t2, lo2, rfl, hl3⟩
 refine Wp.seq ((path4 (nt := 142) [.w (.sl (List.length G) 11 0 0 0 true) (ap G []) none] [0, 3] (e := .normal) (vals := [(.ro (l.map encS) 12 false), (.sl (List.length G) 11 0 0 0 true)]) (h' := (ap G [])) [wOp evC G (.buildSl [(.int .i64 0), (.int .i64 0), (.int .i64 0), (.int .i64 0), .nils, (.int .i64 0), (.int .i64 0), (.str []), (.str []), .nils, .nils] 0 []) = some ((.sl (List.length G) 11 0 0 0 true), (ap G []), none)] hl3 (fun t0 => by kernel_rfl) ⟨rfl, trivial⟩).mono ?_)
 rintro e s ⟨rfl, t3, lo3, rfl, hl4⟩
 refine Wp.seq ((path4 (nt := 142) [.w (.sl (List.length (ap G [])) 1 0 0 0 true) (ap (ap G []) []) none] [0, 3, 4] (e := .normal) (vals := [(.ro (l.map encS) 12 false), (.sl (List.length G) 11 0 0 0 true), (.sl (List.length (ap G [])) 1 0 0 0 true)]) (h' := (ap (ap G []) [])) [wOp evC (ap G []) (.buildSl [(.int .i64 0)] 0 []) = some ((.sl (List.length (ap G [])) 1 0 0 0 true), (ap (ap G []) []), none)] hl4 (fun t0 => by kernel_rfl) ⟨rfl, trivial⟩).mono ?_)
 rintro e s ⟨rfl, t4, lo4, rfl, hl5⟩
 refine Wp.seq (Wp.seq ((path4 (nt := 142) [] [0, 3, 4, 5] (e := .normal) (vals := [(.ro (l.map encS) 12 false), (.sl (List.length G) 11 0 0 0 true), (.sl (List.length (ap G [])) 1 0 0 0 true), (.int .i64 0)]) (h' := (ap (ap G []) [])) [] hl5 (fun t0 => by kernel_rfl) trivial).mono ?_))
 rintro e s ⟨rfl, t5, lo5, rfl, hl6⟩
 have hA0 : Built 11 (((l.take 0).map fun s => enR s.r)) (ap (ap G []) []) G.length true := by
  have := Built.new 11 G
  exact this.grow (by rw [this.blk]; exact ga this.blk)
 have hB0 : Built 1 (((l.take 0).map fun s => [AV.int .i64 s.st])) (ap (ap G []) []) (ap G []).length true := Built.new 1 (ap G [])
 refine Wp.block (Wp.mono (Wp.loop (Q := fun e s => (e = .ret ∧ getX s.t 2 = .bool true) ∨ (e = .exit 0 ∧ ∃ t G lo a b exa exb, s = { t := t, h := G, lo := lo } ∧ Lv 142 [(0, (.ro (l.map encS) 12 false)), (3, (.sl a 11 0 l.length l.length exa)), (4, (.sl b 1 0 l.length l.length exb))] t ∧ Two G a b l ∧ ∀ s ∈ l, s.r.op.length ≤ 20)) (fun k s => ∃ (i : Nat) (t : List AV) (G : List Blk) (lo : Option Nat) (a b : Nat) (exa exb : Bool), s = { t := t, h := G, lo := lo } ∧ k = l.length - i ∧ i ≤ l.length ∧ Lv 142 [(0, (.ro (l.map encS) 12 false)), (3, (.sl a 11 0 i i exa)), (4, (.sl b 1 0 i i exb)), (5, (.int .i64 (i : Int)))] t ∧ Built 11 ((l.take i).map fun s => enR s.r) G a exa ∧ Built 1 ((l.take i).map fun s => [AV.int .i64 s.st]) G b exb ∧ a ≠ b ∧ ∀ s ∈ l.take i, s.r.op.length ≤ 20) ?_ l.length _ ⟨0, t5, _, lo5, G.length, (ap G []).length, true, true, rfl, rfl, by omega, hl6, hA0, hB0, by simp, fun s hs => by simp at hs⟩) fun e s h => ?_)
 ·clear hl6 hl5 hl4 hl3 hl2 hl1 hA0 hB0 haw
  rintro k s' ⟨i, t, G, lo, a, b, exa, exb, rfl, rfl, hile, hlv, hA, hB, hab, h20⟩
  have hl := hlv
  by_cases hlt : i < l.length
  ·have hi : (i : Int) < (l.length : Int) := by omega
   have hx := List.getElem?_eq_getElem hlt
   have hm := List.getElem_mem hlt
   have htk : l.take (i + 1) = l.take i ++ [l[i]] := by rw [List.take_add_one, hx]; rfl
   have hget : (l.map encS)[(i : Int).toNat]? = some (.agg (enS l[i])) := by rw [Int.toNat_natCast, List.getElem?_map, hx]; rfl
   generalize l[i] = s at hm htk hget
   have hinc := hinl s hm
   obtain ⟨G2, lo2, bb, hc5, hU2, hb20⟩ := great_cl (Γ := gGet gam2) rfl hinc G
   have hwp : IntKind.i64.wrap ((i : Int) + 1) = ((i + 1 : Nat) : Int) := by rw [IntWalk.i64_in _ (by omega)]; rfl
   cases bb with
   | true =>
    refine (path4 (nt := 142) [.g (.int .i64 (l.length : Int)), .b true, .v (.agg (enS s)), .r (.bool true) G2 lo2] [2] (e := .ret) (vals := [(.bool true)]) (h' := G2) [pOp evC G (.len 1 (.c (.ro (l.map encS) 12 false))) = some (.int .i64 (l.length : Int)), cB (decide ((i : Int) < (l.length : Int))) true, 12 = 12, 0 ≤ (i : Int), (i : Int) < (List.length (l.map encS) : Int), ((l.map encS))[(Int.toNat (i : Int))]? = some (.agg (enS s)), Cl (gGet gam2) T 5 [(.agg (enR s.r))] G ((.bool true), G2, lo2)] hl (fun t0 => by kernel_rfl) ⟨(len_ro l _ 12 false _), (cT hi), rfl, (by omega), (by simp; omega), hget, hc5, trivial⟩).mono ?_
    rintro e s' ⟨rfl, t6, lo6, rfl, hl7⟩
    exact .inl ⟨rfl, hl7.get (2, .bool true) (by simp)⟩
   | false =>
    have hA2 : Built 11 ((l.take i).map fun s => enR s.r) (ap G2 (enR s.r)) a exa := hA.grow (by rw [hA.blk]; exact ga (hU2.2 _ _ hA.blk))
    have hB2 : Built 1 ((l.take i).map fun s => [AV.int .i64 s.st]) (ap G2 (enR s.r)) b exb := hB.grow (by rw [hB.blk]; exact ga (hU2.2 _ _ hB.blk))
    have hal := glt hA.blk
    have hbl := glt hB.blk
    have hUl := hU2.1
    have lA : ((l.take i).map fun s => enR s.r).length = i := by simp; omega
    have lB : ((l.take i).map fun s => [AV.int .i64 s.st]).length = i := by simp; omega
    have e1 : elems (ap G2 (enR s.r)) 11 (.sl G2.length 11 0 1 1 true) = some ([enR s.r]).flatten := by
     simp only [elems, if_pos, Nat.one_ne_zero, if_false, rdCells, gl, Nat.one_mul, Nat.zero_add, List.drop_zero]
     rfl
    obtain ⟨G3, a2, exa2, lo3, ha1, hA3, hf1, hle1, hi1⟩ := app_any (by_ := 152) hA2 (es2 := [enR s.r]) e1 rfl (fun e he => by rw [List.mem_singleton.1 he]; rfl) (fun e he => by rw [List.mem_singleton.1 he]; exact hinc.all) (by rw [lA, List.length_singleton]; omega)
    unfold bSl at ha1
    rw [List.length_append, lA, List.length_singleton] at ha1
    have hB3 : Built 1 ((l.take i).map fun s => [AV.int .i64 s.st]) (ap G3 [AV.int .i64 s.st]) b exb := hB2.grow (by rw [hB2.blk]; exact ga (hf1 _ _ (Ne.symm hab) hB2.blk))
    have e2 : elems (ap G3 [AV.int .i64 s.st]) 1 (.sl G3.length 1 0 1 1 true) = some ([[AV.int .i64 s.st]]).flatten := by
     simp only [elems, if_pos, Nat.one_ne_zero, if_false, rdCells, gl, Nat.one_mul, Nat.zero_add, List.drop_zero]
     rfl
    obtain ⟨G4, b2, exb2, lo4, ha2, hB4, hf2, hle2, hi2⟩ := app_any (by_ := 8) hB3 (es2 := [[AV.int .i64 s.st]]) e2 rfl (fun e he => by rw [List.mem_singleton.1 he]; rfl) (fun e he => by rw [List.mem_singleton.1 he]; rfl) (by rw [lB, List.length_singleton]; omega)
    unfold bSl at ha2
    rw [List.length_append, lB, List.length_singleton] at ha2
    have hap2 : (ap G2 (enR s.r)).length = G2.length + 1 := by simp
    have hap3 : (ap G3 [AV.int .i64 s.st]).length = G3.length + 1 := by simp
    rw [hap2] at hle1 hi1
    rw [hap3] at hle2 hi2
    have ha2lt := glt hA3.blk
    have hA4 : Built 11 (((l.take i).map fun s => enR s.r) ++ [enR s.r]) G4 a2 exa2 := hA3.grow (by rw [hA3.blk]; exact hf2 _ _ (by omega) (ga hA3.blk))
    refine (path4 (nt := 142) [.g (.int .i64 (l.length : Int)), .b true, .v (.agg (enS s)), .r (.bool false) G2 lo2, .v (.agg (enS s)), .w (.sl (List.length G2) 11 0 1 1 true) (ap G2 [(.int .i64 s.r.k), (.int .i64 s.r.deal), (.int .i64 s.r.prev), (.int .i64 s.r.next), s.r.pages, (.int .i64 s.r.uk), (.int .i64 s.r.ut), (.str s.r.uy), (.str s.r.uv), s.r.opv, s.r.dirty]) none, .w (.sl a2 11 0 (i + 1) (i + 1) exa2) G3 lo3, .v (.agg (enS s)), .w (.sl (List.length G3) 1 0 1 1 true) (ap G3 [(.int .i64 s.st)]) none, .w (.sl b2 1 0 (i + 1) (i + 1) exb2) G4 lo4] [0, 3, 4, 5] (e := .normal) (vals := [(.ro (l.map encS) 12 false), (.sl a2 11 0 (i + 1) (i + 1) exa2), (.sl b2 1 0 (i + 1) (i + 1) exb2), (.int .i64 (IntKind.i64.wrap ((i : Int) + 1)))]) (h' := G4) [pOp evC G (.len 1 (.c (.ro (l.map encS) 12 false))) = some (.int .i64 (l.length : Int)), cB (decide ((i : Int) < (l.length : Int))) true, 12 = 12, 0 ≤ (i : Int), (i : Int) < (List.length (l.map encS) : Int), ((l.map encS))[(Int.toNat (i : Int))]? = some (.agg (enS s)), Cl (gGet gam2) T 5 [(.agg (enR s.r))] G ((.bool false), G2, lo2), 12 = 12, 0 ≤ (i : Int), (i : Int) < (List.length (l.map encS) : Int), ((l.map encS))[(Int.toNat (i : Int))]? = some (.agg (enS s)), wOp evC G2 (.buildSl [(.int .i64 0), (.int .i64 0), (.int .i64 0), (.int .i64 0), .nils, (.int .i64 0), (.int .i64 0), (.str []), (.str []), .nils, .nils] 1 [(0, (.c (.agg (enR s.r))))]) = some ((.sl (List.length G2) 11 0 1 1 true), (ap G2 [(.int .i64 s.r.k), (.int .i64 s.r.deal), (.int .i64 s.r.prev), (.int .i64 s.r.next), s.r.pages, (.int .i64 s.r.uk), (.int .i64 s.r.ut), (.str s.r.uy), (.str s.r.uv), s.r.opv, s.r.dirty]), none), wOp evC (ap G2 [(.int .i64 s.r.k), (.int .i64 s.r.deal), (.int .i64 s.r.prev), (.int .i64 s.r.next), s.r.pages, (.int .i64 s.r.uk), (.int .i64 s.r.ut), (.str s.r.uy), (.str s.r.uv), s.r.opv, s.r.dirty]) (.append 11 152 (.c (.sl a 11 0 i i exa)) (.c (.sl (List.length G2) 11 0 1 1 true))) = some ((.sl a2 11 0 (i + 1) (i + 1) exa2), G3, lo3), 12 = 12, 0 ≤ (i : Int), (i : Int) < (List.length (l.map encS) : Int), ((l.map encS))[(Int.toNat (i : Int))]? = some (.agg (enS s)), wOp evC G3 (.buildSl [(.int .i64 0)] 1 [(0, (.c (.int .i64 s.st)))]) = some ((.sl (List.length G3) 1 0 1 1 true), (ap G3 [(.int .i64 s.st)]), none), wOp evC (ap G3 [(.int .i64 s.st)]) (.append 1 8 (.c (.sl b 1 0 i i exb)) (.c (.sl (List.length G3) 1 0 1 1 true))) = some ((.sl b2 1 0 (i + 1) (i + 1) exb2), G4, lo4)] hl (fun t0 => by kernel_rfl) ⟨(len_ro l _ 12 false _), (cT hi), rfl, (by omega), (by simp; omega), hget, hc5, rfl, (by omega), (by simp; omega), hget, rfl, ha1, rfl, (by omega), (by simp; omega), hget, rfl, ha2, trivial⟩).mono ?_
    rintro e s' ⟨rfl, t6, lo6, rfl, hl7⟩
    rw [hwp] at hl7
    refine ⟨l.length - (i + 1), by omega, i + 1, t6, _, lo6, a2, b2, exa2, exb2, rfl, rfl, by omega, hl7, ?_, ?_, by omega, fun y hy => ?_⟩
    ·rw [htk, List.map_append]; exact hA4
    ·rw [htk, List.map_append]; exact hB4
    ·rw [htk] at hy
     rcases List.mem_append.1 hy with hy | hy
     ·exact h20 y hy
     ·rw [List.mem_singleton.1 hy]; exact hb20 rfl
  ·have hi : ¬ (i : Int) < (l.length : Int) := by omega
   have hie : i = l.length := by omega
   rw [List.take_of_length_le (by omega)] at hA hB h20
   refine (path4 (nt := 142) [.g (.int .i64 (l.length : Int)), .b false] [0, 3, 4] (e := (.exit 0)) (vals := [(.ro (l.map encS) 12 false), (.sl a 11 0 i i exa), (.sl b 1 0 i i exb)]) (h' := G) [pOp evC G (.len 1 (.c (.ro (l.map encS) 12 false))) = some (.int .i64 (l.length : Int)), cB (decide ((i : Int) < (l.length : Int))) false] hl (fun t0 => by kernel_rfl) ⟨(len_ro l _ 12 false _), (cF hi), trivial⟩).mono ?_
   rintro e s' ⟨rfl, t6, lo6, rfl, hl7⟩
   subst hie
   exact .inr ⟨rfl, t6, _, lo6, a, b, exa, exb, rfl, hl7, ⟨⟨hA.len, hA.blk⟩, ⟨hB.len, hB.blk⟩⟩, h20⟩
 ·rcases h with ⟨rfl, h2⟩ | ⟨rfl, t, G, lo, a, b, exa, exb, rfl, hl7, hT, h20⟩
  ·obtain ⟨t, G, lo⟩ := s
   exact fin t G lo h2
  clear hl6 hl5 hl4 hl3 hl2 hl1 hA0 hB0 haw
  show Wp (gGet gam2) T _ _ _
  have hl6 := hl7
  have okw : OkW l := ⟨⟨fun s hs => ⟨(hinl s hs).toOne, by have := h20 s hs; omega⟩, by omega⟩, hwf⟩
  have hlis : LIs (.ro (l.map encS) 12 false) l := .inr ⟨false, rfl⟩
  have hcx := lives_call (h := G) (frz_in hinl G) hlis okw
  have hU1 := up_frH ((livesS l).map enX) G
  have hT1 := hT.up hU1
  obtain ⟨G2, loy, iy, ey, hcy, hY, hU2⟩ := rlives_cl U22 (exL := exa) (exS := exb) hT1 okw.ones okw.len
  have hT2 := hT1.up hU2
  have hXb : livesS l ≠ [] → frV 6 ((livesS l).map enX) G.length = .sl G.length 6 0 (livesS l).length (livesS l).length false ∧ (frH ((livesS l).map enX) G)[G.length]? = some (.cells ((livesS l).map enX).flatten) := fun hne => by
   unfold frV frH
   cases h : livesS l with
   | nil => exact absurd h hne
   | cons x q => exact ⟨by simp, by simp⟩
  have hlx : ∀ G', pOp evC G' (.len 1 (.c (frV 6 ((livesS l).map enX) G.length))) = some (.int .i64 ((livesS l).length : Int)) := fun G' => by
   unfold frV
   cases h : livesS l with
   | nil => rfl
   | cons x q => simp [pOp, evC]
  have hol := (livesS_from l).1
  generalize livesS l = out at hcx hcy hY hXb hlx hU1 hU2 hol
  generalize frV 6 (out.map enX) G.length = xv at hcx hXb hlx
  generalize frH (out.map enX) G = G1 at hcx hcy hU1 hU2 hXb hT1
  generalize G.length = ix at hXb
  refine Wp.seq ((path4 (nt := 142) [.r xv G1 none] [0, 3, 4, 6] (e := .normal) (vals := [(.ro (l.map encS) 12 false), (.sl a 11 0 l.length l.length exa), (.sl b 1 0 l.length l.length exb), xv]) (h' := G1) [Cl (gGet gam2) T 6 [(.ro (l.map encS) 12 false)] G (xv, G1, none)] hl6 (fun t0 => by kernel_rfl) ⟨hcx, trivial⟩).mono ?_)
  rintro e s ⟨rfl, t6, lo6, rfl, hl7⟩
  refine Wp.seq ((path4 (nt := 142) [.r (.sl iy 6 0 out.length out.length ey) G2 loy] [0, 3, 4, 6, 7] (e := .normal) (vals := [(.ro (l.map encS) 12 false), (.sl a 11 0 l.length l.length exa), (.sl b 1 0 l.length l.length exb), xv, (.sl iy 6 0 out.length out.length ey)]) (h' := G2) [Cl (gGet gam2) T 7 [(.sl a 11 0 l.length l.length exa), (.sl b 1 0 l.length l.length exb)] G1 ((.sl iy 6 0 out.length out.length ey), G2, loy)] hl7 (fun t0 => by kernel_rfl) ⟨hcy, trivial⟩).mono ?_)
  rintro e s ⟨rfl, t7, lo7, rfl, hl8⟩
  have hXf : out ≠ [] → xv = .sl ix 6 0 out.length out.length false ∧ G2[ix]? = some (.cells (out.map enX).flatten) := fun hne => ⟨(hXb hne).1, hU2.2 _ _ (hXb hne).2⟩
  clear hcx hcy hU1 hU2 hXb hT1 hT hl6 hl7
  generalize G2 = G at hl8 hY hT2 hXf
  refine Wp.seq ((path4 (nt := 142) [.g (.int .i64 (out.length : Int)), .b false] [0, 3, 4, 6, 7] (e := .normal) (vals := [(.ro (l.map encS) 12 false), (.sl a 11 0 l.length l.length exa), (.sl b 1 0 l.length l.length exb), xv, (.sl iy 6 0 out.length out.length ey)]) (h' := G) [pOp evC G (.len 1 (.c xv)) = some (.int .i64 (out.length : Int)), cB ((out.length : Int) != (out.length : Int)) false] hl8 (fun t0 => by kernel_rfl) ⟨(hlx _), (cS rfl), trivial⟩).mono ?_)
  rintro e s ⟨rfl, t8, lo8, rfl, hl9⟩
  refine Wp.seq (Wp.seq ((path4 (nt := 142) [] [0, 3, 4, 6, 7, 8] (e := .normal) (vals := [(.ro (l.map encS) 12 false), (.sl a 11 0 l.length l.length exa), (.sl b 1 0 l.length l.length exb), xv, (.sl iy 6 0 out.length out.length ey), (.int .i64 0)]) (h' := G) [] hl9 (fun t0 => by kernel_rfl) trivial).mono ?_))
  rintro e s ⟨rfl, t9, lo9, rfl, hl10⟩
  refine Wp.block (Wp.mono (Wp.loop (Q := fun e s => e = .exit 2 ∧ ∃ t lo, s = { t := t, h := G, lo := lo } ∧ Lv 142 [(0, (.ro (l.map encS) 12 false)), (3, (.sl a 11 0 l.length l.length exa)), (4, (.sl b 1 0 l.length l.length exb))] t) (fun k s => ∃ (i : Nat) (t : List AV) (lo : Option Nat), s = { t := t, h := G, lo := lo } ∧ k = out.length - i ∧ i ≤ out.length ∧ Lv 142 [(0, (.ro (l.map encS) 12 false)), (3, (.sl a 11 0 l.length l.length exa)), (4, (.sl b 1 0 l.length l.length exb)), (6, xv), (7, (.sl iy 6 0 out.length out.length ey)), (8, (.int .i64 (i : Int)))] t) ?_ out.length _ ⟨0, t9, lo9, rfl, rfl, by omega, hl10⟩) fun e s h => ?_)
  ·clear hl10 hl9 hl8
   rintro k s' ⟨i, t, lo, rfl, rfl, hile, hl⟩
   by_cases hlt : i < out.length
   ·have hi : (i : Int) < (out.length : Int) := by omega
    have hne : out ≠ [] := fun h => by rw [h] at hlt; simp at hlt
    obtain ⟨hxv, hxb⟩ := hXf hne
    have hgo := List.getElem?_eq_getElem hlt
    have hgx : (out.map enX)[i]? = some (enX out[i]) := by rw [List.getElem?_map, hgo]; rfl
    generalize out[i] = x at hgx
    have fX : (∀ e ∈ (out.map enX), e.length = 6) ∧ G[ix]? = some (.cells (out.map enX).flatten) := ⟨hY.len, hxb⟩
    have fY : (∀ e ∈ (out.map enX), e.length = 6) ∧ G[iy]? = some (.cells (out.map enX).flatten) := ⟨hY.len, hY.blk⟩
    have hwp : IntKind.i64.wrap ((i : Int) + 1) = ((i + 1 : Nat) : Int) := by rw [IntWalk.i64_in _ (by omega)]; rfl
    rw [hxv] at hl
    refine (path4 (nt := 142) [.g (.int .i64 (out.length : Int)), .b true, .f (.int .i64 x.deal), .f (.int .i64 x.deal), .b false, .f (.int .i64 x.first), .f (.int .i64 x.first), .b false, .f (.int .i64 x.last), .f (.int .i64 x.last), .b false, .f (.int .i64 x.done), .f (.int .i64 x.done), .b false, .f (.int .i64 x.undone), .f (.int .i64 x.undone), .b false, .f (.int .i64 x.fin), .f (.int .i64 x.fin), .b false] [0, 3, 4, 6, 7, 8] (e := .normal) (vals := [(.ro (l.map encS) 12 false), (.sl a 11 0 l.length l.length exa), (.sl b 1 0 l.length l.length exb), (.sl ix 6 0 out.length out.length false), (.sl iy 6 0 out.length out.length ey), (.int .i64 (IntKind.i64.wrap ((i : Int) + 1)))]) (h' := G) [pOp evC G (.len 1 (.c (.sl ix 6 0 out.length out.length false))) = some (.int .i64 (out.length : Int)), cB (decide ((i : Int) < (out.length : Int))) true, 6 = 6, 0 ≤ (i : Int), (i : Int) < ((out.length : Nat) : Int), pOp evC G (.load none (.c (.ptr ix (0 + (Int.toNat (i : Int)) * 6)))) = some (.int .i64 x.deal), 6 = 6, 0 ≤ (i : Int), (i : Int) < ((out.length : Nat) : Int), pOp evC G (.load none (.c (.ptr iy (0 + (Int.toNat (i : Int)) * 6)))) = some (.int .i64 x.deal), cB (x.deal != x.deal) false, 6 = 6, 0 ≤ (i : Int), (i : Int) < ((out.length : Nat) : Int), pOp evC G (.load none (.c (.ptr ix ((0 + (Int.toNat (i : Int)) * 6) + 1)))) = some (.int .i64 x.first), 6 = 6, 0 ≤ (i : Int), (i : Int) < ((out.length : Nat) : Int), pOp evC G (.load none (.c (.ptr iy ((0 + (Int.toNat (i : Int)) * 6) + 1)))) = some (.int .i64 x.first), cB (x.first != x.first) false, 6 = 6, 0 ≤ (i : Int), (i : Int) < ((out.length : Nat) : Int), pOp evC G (.load none (.c (.ptr ix ((0 + (Int.toNat (i : Int)) * 6) + 2)))) = some (.int .i64 x.last), 6 = 6, 0 ≤ (i : Int), (i : Int) < ((out.length : Nat) : Int), pOp evC G (.load none (.c (.ptr iy ((0 + (Int.toNat (i : Int)) * 6) + 2)))) = some (.int .i64 x.last), cB (x.last != x.last) false, 6 = 6, 0 ≤ (i : Int), (i : Int) < ((out.length : Nat) : Int), pOp evC G (.load none (.c (.ptr ix ((0 + (Int.toNat (i : Int)) * 6) + 3)))) = some (.int .i64 x.done), 6 = 6, 0 ≤ (i : Int), (i : Int) < ((out.length : Nat) : Int), pOp evC G (.load none (.c (.ptr iy ((0 + (Int.toNat (i : Int)) * 6) + 3)))) = some (.int .i64 x.done), cB (x.done != x.done) false, 6 = 6, 0 ≤ (i : Int), (i : Int) < ((out.length : Nat) : Int), pOp evC G (.load none (.c (.ptr ix ((0 + (Int.toNat (i : Int)) * 6) + 4)))) = some (.int .i64 x.undone), 6 = 6, 0 ≤ (i : Int), (i : Int) < ((out.length : Nat) : Int), pOp evC G (.load none (.c (.ptr iy ((0 + (Int.toNat (i : Int)) * 6) + 4)))) = some (.int .i64 x.undone), cB (x.undone != x.undone) false, 6 = 6, 0 ≤ (i : Int), (i : Int) < ((out.length : Nat) : Int), pOp evC G (.load none (.c (.ptr ix ((0 + (Int.toNat (i : Int)) * 6) + 5)))) = some (.int .i64 x.fin), 6 = 6, 0 ≤ (i : Int), (i : Int) < ((out.length : Nat) : Int), pOp evC G (.load none (.c (.ptr iy ((0 + (Int.toNat (i : Int)) * 6) + 5)))) = some (.int .i64 x.fin), cB (x.fin != x.fin) false] hl (fun t0 => by kernel_rfl) ⟨rfl, (cT hi), rfl, (by omega), (by omega), (ldEl0 fX hgx (by kernel_rfl)), rfl, (by omega), (by omega), (ldEl0 fY hgx (by kernel_rfl)), (cS rfl), rfl, (by omega), (by omega), (ldEl fX hgx (by kernel_rfl)), rfl, (by omega), (by omega), (ldEl fY hgx (by kernel_rfl)), (cS rfl), rfl, (by omega), (by omega), (ldEl fX hgx (by kernel_rfl)), rfl, (by omega), (by omega), (ldEl fY hgx (by kernel_rfl)), (cS rfl), rfl, (by omega), (by omega), (ldEl fX hgx (by kernel_rfl)), rfl, (by omega), (by omega), (ldEl fY hgx (by kernel_rfl)), (cS rfl), rfl, (by omega), (by omega), (ldEl fX hgx (by kernel_rfl)), rfl, (by omega), (by omega), (ldEl fY hgx (by kernel_rfl)), (cS rfl), rfl, (by omega), (by omega), (ldEl fX hgx (by kernel_rfl)), rfl, (by omega), (by omega), (ldEl fY hgx (by kernel_rfl)), (cS rfl), trivial⟩).mono ?_
    rintro e s' ⟨rfl, t10, lo10, rfl, hl11⟩
    rw [hwp, ← hxv] at hl11
    exact ⟨out.length - (i + 1), by omega, i + 1, t10, lo10, rfl, rfl, by omega, hl11⟩
   ·have hi : ¬ (i : Int) < (out.length : Int) := by omega
    refine (path4 (nt := 142) [.g (.int .i64 (out.length : Int)), .b false] [0, 3, 4] (e := (.exit 2)) (vals := [(.ro (l.map encS) 12 false), (.sl a 11 0 l.length l.length exa), (.sl b 1 0 l.length l.length exb)]) (h' := G) [pOp evC G (.len 1 (.c xv)) = some (.int .i64 (out.length : Int)), cB (decide ((i : Int) < (out.length : Int))) false] hl (fun t0 => by kernel_rfl) ⟨(hlx _), (cF hi), trivial⟩).mono ?_
    rintro e s' ⟨rfl, t10, lo10, rfl, hl11⟩
    exact ⟨rfl, t10, lo10, rfl, hl11⟩
  ·clear hl10 hl9 hl8
   obtain ⟨rfl, t, lo, rfl, hl⟩ := h
   show Wp (gGet gam2) T _ _ _
   have hcw := wrong_call (h := G) (frz_in hinl G) hlis okw
   obtain ⟨G2, low, hcr, _⟩ := rwrong_cl U2 (exL := exa) (exS := exb) hT2 okw.one okw.len
   generalize wrongB [] l 0 = W at hcw hcr
   refine (path4 (nt := 142) [.r (.int .i64 W) G none, .r (.int .i64 W) G2 low, .b true] [2] (e := .ret) (vals := [(.bool true)]) (h' := G2) [Cl (gGet gam2) T 8 [(.ro (l.map encS) 12 false)] G ((.int .i64 W), G, none), Cl (gGet gam2) T 9 [(.sl a 11 0 l.length l.length exa), (.sl b 1 0 l.length l.length exb)] G ((.int .i64 W), G2, low), cB (W == W) true] hl (fun t0 => by kernel_rfl) ⟨hcw, hcr, (cE rfl), trivial⟩).mono ?_
   rintro e s' ⟨rfl, t10, lo10, rfl, hl11⟩
   exact fin t10 _ lo10 (hl11.get (2, .bool true) (by simp))
open Go
abbrev iV (n : Int) : AV := .int .i64 n
abbrev w64 (n : Int) : Prop := (Lit.int .i64 n).wf = true
theorem rI : ARd Try.prog 3 iV w64 := ard_int Try.underlying3
theorem rStr : ARd Try.prog 9 AV.str (fun s => s.length ≤ maxLen) := ard_string Try.underlying9
theorem ard_as {α β : Type} {P : Program} {T : TypeId} {en : α → AV} {en' : β → AV} {Q : α → Prop} {Q' : β → Prop} (hr : ARd P T en Q) (h : ∀ a, Q a → ∃ b, en' b = en a ∧ Q' b) : ARd P T en' Q' := by
 intro H enc w base spare held fuel cs x hx
 obtain ⟨a, h1, h2⟩ := hr hx
 obtain ⟨b, h3, h4⟩ := h a h2
 exact ⟨b, by rw [h3]; exact h1, h4⟩
abbrev enI (i : Int × List UInt8) : List AV := [.int .i64 i.1, .str i.2]
theorem rImg : ARd Try.prog 89 (fun i => .agg (enI i)) (fun _ => True) :=
 ard_as (ard_struct (sz := 2) (fun v : Int × List UInt8 => v) (fun i => .agg (enI i)) (fun v => rfl) Try.underlying89 (by kernel_rfl)
  (ardF_cons (sz := 1) (sz' := 1) (en := iV) (by kernel_rfl) (by kernel_rfl) rI (ardF_one (sz := 1) (en := AV.str) (by kernel_rfl) (by kernel_rfl) rStr))) fun a _ => ⟨a, rfl, trivial⟩
theorem rImgs : ARd Try.prog 27 (fun l : List (Int × List UInt8) => AV.ro (l.map fun i => .agg (enI i)) 2 false) (fun _ => True) := ard_mono (fun _ _ => trivial) (ard_slice Try.underlying27 (by kernel_rfl) (by omega) rImg)
theorem rOpn : ARd Try.prog 86 enO (fun _ => True) :=
 ard_as (ard_struct (sz := 2) (fun v : Int × Int => v) enO (fun v => rfl) Try.underlying86 (by kernel_rfl)
  (ardF_cons (sz := 1) (sz' := 1) (en := iV) (by kernel_rfl) (by kernel_rfl) rI (ardF_one (sz := 1) (en := iV) (by kernel_rfl) (by kernel_rfl) rI))) fun a _ => ⟨a, rfl, trivial⟩
theorem rOpns : ARd Try.prog 30 (fun l : List (Int × Int) => AV.ro (l.map enO) 2 false) (fun _ => True) := ard_mono (fun _ _ => trivial) (ard_slice Try.underlying30 (by kernel_rfl) (by omega) rOpn)
theorem rDrt : ARd Try.prog 93 enO (fun _ => True) :=
 ard_as (ard_struct (sz := 2) (fun v : Int × Int => v) enO (fun v => rfl) Try.underlying93 (by kernel_rfl)
  (ardF_cons (sz := 1) (sz' := 1) (en := iV) (by kernel_rfl) (by kernel_rfl) rI (ardF_one (sz := 1) (en := iV) (by kernel_rfl) (by kernel_rfl) rI))) fun a _ => ⟨a, rfl, trivial⟩
theorem rDrts : ARd Try.prog 31 (fun l : List (Int × Int) => AV.ro (l.map enO) 2 false) (fun _ => True) := ard_mono (fun _ _ => trivial) (ard_slice Try.underlying31 (by kernel_rfl) (by omega) rDrt)
abbrev UV := Int × Int × List UInt8 × List UInt8
abbrev enU (u : UV) : AV := .agg [.int .i64 u.1, .int .i64 u.2.1, .str u.2.2.1, .str u.2.2.2]
theorem rUndo : ARd Try.prog 29 enU (fun _ => True) :=
 ard_as (ard_struct (sz := 4) (fun v : UV => v) enU (fun v => rfl) Try.underlying29 (by kernel_rfl)
  (ardF_cons (sz := 1) (sz' := 3) (en := iV) (by kernel_rfl) (by kernel_rfl) rI (ardF_cons (sz := 1) (sz' := 2) (en := iV) (by kernel_rfl) (by kernel_rfl) rI (ardF_cons (sz := 1) (sz' := 1) (en := AV.str) (by kernel_rfl) (by kernel_rfl) rStr (ardF_one (sz := 1) (en := AV.str) (by kernel_rfl) (by kernel_rfl) rStr))))) fun a _ => ⟨a, rfl, trivial⟩
abbrev RV := Int × Int × Int × Int × List (Int × List UInt8) × UV × List (Int × Int) × List (Int × Int)
def mkR (r : RV) : Rec := ⟨r.1, r.2.1, r.2.2.1, r.2.2.2.1, .ro (r.2.2.2.2.1.map fun i => .agg (enI i)) 2 false, r.2.2.2.2.2.1.1, r.2.2.2.2.2.1.2.1, r.2.2.2.2.2.1.2.2.1, r.2.2.2.2.2.1.2.2.2, .ro (r.2.2.2.2.2.2.1.map enO) 2 false, .ro (r.2.2.2.2.2.2.2.map enO) 2 false, r.2.2.2.2.2.2.1⟩
theorem still {α : Type} (en : α → List AV) (st n : Nat) (h : List Blk) (h1 : ∀ a, mapO (frz h n) (en a) = some (en a)) (h2 : ∀ a, (en a).length = st) (l : List α) : frz h (n + 2) (.ro (l.map fun a => .agg (en a)) st false) = some (.ro (l.map fun a => .agg (en a)) st false) := by
 have h3 : ∀ q : List α, mapO (frz h (n + 1)) (q.map fun a => AV.agg (en a)) = some (q.map fun a => AV.agg (en a)) := fun q => by
  induction q with
  | nil => rfl
  | cons a q ih =>
   have e : frz h (n + 1) (.agg (en a)) = some (.agg (en a)) := by
    show (mapO (frz h n) (en a)).map AV.agg = _
    rw [h1]
    rfl
   rw [List.map_cons, mapO, e, ih]
 rw [frz, h3]
 simp only [Option.bind_some]
 rw [if_pos]
 rw [List.all_eq_true]
 intro v hv
 obtain ⟨a, _, rfl⟩ := List.mem_map.1 hv
 show Nat.beq (en a).length st = true
 rw [h2]
 exact Nat.beq_refl st
theorem inc_mk (r : RV) : Inc (mkR r) :=
 { pages := rfl, op := .inr ⟨false, rfl⟩, dirty := rfl, pn := ⟨_, fun G => len_ro _ _ 2 false G⟩, dn := ⟨_, fun G => len_ro _ _ 2 false G⟩, ps := fun h => still enI 2 4 h (fun a => rfl) (fun a => rfl) _, os := fun h => still (fun o : Int × Int => [.int .i64 o.1, .int .i64 o.2]) 2 4 h (fun a => rfl) (fun a => rfl) _, ds := fun h => still (fun o : Int × Int => [.int .i64 o.1, .int .i64 o.2]) 2 4 h (fun a => rfl) (fun a => rfl) _ }
theorem rRec : ARd Try.prog 33 (fun r : Rec => .agg (enR r)) (fun r => Inc r ∧ w64 r.deal) :=
 ard_as (ard_struct (sz := 11) (fun v : RV => v) (fun r : RV => .agg (enR (mkR r))) (fun v => rfl) Try.underlying33 (by kernel_rfl)
  (ardF_cons (sz := 1) (sz' := 10) (en := iV) (by kernel_rfl) (by kernel_rfl) rI (ardF_cons (sz := 1) (sz' := 9) (en := iV) (by kernel_rfl) (by kernel_rfl) rI (ardF_cons (sz := 1) (sz' := 8) (en := iV) (by kernel_rfl) (by kernel_rfl) rI (ardF_cons (sz := 1) (sz' := 7) (en := iV) (by kernel_rfl) (by kernel_rfl) rI
   (ardF_cons (sz := 1) (sz' := 6) (en := fun l : List (Int × List UInt8) => AV.ro (l.map fun i => .agg (enI i)) 2 false) (by kernel_rfl) (by kernel_rfl) rImgs (ardF_cons (sz := 4) (sz' := 2) (en := enU) (by kernel_rfl) (by kernel_rfl) rUndo
    (ardF_cons (sz := 1) (sz' := 1) (en := fun l : List (Int × Int) => AV.ro (l.map enO) 2 false) (by kernel_rfl) (by kernel_rfl) rOpns (ardF_one (sz := 1) (en := fun l : List (Int × Int) => AV.ro (l.map enO) 2 false) (by kernel_rfl) (by kernel_rfl) rDrts))))))))) fun a h => ⟨mkR a, rfl, inc_mk a, by
     obtain ⟨b, rfl, _, h2, _⟩ := h
     exact h2⟩
theorem rStm : ARd Try.prog 35 encS (fun s => Inc s.r ∧ w64 s.r.deal) :=
 ard_as (ard_struct (sz := 12) (fun v : Int × Rec => (⟨v.1, v.2⟩ : Stm)) encS (fun v => rfl) Try.underlying35 (by kernel_rfl)
  (ardF_cons (sz := 1) (sz' := 11) (en := iV) (by kernel_rfl) (by kernel_rfl) rI (ardF_one (sz := 11) (en := fun r : Rec => AV.agg (enR r)) (by kernel_rfl) (by kernel_rfl) rRec))) fun a h => ⟨a, rfl, by
   obtain ⟨b, rfl, _, h2⟩ := h
   exact h2⟩
theorem rStms : ARd Try.prog 22 (fun l : List Stm => AV.ro (l.map encS) 12 false) (fun l => ∀ s ∈ l, Inc s.r ∧ w64 s.r.deal) := ard_mono (fun l h => h.2) (ard_slice Try.underlying22 (by kernel_rfl) (by omega) rStm)
theorem law {l : List Stm} {w : World} {A : Option Addr} {m c : Nat} (hl : LRel (Lies w) (fun _ => none) w (AV.ro (l.map encS) 12 false).cells (Value.slice A m c).cells.toList) (okl : ∀ s ∈ l, Inc s.r ∧ w64 s.r.deal) :
  Calls Try.prog 3 #[.slice A m c] w fun e w' => e = .returned (.bool true) ∧ RowKit.Below w.heap.size w w' := by
 obtain ⟨h', lo, n, hc⟩ := law_cl (fun s hs => (okl s hs).1) (fun s hs => (okl s hs).2)
 exact law_true K2 (n := n) (by rw [hc]; rfl) (by kernel_rfl) (S := Lies w) (fun b hb => hb) (LRel.cons (ard_one hl rfl) LRel.nil)
end Go.Proofs.Ytlhbfikfnecknaa.AM.Ch

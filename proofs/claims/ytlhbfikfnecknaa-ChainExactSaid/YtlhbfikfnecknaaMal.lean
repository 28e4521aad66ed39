/-
  'gauger's law ChainExact holds of every input: it returns true, and each argument reads behind the call as it read before.
  This text: part 12 of 14 of the proof (ChS, ChQ).
-/
import Derived.Test.YtlhbfikfnecknaaMak
import Derived.Test.YtlhbfikfnecknaaMaf
set_option linter.unusedVariables false
set_option linter.unusedSimpArgs false
set_option maxRecDepth 100000
set_option maxHeartbeats 4000000
namespace Go.Proofs.Ytlhbfikfnecknaa.AM.Ch
open Go
section
variable {Γ : FuncId → Option GF} (u : Un Γ)
include u
theorem st_cl {H : List Blk} {idL idS : Nat} {l : List Stm} {exL exS : Bool} (ht : Two H idL idS l) {n : Nat} (hn : n ≤ l.length) (hl1000 : l.length ≤ 1000) (hg : GoodP (l.take n)) (hf : Fine (l.take n)) (id : Int) :
  ∃ H' lo p, Cl Γ T 28 [(.sl idL 11 0 l.length l.length exL), (.sl idS 1 0 l.length l.length exS), .int .i64 (n : Int), .int .i64 id] H (.tup [.int .i64 (lastOf (own (l.take n) id)), .bool (endOf (own (l.take n) id)), .int .i64 p], H', lo) ∧ Up H H' ∧ PlaceIs l n (nextOf (own (l.take n) id)) p := by
 obtain ⟨H', lo, p, h1, h2, h3⟩ := state_cl u (exL := exL) (exS := exS) ht hn hl1000 hg id
 have := hf.nxt id
 rw [List.length_take, Nat.min_eq_left hn] at this
 rw [hf.ea id] at h1
 rw [this] at h3
 exact ⟨H', lo, p, h1, h2, h3⟩
theorem rmark_cl {H : List Blk} {idL idS : Nat} {l : List Stm} {exL exS : Bool} (ht : Two H idL idS l) {n : Nat} {s : Stm} (hx : l[n]? = some s) (hl1000 : l.length ≤ 1000) (hg : GoodP (l.take n)) (hf : Fine (l.take n)) (hr : One s.r) (hop : s.r.op.length ≤ 1000) :
  ∃ H' lo, Cl Γ T 27 [(.sl idL 11 0 l.length l.length exL), (.sl idS 1 0 l.length l.length exS), .int .i64 (n : Int)] H (.bool (markB (l.take n) s.r.op), H', lo) ∧ Up H H' := by
 have hb := clB (Γ := Γ) (tbl := T) (f := 27) (af := a27) (args := [(.sl idL 11 0 l.length l.length exL), (.sl idS 1 0 l.length l.length exS), .int .i64 (n : Int)]) (h := H) u.g27 (by kernel_rfl) (by kernel_rfl) (fun r h' => r = .bool (markB (l.take n) s.r.op) ∧ Up H h') ?_
 ·obtain ⟨r, h', lo, ⟨rfl, h1⟩, h2⟩ := hb
  exact ⟨h', lo, h2, h1⟩
 have hnl : n < l.length := (List.getElem?_eq_some_iff.1 hx).1
 have fin : ∀ (t : List AV) (G : List Blk) (lo : Option Nat), Up H G → getX t 6 = .bool (markB (l.take n) s.r.op) → (∀ i, AExit.ret ≠ .exit i) ∧ ∃ vs, resAll { t := t, h := G, lo := lo } a27.res = some vs ∧ packRes vs = .bool (markB (l.take n) s.r.op) ∧ Up H G := by
  intro t G lo hU h
  refine ⟨(fun i hi => by cases hi), [.bool (markB (l.take n) s.r.op)], ?_, rfl, hU⟩
  rw [getX_eq] at h
  simp [a27, resAll, resOf, h]
 have hget : (l.map fun s => enR s.r)[n]? = some (enR s.r) := by rw [List.getElem?_map, hx]; rfl
 have hop' := hr.op
 generalize hopv : s.r.op = op at hop' hop fin ⊢
 have hlenV : ∀ G, pOp evC G (.len 1 (.c s.r.opv)) = some (.int .i64 (op.length : Int)) := fun G => by
  rcases hop' with ⟨h1, rfl⟩ | ⟨ex, h1⟩
  ·rw [h1]; rfl
  ·rw [h1]; exact len_ro op _ 2 ex _
 have fL := ht.L
 refine Wp.seq ((path4 (nt := 115) (live := [(0, (.sl idL 11 0 l.length l.length exL)), (1, (.sl idS 1 0 l.length l.length exS)), (2, (.int .i64 (n : Int)))]) [] [0, 1, 2, 6] (e := .normal) (vals := [(.sl idL 11 0 l.length l.length exL), (.sl idS 1 0 l.length l.length exS), (.int .i64 (n : Int)), (.bool false)]) (h' := H) [] ⟨by simp [a27], by simp [getX_eq]⟩ (fun t0 => by kernel_rfl) trivial).mono ?_)
 rintro e' s' ⟨rfl, t0, lo0, rfl, hl1⟩
 refine Wp.seq ((path4 (nt := 115) [.f s.r.opv] [0, 1, 2, 6, 7] (e := .normal) (vals := [(.sl idL 11 0 l.length l.length exL), (.sl idS 1 0 l.length l.length exS), (.int .i64 (n : Int)), (.bool false), s.r.opv]) (h' := H) [11 = 11, 0 ≤ (n : Int), (n : Int) < ((l.length : Nat) : Int), pOp evC H (.load none (.c (.ptr idL ((0 + (Int.toNat (n : Int)) * 11) + 9)))) = some s.r.opv] hl1 (fun t0 => by kernel_rfl) ⟨rfl, (by omega), (by omega), (ldEl fL hget (by kernel_rfl)), trivial⟩).mono ?_)
 rintro e' s' ⟨rfl, t1, lo1, rfl, hl2⟩
 refine Wp.seq (Wp.seq ((path4 (nt := 115) [] [0, 1, 2, 6, 7, 8] (e := .normal) (vals := [(.sl idL 11 0 l.length l.length exL), (.sl idS 1 0 l.length l.length exS), (.int .i64 (n : Int)), (.bool false), s.r.opv, (.int .i64 0)]) (h' := H) [] hl2 (fun t0 => by kernel_rfl) trivial).mono ?_))
 rintro e' s' ⟨rfl, t2, lo2, rfl, hl3⟩
 refine Wp.block (Wp.mono (Wp.loop (Q := fun e' s' => (e' = .ret ∧ ∃ t G lo, s' = { t := t, h := G, lo := lo } ∧ openB (l.take n) none op = false ∧ Up H G ∧ t.length = 115 ∧ getX t 6 = .bool false) ∨ (e' = .exit 0 ∧ ∃ t G lo, s' = { t := t, h := G, lo := lo } ∧ openB (l.take n) none op = true ∧ Up H G ∧ Lv 115 [(0, (.sl idL 11 0 l.length l.length exL)), (1, (.sl idS 1 0 l.length l.length exS)), (2, (.int .i64 (n : Int))), (6, (.bool false)), (7, s.r.opv)] t)) (fun k s' => ∃ (i : Nat) (t : List AV) (G : List Blk) (lo : Option Nat), s' = { t := t, h := G, lo := lo } ∧ k = op.length - i ∧ i ≤ op.length ∧ Up H G ∧ Lv 115 [(0, (.sl idL 11 0 l.length l.length exL)), (1, (.sl idS 1 0 l.length l.length exS)), (2, (.int .i64 (n : Int))), (6, (.bool false)), (7, s.r.opv), (8, (.int .i64 (i : Int)))] t ∧ openB (l.take n) none op = openB (l.take n) (prevO op i) (op.drop i)) ?_ op.length _ ⟨0, t2, H, lo2, rfl, rfl, by omega, Up.refl _, hl3, rfl⟩) fun e' s' h => ?_)
 ·clear hl3 hl2 hl1
  rintro k s' ⟨i, t, G, lo, rfl, rfl, hile, hU, hl, hw⟩
  by_cases hlt : i < op.length
  ·have hi : (i : Int) < (op.length : Int) := by omega
   rcases hop' with ⟨h1, rfl⟩ | ⟨ex, hvv⟩
   ·simp at hlt
   rw [hvv] at hl
   have hxo := List.getElem?_eq_getElem hlt
   rw [List.drop_eq_getElem_cons hlt] at hw
   have hgo : (op.map enO)[(i : Int).toNat]? = some (enO op[i]) := by rw [Int.toNat_natCast, List.getElem?_map, hxo]; rfl
   have hp1 : prevO op (i + 1) = some op[i].1 := by
    unfold prevO
    rw [if_neg (by omega), Nat.add_sub_cancel, hxo]
    rfl
   generalize op[i] = o at hgo hw hp1
   have hwp : IntKind.i64.wrap ((i : Int) + 1) = ((i + 1 : Nat) : Int) := by rw [IntWalk.i64_in _ (by omega)]; rfl
   obtain ⟨G2, lo2, pl, hc2, hU12, _⟩ := st_cl u (exL := exL) (exS := exS) (ht.up hU) (by omega : n ≤ l.length) hl1000 hg hf o.1
   have hU2 := hU.trans hU12
   have fL2 := (ht.up hU2).L
   have fS2 := (ht.up hU2).S
   have fL := (ht.up hU).L
   have fS := (ht.up hU).S
   have hob : ∀ p, openB (l.take n) p (o :: op.drop (i + 1)) = (!(match p with | some x => decide (x ≥ o.1) | none => false) && (!endOf (own (l.take n) o.1) && (decide (lastOf (own (l.take n) o.1) = o.2) && openB (l.take n) (some o.1) (op.drop (i + 1))))) := fun p => by cases p <;> rw [openB]
   rw [hob, ← hp1] at hw
   by_cases hi0 : (i : Int) > 0
   ·have hwi : IntKind.i64.wrap ((i : Int) - 1) = ((i - 1 : Nat) : Int) := by rw [IntWalk.i64_in _ (by omega)]; omega
    have hxp := List.getElem?_eq_getElem (show i - 1 < op.length by omega)
    have hpi : prevO op i = some op[i - 1].1 := by
     unfold prevO
     rw [if_neg (by omega), hxp]
     rfl
    have hgp : (op.map enO)[((i - 1 : Nat) : Int).toNat]? = some (enO op[i - 1]) := by rw [Int.toNat_natCast, List.getElem?_map, hxp]; rfl
    generalize op[i - 1] = p at hgp hpi
    rw [hpi] at hw
    simp only at hw
    by_cases hps : p.1 ≥ o.1
    ·rw [decide_eq_true hps] at hw
     simp only [Bool.not_true, Bool.false_and] at hw
     refine (path4 (nt := 115) [.g (.int .i64 (op.length : Int)), .b true, .b true, .v (.agg [(.int .i64 p.1), (.int .i64 p.2)]), .v (.agg [(.int .i64 o.1), (.int .i64 o.2)]), .b true] [6] (e := .ret) (vals := [(.bool false)]) (h' := G) [pOp evC G (.len 1 (.c (.ro (op.map enO) 2 ex))) = some (.int .i64 (op.length : Int)), cB (decide ((i : Int) < (op.length : Int))) true, cB (decide ((i : Int) > 0)) true, 2 = 2, 0 ≤ (IntKind.i64.wrap ((i : Int) - 1)), (IntKind.i64.wrap ((i : Int) - 1)) < (List.length (op.map enO) : Int), ((op.map enO))[(Int.toNat (IntKind.i64.wrap ((i : Int) - 1)))]? = some (.agg [(.int .i64 p.1), (.int .i64 p.2)]), 2 = 2, 0 ≤ (i : Int), (i : Int) < (List.length (op.map enO) : Int), ((op.map enO))[(Int.toNat (i : Int))]? = some (.agg [(.int .i64 o.1), (.int .i64 o.2)]), cB (decide (p.1 ≥ o.1)) true] hl (fun t0 => by kernel_rfl) ⟨(len_ro op _ 2 ex _), (cT hi), (cT hi0), rfl, (by rw [hwi]; omega), (by rw [hwi]; (first | omega | (simp; omega))), (by rw [hwi]; exact hgp), rfl, (by omega), (by simp; omega), hgo, (cT hps), trivial⟩).mono ?_
     rintro e' s' ⟨rfl, t4, lo4, rfl, hl4⟩
     exact .inl ⟨rfl, t4, _, lo4, rfl, by rw [hw], hU, hl4.len, hl4.get (6, .bool false) (by simp)⟩
    ·rw [decide_eq_false hps] at hw
     cases hE : endOf (own (l.take n) o.1) with
     | true =>
      rw [hE] at hc2 hw
      simp only [Bool.not_true, Bool.not_false, Bool.true_and, Bool.false_and] at hw
      refine (path4 (nt := 115) [.g (.int .i64 (op.length : Int)), .b true, .b true, .v (.agg [(.int .i64 p.1), (.int .i64 p.2)]), .v (.agg [(.int .i64 o.1), (.int .i64 o.2)]), .b false, .v (.agg [(.int .i64 o.1), (.int .i64 o.2)]), .r (.tup [(.int .i64 (lastOf (own (l.take n) o.1))), (.bool true), (.int .i64 pl)]) G2 lo2] [6] (e := .ret) (vals := [(.bool false)]) (h' := G2) [pOp evC G (.len 1 (.c (.ro (op.map enO) 2 ex))) = some (.int .i64 (op.length : Int)), cB (decide ((i : Int) < (op.length : Int))) true, cB (decide ((i : Int) > 0)) true, 2 = 2, 0 ≤ (IntKind.i64.wrap ((i : Int) - 1)), (IntKind.i64.wrap ((i : Int) - 1)) < (List.length (op.map enO) : Int), ((op.map enO))[(Int.toNat (IntKind.i64.wrap ((i : Int) - 1)))]? = some (.agg [(.int .i64 p.1), (.int .i64 p.2)]), 2 = 2, 0 ≤ (i : Int), (i : Int) < (List.length (op.map enO) : Int), ((op.map enO))[(Int.toNat (i : Int))]? = some (.agg [(.int .i64 o.1), (.int .i64 o.2)]), cB (decide (p.1 ≥ o.1)) false, 2 = 2, 0 ≤ (i : Int), (i : Int) < (List.length (op.map enO) : Int), ((op.map enO))[(Int.toNat (i : Int))]? = some (.agg [(.int .i64 o.1), (.int .i64 o.2)]), Cl Γ T 28 [(.sl idL 11 0 l.length l.length exL), (.sl idS 1 0 l.length l.length exS), (.int .i64 (n : Int)), (.int .i64 o.1)] G ((.tup [(.int .i64 (lastOf (own (l.take n) o.1))), (.bool true), (.int .i64 pl)]), G2, lo2)] hl (fun t0 => by kernel_rfl) ⟨(len_ro op _ 2 ex _), (cT hi), (cT hi0), rfl, (by rw [hwi]; omega), (by rw [hwi]; (first | omega | (simp; omega))), (by rw [hwi]; exact hgp), rfl, (by omega), (by simp; omega), hgo, (cF hps), rfl, (by omega), (by simp; omega), hgo, hc2, trivial⟩).mono ?_
      rintro e' s' ⟨rfl, t4, lo4, rfl, hl4⟩
      exact .inl ⟨rfl, t4, _, lo4, rfl, by rw [hw], hU2, hl4.len, hl4.get (6, .bool false) (by simp)⟩
     | false =>
      rw [hE] at hc2 hw
      by_cases hne : lastOf (own (l.take n) o.1) = o.2
      ·rw [decide_eq_true hne] at hw
       simp only [Bool.not_false, Bool.true_and] at hw
       refine (path4 (nt := 115) [.g (.int .i64 (op.length : Int)), .b true, .b true, .v (.agg [(.int .i64 p.1), (.int .i64 p.2)]), .v (.agg [(.int .i64 o.1), (.int .i64 o.2)]), .b false, .v (.agg [(.int .i64 o.1), (.int .i64 o.2)]), .r (.tup [(.int .i64 (lastOf (own (l.take n) o.1))), (.bool false), (.int .i64 pl)]) G2 lo2, .v (.agg [(.int .i64 o.1), (.int .i64 o.2)]), .b false] [0, 1, 2, 6, 7, 8] (e := .normal) (vals := [(.sl idL 11 0 l.length l.length exL), (.sl idS 1 0 l.length l.length exS), (.int .i64 (n : Int)), (.bool false), (.ro (op.map enO) 2 ex), (.int .i64 (IntKind.i64.wrap ((i : Int) + 1)))]) (h' := G2) [pOp evC G (.len 1 (.c (.ro (op.map enO) 2 ex))) = some (.int .i64 (op.length : Int)), cB (decide ((i : Int) < (op.length : Int))) true, cB (decide ((i : Int) > 0)) true, 2 = 2, 0 ≤ (IntKind.i64.wrap ((i : Int) - 1)), (IntKind.i64.wrap ((i : Int) - 1)) < (List.length (op.map enO) : Int), ((op.map enO))[(Int.toNat (IntKind.i64.wrap ((i : Int) - 1)))]? = some (.agg [(.int .i64 p.1), (.int .i64 p.2)]), 2 = 2, 0 ≤ (i : Int), (i : Int) < (List.length (op.map enO) : Int), ((op.map enO))[(Int.toNat (i : Int))]? = some (.agg [(.int .i64 o.1), (.int .i64 o.2)]), cB (decide (p.1 ≥ o.1)) false, 2 = 2, 0 ≤ (i : Int), (i : Int) < (List.length (op.map enO) : Int), ((op.map enO))[(Int.toNat (i : Int))]? = some (.agg [(.int .i64 o.1), (.int .i64 o.2)]), Cl Γ T 28 [(.sl idL 11 0 l.length l.length exL), (.sl idS 1 0 l.length l.length exS), (.int .i64 (n : Int)), (.int .i64 o.1)] G ((.tup [(.int .i64 (lastOf (own (l.take n) o.1))), (.bool false), (.int .i64 pl)]), G2, lo2), 2 = 2, 0 ≤ (i : Int), (i : Int) < (List.length (op.map enO) : Int), ((op.map enO))[(Int.toNat (i : Int))]? = some (.agg [(.int .i64 o.1), (.int .i64 o.2)]), cB ((lastOf (own (l.take n) o.1)) != o.2) false] hl (fun t0 => by kernel_rfl) ⟨(len_ro op _ 2 ex _), (cT hi), (cT hi0), rfl, (by rw [hwi]; omega), (by rw [hwi]; (first | omega | (simp; omega))), (by rw [hwi]; exact hgp), rfl, (by omega), (by simp; omega), hgo, (cF hps), rfl, (by omega), (by simp; omega), hgo, hc2, rfl, (by omega), (by simp; omega), hgo, (cS hne), trivial⟩).mono ?_
       rintro e' s' ⟨rfl, t4, lo4, rfl, hl4⟩
       rw [hwp, ← hvv] at hl4
       exact ⟨op.length - (i + 1), by omega, i + 1, t4, _, lo4, rfl, rfl, by omega, hU2, hl4, by rw [hw]⟩
      ·rw [decide_eq_false hne] at hw
       simp only [Bool.not_false, Bool.true_and, Bool.false_and] at hw
       refine (path4 (nt := 115) [.g (.int .i64 (op.length : Int)), .b true, .b true, .v (.agg [(.int .i64 p.1), (.int .i64 p.2)]), .v (.agg [(.int .i64 o.1), (.int .i64 o.2)]), .b false, .v (.agg [(.int .i64 o.1), (.int .i64 o.2)]), .r (.tup [(.int .i64 (lastOf (own (l.take n) o.1))), (.bool false), (.int .i64 pl)]) G2 lo2, .v (.agg [(.int .i64 o.1), (.int .i64 o.2)]), .b true] [6] (e := .ret) (vals := [(.bool false)]) (h' := G2) [pOp evC G (.len 1 (.c (.ro (op.map enO) 2 ex))) = some (.int .i64 (op.length : Int)), cB (decide ((i : Int) < (op.length : Int))) true, cB (decide ((i : Int) > 0)) true, 2 = 2, 0 ≤ (IntKind.i64.wrap ((i : Int) - 1)), (IntKind.i64.wrap ((i : Int) - 1)) < (List.length (op.map enO) : Int), ((op.map enO))[(Int.toNat (IntKind.i64.wrap ((i : Int) - 1)))]? = some (.agg [(.int .i64 p.1), (.int .i64 p.2)]), 2 = 2, 0 ≤ (i : Int), (i : Int) < (List.length (op.map enO) : Int), ((op.map enO))[(Int.toNat (i : Int))]? = some (.agg [(.int .i64 o.1), (.int .i64 o.2)]), cB (decide (p.1 ≥ o.1)) false, 2 = 2, 0 ≤ (i : Int), (i : Int) < (List.length (op.map enO) : Int), ((op.map enO))[(Int.toNat (i : Int))]? = some (.agg [(.int .i64 o.1), (.int .i64 o.2)]), Cl Γ T 28 [(.sl idL 11 0 l.length l.length exL), (.sl idS 1 0 l.length l.length exS), (.int .i64 (n : Int)), (.int .i64 o.1)] G ((.tup [(.int .i64 (lastOf (own (l.take n) o.1))), (.bool false), (.int .i64 pl)]), G2, lo2), 2 = 2, 0 ≤ (i : Int), (i : Int) < (List.length (op.map enO) : Int), ((op.map enO))[(Int.toNat (i : Int))]? = some (.agg [(.int .i64 o.1), (.int .i64 o.2)]), cB ((lastOf (own (l.take n) o.1)) != o.2) true] hl (fun t0 => by kernel_rfl) ⟨(len_ro op _ 2 ex _), (cT hi), (cT hi0), rfl, (by rw [hwi]; omega), (by rw [hwi]; (first | omega | (simp; omega))), (by rw [hwi]; exact hgp), rfl, (by omega), (by simp; omega), hgo, (cF hps), rfl, (by omega), (by simp; omega), hgo, hc2, rfl, (by omega), (by simp; omega), hgo, (cD hne), trivial⟩).mono ?_
       rintro e' s' ⟨rfl, t4, lo4, rfl, hl4⟩
       exact .inl ⟨rfl, t4, _, lo4, rfl, by rw [hw], hU2, hl4.len, hl4.get (6, .bool false) (by simp)⟩
   ·have hpi : prevO op i = none := by unfold prevO; rw [if_pos (by omega)]
    rw [hpi] at hw
    simp only at hw
    cases hE : endOf (own (l.take n) o.1) with
    | true =>
     rw [hE] at hc2 hw
     simp only [Bool.not_true, Bool.not_false, Bool.true_and, Bool.false_and] at hw
     refine (path4 (nt := 115) [.g (.int .i64 (op.length : Int)), .b true, .b false, .v (.agg [(.int .i64 o.1), (.int .i64 o.2)]), .r (.tup [(.int .i64 (lastOf (own (l.take n) o.1))), (.bool true), (.int .i64 pl)]) G2 lo2] [6] (e := .ret) (vals := [(.bool false)]) (h' := G2) [pOp evC G (.len 1 (.c (.ro (op.map enO) 2 ex))) = some (.int .i64 (op.length : Int)), cB (decide ((i : Int) < (op.length : Int))) true, cB (decide ((i : Int) > 0)) false, 2 = 2, 0 ≤ (i : Int), (i : Int) < (List.length (op.map enO) : Int), ((op.map enO))[(Int.toNat (i : Int))]? = some (.agg [(.int .i64 o.1), (.int .i64 o.2)]), Cl Γ T 28 [(.sl idL 11 0 l.length l.length exL), (.sl idS 1 0 l.length l.length exS), (.int .i64 (n : Int)), (.int .i64 o.1)] G ((.tup [(.int .i64 (lastOf (own (l.take n) o.1))), (.bool true), (.int .i64 pl)]), G2, lo2)] hl (fun t0 => by kernel_rfl) ⟨(len_ro op _ 2 ex _), (cT hi), (cF hi0), rfl, (by omega), (by simp; omega), hgo, hc2, trivial⟩).mono ?_
     rintro e' s' ⟨rfl, t4, lo4, rfl, hl4⟩
     exact .inl ⟨rfl, t4, _, lo4, rfl, by rw [hw], hU2, hl4.len, hl4.get (6, .bool false) (by simp)⟩
    | false =>
     rw [hE] at hc2 hw
     by_cases hne : lastOf (own (l.take n) o.1) = o.2
     ·rw [decide_eq_true hne] at hw
      simp only [Bool.not_false, Bool.true_and] at hw
      refine (path4 (nt := 115) [.g (.int .i64 (op.length : Int)), .b true, .b false, .v (.agg [(.int .i64 o.1), (.int .i64 o.2)]), .r (.tup [(.int .i64 (lastOf (own (l.take n) o.1))), (.bool false), (.int .i64 pl)]) G2 lo2, .v (.agg [(.int .i64 o.1), (.int .i64 o.2)]), .b false] [0, 1, 2, 6, 7, 8] (e := .normal) (vals := [(.sl idL 11 0 l.length l.length exL), (.sl idS 1 0 l.length l.length exS), (.int .i64 (n : Int)), (.bool false), (.ro (op.map enO) 2 ex), (.int .i64 (IntKind.i64.wrap ((i : Int) + 1)))]) (h' := G2) [pOp evC G (.len 1 (.c (.ro (op.map enO) 2 ex))) = some (.int .i64 (op.length : Int)), cB (decide ((i : Int) < (op.length : Int))) true, cB (decide ((i : Int) > 0)) false, 2 = 2, 0 ≤ (i : Int), (i : Int) < (List.length (op.map enO) : Int), ((op.map enO))[(Int.toNat (i : Int))]? = some (.agg [(.int .i64 o.1), (.int .i64 o.2)]), Cl Γ T 28 [(.sl idL 11 0 l.length l.length exL), (.sl idS 1 0 l.length l.length exS), (.int .i64 (n : Int)), (.int .i64 o.1)] G ((.tup [(.int .i64 (lastOf (own (l.take n) o.1))), (.bool false), (.int .i64 pl)]), G2, lo2), 2 = 2, 0 ≤ (i : Int), (i : Int) < (List.length (op.map enO) : Int), ((op.map enO))[(Int.toNat (i : Int))]? = some (.agg [(.int .i64 o.1), (.int .i64 o.2)]), cB ((lastOf (own (l.take n) o.1)) != o.2) false] hl (fun t0 => by kernel_rfl) ⟨(len_ro op _ 2 ex _), (cT hi), (cF hi0), rfl, (by omega), (by simp; omega), hgo, hc2, rfl, (by omega), (by simp; omega), hgo, (cS hne), trivial⟩).mono ?_
      rintro e' s' ⟨rfl, t4, lo4, rfl, hl4⟩
      rw [hwp, ← hvv] at hl4
      exact ⟨op.length - (i + 1), by omega, i + 1, t4, _, lo4, rfl, rfl, by omega, hU2, hl4, by rw [hw]⟩
     ·rw [decide_eq_false hne] at hw
      simp only [Bool.not_false, Bool.true_and, Bool.false_and] at hw
      refine (path4 (nt := 115) [.g (.int .i64 (op.length : Int)), .b true, .b false, .v (.agg [(.int .i64 o.1), (.int .i64 o.2)]), .r (.tup [(.int .i64 (lastOf (own (l.take n) o.1))), (.bool false), (.int .i64 pl)]) G2 lo2, .v (.agg [(.int .i64 o.1), (.int .i64 o.2)]), .b true] [6] (e := .ret) (vals := [(.bool false)]) (h' := G2) [pOp evC G (.len 1 (.c (.ro (op.map enO) 2 ex))) = some (.int .i64 (op.length : Int)), cB (decide ((i : Int) < (op.length : Int))) true, cB (decide ((i : Int) > 0)) false, 2 = 2, 0 ≤ (i : Int), (i : Int) < (List.length (op.map enO) : Int), ((op.map enO))[(Int.toNat (i : Int))]? = some (.agg [(.int .i64 o.1), (.int .i64 o.2)]), Cl Γ T 28 [(.sl idL 11 0 l.length l.length exL), (.sl idS 1 0 l.length l.length exS), (.int .i64 (n : Int)), (.int .i64 o.1)] G ((.tup [(.int .i64 (lastOf (own (l.take n) o.1))), (.bool false), (.int .i64 pl)]), G2, lo2), 2 = 2, 0 ≤ (i : Int), (i : Int) < (List.length (op.map enO) : Int), ((op.map enO))[(Int.toNat (i : Int))]? = some (.agg [(.int .i64 o.1), (.int .i64 o.2)]), cB ((lastOf (own (l.take n) o.1)) != o.2) true] hl (fun t0 => by kernel_rfl) ⟨(len_ro op _ 2 ex _), (cT hi), (cF hi0), rfl, (by omega), (by simp; omega), hgo, hc2, rfl, (by omega), (by simp; omega), hgo, (cD hne), trivial⟩).mono ?_
      rintro e' s' ⟨rfl, t4, lo4, rfl, hl4⟩
      exact .inl ⟨rfl, t4, _, lo4, rfl, by rw [hw], hU2, hl4.len, hl4.get (6, .bool false) (by simp)⟩
  ·have hi : ¬ (i : Int) < (op.length : Int) := by omega
   have hd : op.drop i = [] := List.drop_eq_nil_of_le (by omega)
   rw [hd] at hw
   have hw1 : openB (l.take n) none op = true := by rw [hw]; cases prevO op i <;> rfl
   have hlenV := hlenV G
   refine (path4 (nt := 115) [.g (.int .i64 (op.length : Int)), .b false] [0, 1, 2, 6, 7] (e := (.exit 0)) (vals := [(.sl idL 11 0 l.length l.length exL), (.sl idS 1 0 l.length l.length exS), (.int .i64 (n : Int)), (.bool false), s.r.opv]) (h' := G) [pOp evC G (.len 1 (.c s.r.opv)) = some (.int .i64 (op.length : Int)), cB (decide ((i : Int) < (op.length : Int))) false] hl (fun t0 => by kernel_rfl) ⟨hlenV, (cF hi), trivial⟩).mono ?_
   rintro e' s' ⟨rfl, t4, lo4, rfl, hl4⟩
   exact .inr ⟨rfl, t4, _, lo4, rfl, hw1, hU, hl4⟩
 ·rcases h with ⟨rfl, t, G, lo, rfl, hob, hU, hlen, h6⟩ | ⟨rfl, t, G, lo, rfl, hob, hU, hl9⟩
  ·exact fin t G lo hU (by rw [h6]; unfold markB; rw [hob]; rfl)
  clear hl3 hl2 hl1
  show Wp Γ T _ _ _
  have hmk : markB (l.take n) op = (l.take n).all (toldB (l.take n) op) := by unfold markB; rw [hob, Bool.true_and]
  refine Wp.seq (Wp.seq ((path4 (nt := 115) [] [0, 1, 2, 6, 7, 12] (e := .normal) (vals := [(.sl idL 11 0 l.length l.length exL), (.sl idS 1 0 l.length l.length exS), (.int .i64 (n : Int)), (.bool false), s.r.opv, (.int .i64 0)]) (h' := G) [] hl9 (fun t0 => by kernel_rfl) trivial).mono ?_))
  rintro e' s' ⟨rfl, t3, lo3, rfl, hl4⟩
  refine Wp.block (Wp.mono (Wp.loop (Q := fun e' s' => (e' = .ret ∧ ∃ t G lo, s' = { t := t, h := G, lo := lo } ∧ (l.take n).all (toldB (l.take n) op) = false ∧ Up H G ∧ getX t 6 = .bool false) ∨ (e' = .exit 2 ∧ ∃ t G lo, s' = { t := t, h := G, lo := lo } ∧ (l.take n).all (toldB (l.take n) op) = true ∧ Up H G ∧ Lv 115 [(0, (.sl idL 11 0 l.length l.length exL))] t)) (fun k s' => ∃ (i : Nat) (t : List AV) (G : List Blk) (lo : Option Nat), s' = { t := t, h := G, lo := lo } ∧ k = n - i ∧ i ≤ n ∧ Up H G ∧ Lv 115 [(0, (.sl idL 11 0 l.length l.length exL)), (1, (.sl idS 1 0 l.length l.length exS)), (2, (.int .i64 (n : Int))), (6, (.bool false)), (7, s.r.opv), (12, (.int .i64 (i : Int)))] t ∧ ∀ x ∈ l.take i, toldB (l.take n) op x = true) ?_ n _ ⟨0, t3, G, lo3, rfl, rfl, by omega, hU, hl4, fun x hx => by simp at hx⟩) fun e' s' h => ?_)
  ·clear hl4 hl9 hU
   rintro k s' ⟨i, t, G, lo, rfl, rfl, hile, hU, hl, hal⟩
   have fL := (ht.up hU).L
   have fS := (ht.up hU).S
   by_cases hlt : i < n
   ·have hi : (i : Int) < (n : Int) := by omega
    have hilen : i < l.length := by omega
    have hxi := List.getElem?_eq_getElem hilen
    have htk : l.take (i + 1) = l.take i ++ [l[i]] := by rw [List.take_add_one, hxi]; rfl
    have hgy : (l.map fun s => enR s.r)[i]? = some (enR l[i].r) := by rw [List.getElem?_map, hxi]; rfl
    have hym : l[i] ∈ l.take n := List.mem_of_getElem? (by rw [List.getElem?_take_of_lt hlt]; exact hxi)
    generalize l[i] = y at htk hgy hym
    obtain ⟨lo1, hco⟩ := own_cl u y.r G
    have hwp : IntKind.i64.wrap ((i : Int) + 1) = ((i + 1 : Nat) : Int) := by rw [IntWalk.i64_in _ (by omega)]; rfl
    have hnext : toldB (l.take n) op y = true → ∀ x ∈ l.take (i + 1), toldB (l.take n) op x = true := fun h x hx => by
     rw [htk] at hx
     rcases List.mem_append.1 hx with hx | hx
     ·exact hal x hx
     ·rw [List.mem_singleton.1 hx]; exact h
    cases ho : isOwn y.r with
    | false =>
     rw [ho] at hco
     refine (path4 (nt := 115) [.b true, .f (.agg (enR y.r)), .r (.bool false) (ap G (enR y.r)) lo1] [0, 1, 2, 6, 7, 12] (e := .normal) (vals := [(.sl idL 11 0 l.length l.length exL), (.sl idS 1 0 l.length l.length exS), (.int .i64 (n : Int)), (.bool false), s.r.opv, (.int .i64 (IntKind.i64.wrap ((i : Int) + 1)))]) (h' := (ap G (enR y.r))) [cB (decide ((i : Int) < (n : Int))) true, 11 = 11, 0 ≤ (i : Int), (i : Int) < ((l.length : Nat) : Int), pOp evC G (.load (some 11) (.c (.ptr idL (0 + (Int.toNat (i : Int)) * 11)))) = some (.agg (enR y.r)), Cl Γ T 15 [(.agg (enR y.r))] G ((.bool false), (ap G (enR y.r)), lo1)] hl (fun t0 => by kernel_rfl) ⟨(cT hi), rfl, (by omega), (by omega), (ldEl0 fL hgy (by kernel_rfl)), hco, trivial⟩).mono ?_
     rintro e' s' ⟨rfl, t4, lo4, rfl, hl4⟩
     rw [hwp] at hl4
     exact ⟨n - (i + 1), by omega, i + 1, t4, _, lo4, rfl, rfl, by omega, hU.trans (Up.app _ _), hl4, hnext (by unfold toldB; rw [ho]; rfl)⟩
    | true =>
     rw [ho] at hco
     have htold : toldB (l.take n) op y = (endOf (own (l.take n) y.r.deal) || op.any fun o => decide (o.1 = y.r.deal)) := by
      unfold toldB
      rw [ho, decide_eq_true (last_pos hg hym ho)]
      rfl
     refine Wp.seq ((path4 (nt := 115) [.b true] [0, 1, 2, 6, 7, 12] (e := .normal) (vals := [(.sl idL 11 0 l.length l.length exL), (.sl idS 1 0 l.length l.length exS), (.int .i64 (n : Int)), (.bool false), s.r.opv, (.int .i64 (i : Int))]) (h' := G) [cB (decide ((i : Int) < (n : Int))) true] hl (fun t0 => by kernel_rfl) ⟨(cT hi), trivial⟩).mono ?_)
     rintro e' s' ⟨rfl, t5, lo5, rfl, hl1⟩
     refine Wp.seq (Wp.block (Wp.seq ((path4 (nt := 115) [.f (.agg (enR y.r)), .r (.bool true) (ap G (enR y.r)) lo1] [0, 1, 2, 6, 7, 12] (e := .normal) (vals := [(.sl idL 11 0 l.length l.length exL), (.sl idS 1 0 l.length l.length exS), (.int .i64 (n : Int)), (.bool false), s.r.opv, (.int .i64 (i : Int))]) (h' := (ap G (enR y.r))) [11 = 11, 0 ≤ (i : Int), (i : Int) < ((l.length : Nat) : Int), pOp evC G (.load (some 11) (.c (.ptr idL (0 + (Int.toNat (i : Int)) * 11)))) = some (.agg (enR y.r)), Cl Γ T 15 [(.agg (enR y.r))] G ((.bool true), (ap G (enR y.r)), lo1)] hl1 (fun t0 => by kernel_rfl) ⟨rfl, (by omega), (by omega), (ldEl0 fL hgy (by kernel_rfl)), hco, trivial⟩).mono ?_)))
     rintro e' s' ⟨rfl, t6, lo6, rfl, hl2⟩
     have hU1 : Up H (ap G (enR y.r)) := hU.trans (Up.app G (.cells (enR y.r)))
     clear fL fS hl1 hl hco
     have fL := (ht.up hU1).L
     have fS := (ht.up hU1).S
     obtain ⟨G2, lo2, pl, hc2, hU12, _⟩ := st_cl u (exL := exL) (exS := exS) (ht.up hU1) (by omega : n ≤ l.length) hl1000 hg hf y.r.deal
     have hU2 := hU1.trans hU12
     clear hU
     generalize ap G (enR y.r) = G at hl2 hc2 hU12 fL fS
     generalize endOf (own (l.take n) y.r.deal) = b0 at hc2 htold
     refine Wp.seq ((path4 (nt := 115) [.f (.int .i64 y.r.deal), .r (.tup [(.int .i64 (lastOf (own (l.take n) y.r.deal))), (.bool b0), (.int .i64 pl)]) G2 lo2] [0, 1, 2, 6, 7, 12, 14] (e := .normal) (vals := [(.sl idL 11 0 l.length l.length exL), (.sl idS 1 0 l.length l.length exS), (.int .i64 (n : Int)), (.bool false), s.r.opv, (.int .i64 (i : Int)), (.bool b0)]) (h' := G2) [11 = 11, 0 ≤ (i : Int), (i : Int) < ((l.length : Nat) : Int), pOp evC G (.load none (.c (.ptr idL ((0 + (Int.toNat (i : Int)) * 11) + 1)))) = some (.int .i64 y.r.deal), Cl Γ T 28 [(.sl idL 11 0 l.length l.length exL), (.sl idS 1 0 l.length l.length exS), (.int .i64 (n : Int)), (.int .i64 y.r.deal)] G ((.tup [(.int .i64 (lastOf (own (l.take n) y.r.deal))), (.bool b0), (.int .i64 pl)]), G2, lo2)] hl2 (fun t0 => by kernel_rfl) ⟨rfl, (by omega), (by omega), (ldEl fL hgy (by kernel_rfl)), hc2, trivial⟩).mono ?_)
     rintro e' s' ⟨rfl, t7, lo7, rfl, hl3⟩
     clear fL fS hl2 hc2 hU12 hU1
     generalize G2 = G at hl3 hU2
     refine Wp.seq ((path4 (nt := 115) [] [0, 1, 2, 6, 7, 12, 16] (e := .normal) (vals := [(.sl idL 11 0 l.length l.length exL), (.sl idS 1 0 l.length l.length exS), (.int .i64 (n : Int)), (.bool false), s.r.opv, (.int .i64 (i : Int)), (.bool b0)]) (h' := G) [] hl3 (fun t0 => by kernel_rfl) trivial).mono ?_)
     rintro e' s' ⟨rfl, t8, lo8, rfl, hl4⟩
     refine Wp.seq (Wp.seq ((path4 (nt := 115) [] [0, 1, 2, 6, 7, 12, 16, 17] (e := .normal) (vals := [(.sl idL 11 0 l.length l.length exL), (.sl idS 1 0 l.length l.length exS), (.int .i64 (n : Int)), (.bool false), s.r.opv, (.int .i64 (i : Int)), (.bool b0), (.int .i64 0)]) (h' := G) [] hl4 (fun t0 => by kernel_rfl) trivial).mono ?_))
     rintro e' s' ⟨rfl, t9, lo9, rfl, hl5⟩
     have fL := (ht.up hU2).L
     refine Wp.block (Wp.mono (Wp.loop (Q := fun e' s' => e' = .exit 4 ∧ ∃ t lo, s' = { t := t, h := G, lo := lo } ∧ Lv 115 [(0, (.sl idL 11 0 l.length l.length exL)), (1, (.sl idS 1 0 l.length l.length exS)), (2, (.int .i64 (n : Int))), (6, (.bool false)), (7, s.r.opv), (12, (.int .i64 (i : Int))), (16, (.bool (toldB (l.take n) op y)))] t) (fun k s' => ∃ (j : Nat) (t : List AV) (lo : Option Nat), s' = { t := t, h := G, lo := lo } ∧ k = op.length - j ∧ j ≤ op.length ∧ Lv 115 [(0, (.sl idL 11 0 l.length l.length exL)), (1, (.sl idS 1 0 l.length l.length exS)), (2, (.int .i64 (n : Int))), (6, (.bool false)), (7, s.r.opv), (12, (.int .i64 (i : Int))), (16, (.bool (b0 || (op.take j).any fun o => decide (o.1 = y.r.deal)))), (17, (.int .i64 (j : Int)))] t) ?_ op.length _ ⟨0, t9, lo9, rfl, rfl, by omega, by rw [List.take_zero, List.any_nil, Bool.or_false]; exact hl5⟩) fun e' s' h => ?_)
     ·clear hl5 hl4 hl3
      rintro k s' ⟨j, t, lo, rfl, rfl, hjle, hl⟩
      by_cases hjl : j < op.length
      ·have hj : (j : Int) < (op.length : Int) := by omega
       rcases hop' with ⟨h1, rfl⟩ | ⟨ex, hvv⟩
       ·simp at hjl
       rw [hvv] at hl
       have hxo := List.getElem?_eq_getElem hjl
       have hto : op.take (j + 1) = op.take j ++ [op[j]] := by rw [List.take_add_one, hxo]; rfl
       have hgo : (op.map enO)[(j : Int).toNat]? = some (enO op[j]) := by rw [Int.toNat_natCast, List.getElem?_map, hxo]; rfl
       generalize op[j] = o at hgo hto
       have hwj : IntKind.i64.wrap ((j : Int) + 1) = ((j + 1 : Nat) : Int) := by rw [IntWalk.i64_in _ (by omega)]; rfl
       have hany : (b0 || (op.take (j + 1)).any fun o => decide (o.1 = y.r.deal)) = ((b0 || (op.take j).any fun o => decide (o.1 = y.r.deal)) || (o.1 == y.r.deal)) := by
        rw [hto, List.any_append, Bool.or_assoc]
        congr 2
        simp only [List.any_cons, List.any_nil, Bool.or_false]
        by_cases h : o.1 = y.r.deal <;> simp [h]
       cases hb : (b0 || (op.take j).any fun o => decide (o.1 = y.r.deal)) with
       | true =>
        rw [hb] at hl hany
        refine (path4 (nt := 115) [.g (.int .i64 (op.length : Int)), .b true] [0, 1, 2, 6, 7, 12, 16, 17] (e := .normal) (vals := [(.sl idL 11 0 l.length l.length exL), (.sl idS 1 0 l.length l.length exS), (.int .i64 (n : Int)), (.bool false), (.ro (op.map enO) 2 ex), (.int .i64 (i : Int)), (.bool true), (.int .i64 (IntKind.i64.wrap ((j : Int) + 1)))]) (h' := G) [pOp evC G (.len 1 (.c (.ro (op.map enO) 2 ex))) = some (.int .i64 (op.length : Int)), cB (decide ((j : Int) < (op.length : Int))) true] hl (fun t0 => by kernel_rfl) ⟨(len_ro op _ 2 ex _), (cT hj), trivial⟩).mono ?_
        rintro e' s' ⟨rfl, t4, lo4, rfl, hl4⟩
        rw [hwj, ← hvv] at hl4
        exact ⟨op.length - (j + 1), by omega, j + 1, t4, lo4, rfl, rfl, by omega, by rw [hany]; exact hl4⟩
       | false =>
        rw [hb] at hl hany
        refine (path4 (nt := 115) [.g (.int .i64 (op.length : Int)), .b true, .v (.agg [(.int .i64 o.1), (.int .i64 o.2)]), .f (.int .i64 y.r.deal)] [0, 1, 2, 6, 7, 12, 16, 17] (e := .normal) (vals := [(.sl idL 11 0 l.length l.length exL), (.sl idS 1 0 l.length l.length exS), (.int .i64 (n : Int)), (.bool false), (.ro (op.map enO) 2 ex), (.int .i64 (i : Int)), (.bool (o.1 == y.r.deal)), (.int .i64 (IntKind.i64.wrap ((j : Int) + 1)))]) (h' := G) [pOp evC G (.len 1 (.c (.ro (op.map enO) 2 ex))) = some (.int .i64 (op.length : Int)), cB (decide ((j : Int) < (op.length : Int))) true, 2 = 2, 0 ≤ (j : Int), (j : Int) < (List.length (op.map enO) : Int), ((op.map enO))[(Int.toNat (j : Int))]? = some (.agg [(.int .i64 o.1), (.int .i64 o.2)]), 11 = 11, 0 ≤ (i : Int), (i : Int) < ((l.length : Nat) : Int), pOp evC G (.load none (.c (.ptr idL ((0 + (Int.toNat (i : Int)) * 11) + 1)))) = some (.int .i64 y.r.deal)] hl (fun t0 => by kernel_rfl) ⟨(len_ro op _ 2 ex _), (cT hj), rfl, (by omega), (by simp; omega), hgo, rfl, (by omega), (by omega), (ldEl fL hgy (by kernel_rfl)), trivial⟩).mono ?_
        rintro e' s' ⟨rfl, t4, lo4, rfl, hl4⟩
        rw [hwj, ← hvv] at hl4
        exact ⟨op.length - (j + 1), by omega, j + 1, t4, lo4, rfl, rfl, by omega, by rw [hany]; exact hl4⟩
      ·have hj : ¬ (j : Int) < (op.length : Int) := by omega
       have hto : op.take j = op := List.take_of_length_le (by omega)
       rw [hto] at hl
       rw [← htold] at hl
       have hlenV := hlenV G
       generalize hbb : toldB (l.take n) op y = b at hl
       refine (path4 (nt := 115) [.g (.int .i64 (op.length : Int)), .b false] [0, 1, 2, 6, 7, 12, 16] (e := (.exit 4)) (vals := [(.sl idL 11 0 l.length l.length exL), (.sl idS 1 0 l.length l.length exS), (.int .i64 (n : Int)), (.bool false), s.r.opv, (.int .i64 (i : Int)), (.bool b)]) (h' := G) [pOp evC G (.len 1 (.c s.r.opv)) = some (.int .i64 (op.length : Int)), cB (decide ((j : Int) < (op.length : Int))) false] hl (fun t0 => by kernel_rfl) ⟨hlenV, (cF hj), trivial⟩).mono ?_
       rintro e' s' ⟨rfl, t4, lo4, rfl, hl4⟩
       exact ⟨rfl, t4, lo4, rfl, by first | exact hl4 | (rw [hbb]; exact hl4)⟩
     ·obtain ⟨rfl, t, lo, rfl, hl6⟩ := h
      show Wp Γ T _ _ _
      cases hbb : toldB (l.take n) op y with
      | false =>
       rw [hbb] at hl6
       refine (path4 (nt := 115) [] [6] (e := .ret) (vals := [(.bool false)]) (h' := G) [] hl6 (fun t0 => by kernel_rfl) trivial).mono ?_
       rintro e' s' ⟨rfl, t4, lo4, rfl, hl7⟩
       refine .inl ⟨rfl, t4, _, lo4, rfl, ?_, hU2, hl7.get (6, .bool false) (by simp)⟩
       rw [List.all_eq_false]
       exact ⟨y, hym, by rw [hbb]; decide⟩
      | true =>
       rw [hbb] at hl6
       refine (path4 (nt := 115) [] [0, 1, 2, 6, 7, 12] (e := .normal) (vals := [(.sl idL 11 0 l.length l.length exL), (.sl idS 1 0 l.length l.length exS), (.int .i64 (n : Int)), (.bool false), s.r.opv, (.int .i64 (i : Int))]) (h' := G) [] hl6 (fun t0 => by kernel_rfl) trivial).mono ?_
       rintro e' s' ⟨rfl, t4, lo4, rfl, hl7⟩
       show Wp Γ T _ _ _
       refine (path4 (nt := 115) [] [0, 1, 2, 6, 7, 12] (e := .normal) (vals := [(.sl idL 11 0 l.length l.length exL), (.sl idS 1 0 l.length l.length exS), (.int .i64 (n : Int)), (.bool false), s.r.opv, (.int .i64 (IntKind.i64.wrap ((i : Int) + 1)))]) (h' := G) [] hl7 (fun t0 => by kernel_rfl) trivial).mono ?_
       rintro e' s' ⟨rfl, t5, lo5, rfl, hl8⟩
       rw [hwp] at hl8
       exact ⟨n - (i + 1), by omega, i + 1, t5, _, lo5, rfl, rfl, by omega, hU2, hl8, hnext hbb⟩
   ·have hi : ¬ (i : Int) < (n : Int) := by omega
    have e1 : l.take i = l.take n := by rw [show i = n by omega]
    rw [e1] at hal
    refine (path4 (nt := 115) [.b false] [0] (e := (.exit 2)) (vals := [(.sl idL 11 0 l.length l.length exL)]) (h' := G) [cB (decide ((i : Int) < (n : Int))) false] hl (fun t0 => by kernel_rfl) ⟨(cF hi), trivial⟩).mono ?_
    rintro e' s' ⟨rfl, t4, lo4, rfl, hl4⟩
    exact .inr ⟨rfl, t4, _, lo4, rfl, List.all_eq_true.2 hal, hU, hl4⟩
  ·rcases h with ⟨rfl, t, G, lo, rfl, hal, hU, h6⟩ | ⟨rfl, t, G, lo, rfl, hal, hU, hl8⟩
   ·exact fin t G lo hU (by rw [h6, hmk, hal])
   ·show Wp Γ T _ _ _
    refine (path4 (nt := 115) [] [6] (e := .ret) (vals := [(.bool true)]) (h' := G) [] hl8 (fun t0 => by kernel_rfl) trivial).mono ?_
    rintro e' s' ⟨rfl, t4, lo4, rfl, hl9⟩
    exact fin t4 _ lo4 hU (by rw [hmk, hal]; exact hl9.get (6, .bool true) (by simp))
omit u in
theorem nextIs {l : List Stm} {n : Nat} {o : Option Rec} {p : Int} (h : PlaceIs l n o p) : o.isNone = decide (p < 0) := by
 rcases h with ⟨rfl, rfl⟩ | ⟨j, s, rfl, h1, h2, rfl⟩
 ·rfl
 ·rw [decide_eq_false (by omega)]; rfl
theorem rhangs_cl {H : List Blk} {idL idS : Nat} {l : List Stm} {exL exS : Bool} (ht : Two H idL idS l) {n : Nat} {s : Stm} (hx : l[n]? = some s) (hl1000 : l.length ≤ 1000) (hg : GoodP (l.take n)) (hf : Fine (l.take n)) (hr : One s.r) (hop : s.r.op.length ≤ 1000) :
  ∃ H' lo, Cl Γ T 18 [(.sl idL 11 0 l.length l.length exL), (.sl idS 1 0 l.length l.length exS), .int .i64 (n : Int)] H (.bool (hangsB (l.take n) s), H', lo) ∧ Up H H' := by
 have hb := clB (Γ := Γ) (tbl := T) (f := 18) (af := a18) (args := [(.sl idL 11 0 l.length l.length exL), (.sl idS 1 0 l.length l.length exS), .int .i64 (n : Int)]) (h := H) u.g18 (by kernel_rfl) (by kernel_rfl) (fun r h' => r = .bool (hangsB (l.take n) s) ∧ Up H h') ?_
 ·obtain ⟨r, h', lo, ⟨rfl, h1⟩, h2⟩ := hb
  exact ⟨h', lo, h2, h1⟩
 have hnl : n < l.length := (List.getElem?_eq_some_iff.1 hx).1
 have fin : ∀ (t : List AV) (G : List Blk) (lo : Option Nat), Up H G → getX t 6 = .bool (hangsB (l.take n) s) → (∀ i, AExit.ret ≠ .exit i) ∧ ∃ vs, resAll { t := t, h := G, lo := lo } a18.res = some vs ∧ packRes vs = .bool (hangsB (l.take n) s) ∧ Up H G := by
  intro t G lo hU h
  refine ⟨(fun i hi => by cases hi), [.bool (hangsB (l.take n) s)], ?_, rfl, hU⟩
  rw [getX_eq] at h
  simp [a18, resAll, resOf, h]
 have hget : (l.map fun s => enR s.r)[n]? = some (enR s.r) := by rw [List.getElem?_map, hx]; rfl
 have hgetS : (l.map fun s => [AV.int .i64 s.st])[n]? = some [.int .i64 s.st] := by rw [List.getElem?_map, hx]; rfl
 have fL := ht.L
 refine Wp.seq ((path4 (nt := 129) (live := [(0, (.sl idL 11 0 l.length l.length exL)), (1, (.sl idS 1 0 l.length l.length exS)), (2, (.int .i64 (n : Int)))]) [] [0, 1, 2, 6] (e := .normal) (vals := [(.sl idL 11 0 l.length l.length exL), (.sl idS 1 0 l.length l.length exS), (.int .i64 (n : Int)), (.bool false)]) (h' := H) [] ⟨by simp [a18], by simp [getX_eq]⟩ (fun t0 => by kernel_rfl) trivial).mono ?_)
 rintro e' s' ⟨rfl, t0, lo0, rfl, hl1⟩
 refine Wp.seq ((path4 (nt := 129) [.f (.agg (enR s.r)), .w (.ptr (List.length H) 0) (ap H [(.int .i64 0), (.int .i64 0), (.int .i64 0), (.int .i64 0), .nils, (.int .i64 0), (.int .i64 0), (.str []), (.str []), .nils, .nils]) none, .w (.tup []) (ap H (enR s.r)) (some (List.length H))] [0, 1, 2, 6, 7] (e := .normal) (vals := [(.sl idL 11 0 l.length l.length exL), (.sl idS 1 0 l.length l.length exS), (.int .i64 (n : Int)), (.bool false), (.ptr (List.length H) 0)]) (h' := (ap H (enR s.r))) [11 = 11, 0 ≤ (n : Int), (n : Int) < ((l.length : Nat) : Int), pOp evC H (.load (some 11) (.c (.ptr idL (0 + (Int.toNat (n : Int)) * 11)))) = some (.agg (enR s.r)), wOp evC H (.alloc [(.int .i64 0), (.int .i64 0), (.int .i64 0), (.int .i64 0), .nils, (.int .i64 0), (.int .i64 0), (.str []), (.str []), .nils, .nils]) = some ((.ptr (List.length H) 0), (ap H [(.int .i64 0), (.int .i64 0), (.int .i64 0), (.int .i64 0), .nils, (.int .i64 0), (.int .i64 0), (.str []), (.str []), .nils, .nils]), none), wOp evC (ap H [(.int .i64 0), (.int .i64 0), (.int .i64 0), (.int .i64 0), .nils, (.int .i64 0), (.int .i64 0), (.str []), (.str []), .nils, .nils]) (.store 11 (.c (.ptr (List.length H) 0)) (.c (.agg (enR s.r)))) = some ((.tup []), (ap H (enR s.r)), (some (List.length H)))] hl1 (fun t0 => by kernel_rfl) ⟨rfl, (by omega), (by omega), (ldEl0 fL hget (by kernel_rfl)), rfl, (stLast (by kernel_rfl) (by kernel_rfl) hr.all'), trivial⟩).mono ?_)
 rintro e' s' ⟨rfl, t1, lo1, rfl, hl⟩
 have hU : Up H (ap H (enR s.r)) := Up.app _ _
 have fB : (ap H (enR s.r))[H.length]? = some (.cells (enR s.r)) := gl
 clear fL hl1
 generalize H.length = B at hl fB
 generalize ap H (enR s.r) = G at hl fB hU
 have fL := (ht.up hU).L
 have fS := (ht.up hU).S
 have key : ∀ (t : List AV) (lo : Option Nat), Lv 129 [(0, (.sl idL 11 0 l.length l.length exL)), (1, (.sl idS 1 0 l.length l.length exS)), (2, (.int .i64 (n : Int))), (6, (.bool false)), (7, (.ptr B 0))] t → lastOf (l.take n) < s.st → Wp Γ T (tl (tl (tl a18.body))) { t := t, h := G, lo := lo } fun e' s' => (∀ i, e' ≠ .exit i) ∧ ∃ vs, resAll s' a18.res = some vs ∧ packRes vs = .bool (hangsB (l.take n) s) ∧ Up H s'.h := by
  clear hl
  intro t lo hl hst
  have hB : hangsB (l.take n) s = if isOwn s.r = true then (if s.r.deal ≤ 0 then false else dealB (own (l.take n) s.r.deal) s.r) else
    if (s.r.k ≠ 5 ∧ s.r.k ≠ 6) ∨ s.r.deal ≠ 0 ∨ s.r.prev ≠ 0 ∨ s.r.next ≠ 0 then false else if s.r.k = 5 then true else markB (l.take n) s.r.op := by
   unfold hangsB
   rw [if_neg (by omega)]
  by_cases hk5 : s.r.k = 5
  ·have ho : isOwn s.r = false := by unfold isOwn; rw [hk5]; rfl
   rw [if_neg (by simp [ho])] at hB
   by_cases hd : s.r.deal = 0
   ·by_cases hp : s.r.prev = 0
    ·by_cases hn : s.r.next = 0
     ·rw [if_neg (by omega), if_pos hk5] at hB
      refine (path4 (nt := 129) [.f (.int .i64 s.r.k), .b true, .f (.int .i64 s.r.deal), .b true, .f (.int .i64 s.r.prev), .b true, .f (.int .i64 s.r.next), .b true, .f (.int .i64 s.r.k), .b true] [6] (e := .ret) (vals := [(.bool true)]) (h' := G) [pOp evC G (.load none (.c (.ptr B 0))) = some (.int .i64 s.r.k), cB (s.r.k == 5) true, pOp evC G (.load none (.c (.ptr B 1))) = some (.int .i64 s.r.deal), cB (s.r.deal == 0) true, pOp evC G (.load none (.c (.ptr B 2))) = some (.int .i64 s.r.prev), cB (s.r.prev == 0) true, pOp evC G (.load none (.c (.ptr B 3))) = some (.int .i64 s.r.next), cB (s.r.next == 0) true, pOp evC G (.load none (.c (.ptr B 0))) = some (.int .i64 s.r.k), cB (s.r.k == 5) true] hl (fun t0 => by kernel_rfl) ⟨(ldC fB (by kernel_rfl)), (cE hk5), (ldC fB (by kernel_rfl)), (cE hd), (ldC fB (by kernel_rfl)), (cE hp), (ldC fB (by kernel_rfl)), (cE hn), (ldC fB (by kernel_rfl)), (cE hk5), trivial⟩).mono ?_
      rintro e' s' ⟨rfl, t4, lo4, rfl, hl4⟩
      exact fin t4 _ lo4 hU (by rw [hB]; exact hl4.get (6, _) (List.mem_singleton.2 rfl))
     ·rw [if_pos (by omega)] at hB
      refine (path4 (nt := 129) [.f (.int .i64 s.r.k), .b true, .f (.int .i64 s.r.deal), .b true, .f (.int .i64 s.r.prev), .b true, .f (.int .i64 s.r.next), .b false] [6] (e := .ret) (vals := [(.bool false)]) (h' := G) [pOp evC G (.load none (.c (.ptr B 0))) = some (.int .i64 s.r.k), cB (s.r.k == 5) true, pOp evC G (.load none (.c (.ptr B 1))) = some (.int .i64 s.r.deal), cB (s.r.deal == 0) true, pOp evC G (.load none (.c (.ptr B 2))) = some (.int .i64 s.r.prev), cB (s.r.prev == 0) true, pOp evC G (.load none (.c (.ptr B 3))) = some (.int .i64 s.r.next), cB (s.r.next == 0) false] hl (fun t0 => by kernel_rfl) ⟨(ldC fB (by kernel_rfl)), (cE hk5), (ldC fB (by kernel_rfl)), (cE hd), (ldC fB (by kernel_rfl)), (cE hp), (ldC fB (by kernel_rfl)), (cN hn), trivial⟩).mono ?_
      rintro e' s' ⟨rfl, t4, lo4, rfl, hl4⟩
      exact fin t4 _ lo4 hU (by rw [hB]; exact hl4.get (6, _) (List.mem_singleton.2 rfl))
    ·rw [if_pos (by omega)] at hB
     refine (path4 (nt := 129) [.f (.int .i64 s.r.k), .b true, .f (.int .i64 s.r.deal), .b true, .f (.int .i64 s.r.prev), .b false] [6] (e := .ret) (vals := [(.bool false)]) (h' := G) [pOp evC G (.load none (.c (.ptr B 0))) = some (.int .i64 s.r.k), cB (s.r.k == 5) true, pOp evC G (.load none (.c (.ptr B 1))) = some (.int .i64 s.r.deal), cB (s.r.deal == 0) true, pOp evC G (.load none (.c (.ptr B 2))) = some (.int .i64 s.r.prev), cB (s.r.prev == 0) false] hl (fun t0 => by kernel_rfl) ⟨(ldC fB (by kernel_rfl)), (cE hk5), (ldC fB (by kernel_rfl)), (cE hd), (ldC fB (by kernel_rfl)), (cN hp), trivial⟩).mono ?_
     rintro e' s' ⟨rfl, t4, lo4, rfl, hl4⟩
     exact fin t4 _ lo4 hU (by rw [hB]; exact hl4.get (6, _) (List.mem_singleton.2 rfl))
   ·rw [if_pos (by omega)] at hB
    refine (path4 (nt := 129) [.f (.int .i64 s.r.k), .b true, .f (.int .i64 s.r.deal), .b false] [6] (e := .ret) (vals := [(.bool false)]) (h' := G) [pOp evC G (.load none (.c (.ptr B 0))) = some (.int .i64 s.r.k), cB (s.r.k == 5) true, pOp evC G (.load none (.c (.ptr B 1))) = some (.int .i64 s.r.deal), cB (s.r.deal == 0) false] hl (fun t0 => by kernel_rfl) ⟨(ldC fB (by kernel_rfl)), (cE hk5), (ldC fB (by kernel_rfl)), (cN hd), trivial⟩).mono ?_
    rintro e' s' ⟨rfl, t4, lo4, rfl, hl4⟩
    exact fin t4 _ lo4 hU (by rw [hB]; exact hl4.get (6, _) (List.mem_singleton.2 rfl))
  by_cases hk6 : s.r.k = 6
  ·have ho : isOwn s.r = false := by unfold isOwn; rw [hk6]; rfl
   rw [if_neg (by simp [ho])] at hB
   by_cases hd : s.r.deal = 0
   ·by_cases hp : s.r.prev = 0
    ·by_cases hn : s.r.next = 0
     ·rw [if_neg (by omega), if_neg hk5] at hB
      obtain ⟨G2, lo2, hc2, hU2⟩ := rmark_cl u (exL := exL) (exS := exS) (ht.up hU) hx hl1000 hg hf hr hop
      generalize markB (l.take n) s.r.op = v at hc2 hB
      refine (path4 (nt := 129) [.f (.int .i64 s.r.k), .b false, .f (.int .i64 s.r.k), .b true, .f (.int .i64 s.r.deal), .b true, .f (.int .i64 s.r.prev), .b true, .f (.int .i64 s.r.next), .b true, .f (.int .i64 s.r.k), .b false, .r (.bool v) G2 lo2] [6] (e := .ret) (vals := [(.bool v)]) (h' := G2) [pOp evC G (.load none (.c (.ptr B 0))) = some (.int .i64 s.r.k), cB (s.r.k == 5) false, pOp evC G (.load none (.c (.ptr B 0))) = some (.int .i64 s.r.k), cB (s.r.k == 6) true, pOp evC G (.load none (.c (.ptr B 1))) = some (.int .i64 s.r.deal), cB (s.r.deal == 0) true, pOp evC G (.load none (.c (.ptr B 2))) = some (.int .i64 s.r.prev), cB (s.r.prev == 0) true, pOp evC G (.load none (.c (.ptr B 3))) = some (.int .i64 s.r.next), cB (s.r.next == 0) true, pOp evC G (.load none (.c (.ptr B 0))) = some (.int .i64 s.r.k), cB (s.r.k == 5) false, Cl Γ T 27 [(.sl idL 11 0 l.length l.length exL), (.sl idS 1 0 l.length l.length exS), (.int .i64 (n : Int))] G ((.bool v), G2, lo2)] hl (fun t0 => by kernel_rfl) ⟨(ldC fB (by kernel_rfl)), (cN hk5), (ldC fB (by kernel_rfl)), (cE hk6), (ldC fB (by kernel_rfl)), (cE hd), (ldC fB (by kernel_rfl)), (cE hp), (ldC fB (by kernel_rfl)), (cE hn), (ldC fB (by kernel_rfl)), (cN hk5), hc2, trivial⟩).mono ?_
      rintro e' s' ⟨rfl, t4, lo4, rfl, hl4⟩
      exact fin t4 _ lo4 (hU.trans hU2) (by rw [hB]; exact hl4.get (6, _) (List.mem_singleton.2 rfl))
     ·rw [if_pos (by omega)] at hB
      refine (path4 (nt := 129) [.f (.int .i64 s.r.k), .b false, .f (.int .i64 s.r.k), .b true, .f (.int .i64 s.r.deal), .b true, .f (.int .i64 s.r.prev), .b true, .f (.int .i64 s.r.next), .b false] [6] (e := .ret) (vals := [(.bool false)]) (h' := G) [pOp evC G (.load none (.c (.ptr B 0))) = some (.int .i64 s.r.k), cB (s.r.k == 5) false, pOp evC G (.load none (.c (.ptr B 0))) = some (.int .i64 s.r.k), cB (s.r.k == 6) true, pOp evC G (.load none (.c (.ptr B 1))) = some (.int .i64 s.r.deal), cB (s.r.deal == 0) true, pOp evC G (.load none (.c (.ptr B 2))) = some (.int .i64 s.r.prev), cB (s.r.prev == 0) true, pOp evC G (.load none (.c (.ptr B 3))) = some (.int .i64 s.r.next), cB (s.r.next == 0) false] hl (fun t0 => by kernel_rfl) ⟨(ldC fB (by kernel_rfl)), (cN hk5), (ldC fB (by kernel_rfl)), (cE hk6), (ldC fB (by kernel_rfl)), (cE hd), (ldC fB (by kernel_rfl)), (cE hp), (ldC fB (by kernel_rfl)), (cN hn), trivial⟩).mono ?_
      rintro e' s' ⟨rfl, t4, lo4, rfl, hl4⟩
      exact fin t4 _ lo4 hU (by rw [hB]; exact hl4.get (6, _) (List.mem_singleton.2 rfl))
    ·rw [if_pos (by omega)] at hB
     refine (path4 (nt := 129) [.f (.int .i64 s.r.k), .b false, .f (.int .i64 s.r.k), .b true, .f (.int .i64 s.r.deal), .b true, .f (.int .i64 s.r.prev), .b false] [6] (e := .ret) (vals := [(.bool false)]) (h' := G) [pOp evC G (.load none (.c (.ptr B 0))) = some (.int .i64 s.r.k), cB (s.r.k == 5) false, pOp evC G (.load none (.c (.ptr B 0))) = some (.int .i64 s.r.k), cB (s.r.k == 6) true, pOp evC G (.load none (.c (.ptr B 1))) = some (.int .i64 s.r.deal), cB (s.r.deal == 0) true, pOp evC G (.load none (.c (.ptr B 2))) = some (.int .i64 s.r.prev), cB (s.r.prev == 0) false] hl (fun t0 => by kernel_rfl) ⟨(ldC fB (by kernel_rfl)), (cN hk5), (ldC fB (by kernel_rfl)), (cE hk6), (ldC fB (by kernel_rfl)), (cE hd), (ldC fB (by kernel_rfl)), (cN hp), trivial⟩).mono ?_
     rintro e' s' ⟨rfl, t4, lo4, rfl, hl4⟩
     exact fin t4 _ lo4 hU (by rw [hB]; exact hl4.get (6, _) (List.mem_singleton.2 rfl))
   ·rw [if_pos (by omega)] at hB
    refine (path4 (nt := 129) [.f (.int .i64 s.r.k), .b false, .f (.int .i64 s.r.k), .b true, .f (.int .i64 s.r.deal), .b false] [6] (e := .ret) (vals := [(.bool false)]) (h' := G) [pOp evC G (.load none (.c (.ptr B 0))) = some (.int .i64 s.r.k), cB (s.r.k == 5) false, pOp evC G (.load none (.c (.ptr B 0))) = some (.int .i64 s.r.k), cB (s.r.k == 6) true, pOp evC G (.load none (.c (.ptr B 1))) = some (.int .i64 s.r.deal), cB (s.r.deal == 0) false] hl (fun t0 => by kernel_rfl) ⟨(ldC fB (by kernel_rfl)), (cN hk5), (ldC fB (by kernel_rfl)), (cE hk6), (ldC fB (by kernel_rfl)), (cN hd), trivial⟩).mono ?_
    rintro e' s' ⟨rfl, t4, lo4, rfl, hl4⟩
    exact fin t4 _ lo4 hU (by rw [hB]; exact hl4.get (6, _) (List.mem_singleton.2 rfl))
  obtain ⟨lo1, hco⟩ := own_cl u s.r G
  have hU1 : Up H (ap G (enR s.r)) := hU.trans (Up.app _ _)
  cases ho : isOwn s.r with
  | false =>
   rw [ho] at hco
   rw [if_neg (by simp [ho]), if_pos (by omega)] at hB
   refine (path4 (nt := 129) [.f (.int .i64 s.r.k), .b false, .f (.int .i64 s.r.k), .b false, .f (.agg (enR s.r)), .r (.bool false) (ap G (enR s.r)) lo1] [6] (e := .ret) (vals := [(.bool false)]) (h' := (ap G (enR s.r))) [pOp evC G (.load none (.c (.ptr B 0))) = some (.int .i64 s.r.k), cB (s.r.k == 5) false, pOp evC G (.load none (.c (.ptr B 0))) = some (.int .i64 s.r.k), cB (s.r.k == 6) false, pOp evC G (.load (some 11) (.c (.ptr B 0))) = some (.agg (enR s.r)), Cl Γ T 15 [(.agg (enR s.r))] G ((.bool false), (ap G (enR s.r)), lo1)] hl (fun t0 => by kernel_rfl) ⟨(ldC fB (by kernel_rfl)), (cN hk5), (ldC fB (by kernel_rfl)), (cN hk6), (ldC fB (by kernel_rfl)), hco, trivial⟩).mono ?_
   rintro e' s' ⟨rfl, t4, lo4, rfl, hl4⟩
   exact fin t4 _ lo4 hU1 (by rw [hB]; exact hl4.get (6, _) (List.mem_singleton.2 rfl))
  | true =>
   rw [ho] at hco
   rw [if_pos ho] at hB
   by_cases hd0 : s.r.deal ≤ 0
   ·rw [if_pos hd0] at hB
    refine (path4 (nt := 129) [.f (.int .i64 s.r.k), .b false, .f (.int .i64 s.r.k), .b false, .f (.agg (enR s.r)), .r (.bool true) (ap G (enR s.r)) lo1, .f (.int .i64 s.r.deal), .b true] [6] (e := .ret) (vals := [(.bool false)]) (h' := (ap G (enR s.r))) [pOp evC G (.load none (.c (.ptr B 0))) = some (.int .i64 s.r.k), cB (s.r.k == 5) false, pOp evC G (.load none (.c (.ptr B 0))) = some (.int .i64 s.r.k), cB (s.r.k == 6) false, pOp evC G (.load (some 11) (.c (.ptr B 0))) = some (.agg (enR s.r)), Cl Γ T 15 [(.agg (enR s.r))] G ((.bool true), (ap G (enR s.r)), lo1), pOp evC (ap G (enR s.r)) (.load none (.c (.ptr B 1))) = some (.int .i64 s.r.deal), cB (decide (s.r.deal ≤ 0)) true] hl (fun t0 => by kernel_rfl) ⟨(ldC fB (by kernel_rfl)), (cN hk5), (ldC fB (by kernel_rfl)), (cN hk6), (ldC fB (by kernel_rfl)), hco, (ldC (ga fB) (by kernel_rfl)), (cT hd0), trivial⟩).mono ?_
    rintro e' s' ⟨rfl, t4, lo4, rfl, hl4⟩
    exact fin t4 _ lo4 hU1 (by rw [hB]; exact hl4.get (6, _) (List.mem_singleton.2 rfl))
   rw [if_neg hd0] at hB
   obtain ⟨G2, lo2, pl, hc2, hU12, hpl⟩ := st_cl u (exL := exL) (exS := exS) (ht.up hU1) (by omega : n ≤ l.length) hl1000 hg hf s.r.deal
   have hU2 := hU1.trans hU12
   have fL2 := (ht.up hU2).L
   have fS2 := (ht.up hU2).S
   have fB2 := hU12.2 _ _ (ga (b := .cells (enR s.r)) fB)
   generalize own (l.take n) s.r.deal = F at hB hc2 hpl
   cases hE : endOf F with
   | true =>
    rw [hE] at hc2
    have hD : dealB F s.r = false := by unfold dealB; rw [hE, if_pos rfl]
    rw [hD] at hB
    refine (path4 (nt := 129) [.f (.int .i64 s.r.k), .b false, .f (.int .i64 s.r.k), .b false, .f (.agg (enR s.r)), .r (.bool true) (ap G (enR s.r)) lo1, .f (.int .i64 s.r.deal), .b false, .f (.int .i64 s.r.deal), .r (.tup [(.int .i64 (lastOf F)), (.bool true), (.int .i64 pl)]) G2 lo2] [6] (e := .ret) (vals := [(.bool false)]) (h' := G2) [pOp evC G (.load none (.c (.ptr B 0))) = some (.int .i64 s.r.k), cB (s.r.k == 5) false, pOp evC G (.load none (.c (.ptr B 0))) = some (.int .i64 s.r.k), cB (s.r.k == 6) false, pOp evC G (.load (some 11) (.c (.ptr B 0))) = some (.agg (enR s.r)), Cl Γ T 15 [(.agg (enR s.r))] G ((.bool true), (ap G (enR s.r)), lo1), pOp evC (ap G (enR s.r)) (.load none (.c (.ptr B 1))) = some (.int .i64 s.r.deal), cB (decide (s.r.deal ≤ 0)) false, pOp evC (ap G (enR s.r)) (.load none (.c (.ptr B 1))) = some (.int .i64 s.r.deal), Cl Γ T 28 [(.sl idL 11 0 l.length l.length exL), (.sl idS 1 0 l.length l.length exS), (.int .i64 (n : Int)), (.int .i64 s.r.deal)] (ap G (enR s.r)) ((.tup [(.int .i64 (lastOf F)), (.bool true), (.int .i64 pl)]), G2, lo2)] hl (fun t0 => by kernel_rfl) ⟨(ldC fB (by kernel_rfl)), (cN hk5), (ldC fB (by kernel_rfl)), (cN hk6), (ldC fB (by kernel_rfl)), hco, (ldC (ga fB) (by kernel_rfl)), (cF hd0), (ldC (ga fB) (by kernel_rfl)), hc2, trivial⟩).mono ?_
    rintro e' s' ⟨rfl, t4, lo4, rfl, hl4⟩
    exact fin t4 _ lo4 hU2 (by rw [hB]; exact hl4.get (6, _) (List.mem_singleton.2 rfl))
   | false =>
    rw [hE] at hc2
    by_cases hpv : s.r.prev = lastOf F
    case neg =>
     have hD : dealB F s.r = false := by unfold dealB; rw [hE, if_neg (by decide), if_pos hpv]
     rw [hD] at hB
     refine (path4 (nt := 129) [.f (.int .i64 s.r.k), .b false, .f (.int .i64 s.r.k), .b false, .f (.agg (enR s.r)), .r (.bool true) (ap G (enR s.r)) lo1, .f (.int .i64 s.r.deal), .b false, .f (.int .i64 s.r.deal), .r (.tup [(.int .i64 (lastOf F)), (.bool false), (.int .i64 pl)]) G2 lo2, .f (.int .i64 s.r.prev), .b true] [6] (e := .ret) (vals := [(.bool false)]) (h' := G2) [pOp evC G (.load none (.c (.ptr B 0))) = some (.int .i64 s.r.k), cB (s.r.k == 5) false, pOp evC G (.load none (.c (.ptr B 0))) = some (.int .i64 s.r.k), cB (s.r.k == 6) false, pOp evC G (.load (some 11) (.c (.ptr B 0))) = some (.agg (enR s.r)), Cl Γ T 15 [(.agg (enR s.r))] G ((.bool true), (ap G (enR s.r)), lo1), pOp evC (ap G (enR s.r)) (.load none (.c (.ptr B 1))) = some (.int .i64 s.r.deal), cB (decide (s.r.deal ≤ 0)) false, pOp evC (ap G (enR s.r)) (.load none (.c (.ptr B 1))) = some (.int .i64 s.r.deal), Cl Γ T 28 [(.sl idL 11 0 l.length l.length exL), (.sl idS 1 0 l.length l.length exS), (.int .i64 (n : Int)), (.int .i64 s.r.deal)] (ap G (enR s.r)) ((.tup [(.int .i64 (lastOf F)), (.bool false), (.int .i64 pl)]), G2, lo2), pOp evC G2 (.load none (.c (.ptr B 2))) = some (.int .i64 s.r.prev), cB (s.r.prev != (lastOf F)) true] hl (fun t0 => by kernel_rfl) ⟨(ldC fB (by kernel_rfl)), (cN hk5), (ldC fB (by kernel_rfl)), (cN hk6), (ldC fB (by kernel_rfl)), hco, (ldC (ga fB) (by kernel_rfl)), (cF hd0), (ldC (ga fB) (by kernel_rfl)), hc2, (ldC fB2 (by kernel_rfl)), (cD hpv), trivial⟩).mono ?_
     rintro e' s' ⟨rfl, t4, lo4, rfl, hl4⟩
     exact fin t4 _ lo4 hU2 (by rw [hB]; exact hl4.get (6, _) (List.mem_singleton.2 rfl))
    by_cases hC : s.r.k ≠ 2 ∧ s.r.next ≠ 0
    ·have hD : dealB F s.r = false := by unfold dealB; rw [hE, if_neg (by decide), if_neg (fun h => h hpv), if_pos hC]
     rw [hD] at hB
     refine (path4 (nt := 129) [.f (.int .i64 s.r.k), .b false, .f (.int .i64 s.r.k), .b false, .f (.agg (enR s.r)), .r (.bool true) (ap G (enR s.r)) lo1, .f (.int .i64 s.r.deal), .b false, .f (.int .i64 s.r.deal), .r (.tup [(.int .i64 (lastOf F)), (.bool false), (.int .i64 pl)]) G2 lo2, .f (.int .i64 s.r.prev), .b false, .f (.int .i64 s.r.k), .b true, .f (.int .i64 s.r.next), .b true] [6] (e := .ret) (vals := [(.bool false)]) (h' := G2) [pOp evC G (.load none (.c (.ptr B 0))) = some (.int .i64 s.r.k), cB (s.r.k == 5) false, pOp evC G (.load none (.c (.ptr B 0))) = some (.int .i64 s.r.k), cB (s.r.k == 6) false, pOp evC G (.load (some 11) (.c (.ptr B 0))) = some (.agg (enR s.r)), Cl Γ T 15 [(.agg (enR s.r))] G ((.bool true), (ap G (enR s.r)), lo1), pOp evC (ap G (enR s.r)) (.load none (.c (.ptr B 1))) = some (.int .i64 s.r.deal), cB (decide (s.r.deal ≤ 0)) false, pOp evC (ap G (enR s.r)) (.load none (.c (.ptr B 1))) = some (.int .i64 s.r.deal), Cl Γ T 28 [(.sl idL 11 0 l.length l.length exL), (.sl idS 1 0 l.length l.length exS), (.int .i64 (n : Int)), (.int .i64 s.r.deal)] (ap G (enR s.r)) ((.tup [(.int .i64 (lastOf F)), (.bool false), (.int .i64 pl)]), G2, lo2), pOp evC G2 (.load none (.c (.ptr B 2))) = some (.int .i64 s.r.prev), cB (s.r.prev != (lastOf F)) false, pOp evC G2 (.load none (.c (.ptr B 0))) = some (.int .i64 s.r.k), cB (s.r.k != 2) true, pOp evC G2 (.load none (.c (.ptr B 3))) = some (.int .i64 s.r.next), cB (s.r.next != 0) true] hl (fun t0 => by kernel_rfl) ⟨(ldC fB (by kernel_rfl)), (cN hk5), (ldC fB (by kernel_rfl)), (cN hk6), (ldC fB (by kernel_rfl)), hco, (ldC (ga fB) (by kernel_rfl)), (cF hd0), (ldC (ga fB) (by kernel_rfl)), hc2, (ldC fB2 (by kernel_rfl)), (cS hpv), (ldC fB2 (by kernel_rfl)), (cD hC.1), (ldC fB2 (by kernel_rfl)), (cD hC.2), trivial⟩).mono ?_
     rintro e' s' ⟨rfl, t4, lo4, rfl, hl4⟩
     exact fin t4 _ lo4 hU2 (by rw [hB]; exact hl4.get (6, _) (List.mem_singleton.2 rfl))
    have hD : dealB F s.r = if s.r.k = 1 then decide (s.r.uk ≠ 0) else if s.r.k = 2 then undoB (nextOf F) s.r else if s.r.k = 4 then (nextOf F).isNone else true := by
     unfold dealB; rw [hE, if_neg (by decide), if_neg (fun h => h hpv), if_neg hC]
    rw [hD] at hB
    by_cases hk2 : s.r.k = 2
    ·have hk1 : ¬ s.r.k = 1 := by omega
     rw [if_neg hk1, if_pos hk2] at hB
     rcases hpl with ⟨ho2, rfl⟩ | ⟨j, w, rfl, hjn, hxw, ho2⟩
     ·rw [ho2] at hB
      change hangsB (l.take n) s = false at hB
      refine (path4 (nt := 129) [.f (.int .i64 s.r.k), .b false, .f (.int .i64 s.r.k), .b false, .f (.agg (enR s.r)), .r (.bool true) (ap G (enR s.r)) lo1, .f (.int .i64 s.r.deal), .b false, .f (.int .i64 s.r.deal), .r (.tup [(.int .i64 (lastOf F)), (.bool false), (.int .i64 (-1))]) G2 lo2, .f (.int .i64 s.r.prev), .b false, .f (.int .i64 s.r.k), .b false, .f (.int .i64 s.r.k), .b false, .b true, .b false] [6] (e := .ret) (vals := [(.bool false)]) (h' := G2) [pOp evC G (.load none (.c (.ptr B 0))) = some (.int .i64 s.r.k), cB (s.r.k == 5) false, pOp evC G (.load none (.c (.ptr B 0))) = some (.int .i64 s.r.k), cB (s.r.k == 6) false, pOp evC G (.load (some 11) (.c (.ptr B 0))) = some (.agg (enR s.r)), Cl Γ T 15 [(.agg (enR s.r))] G ((.bool true), (ap G (enR s.r)), lo1), pOp evC (ap G (enR s.r)) (.load none (.c (.ptr B 1))) = some (.int .i64 s.r.deal), cB (decide (s.r.deal ≤ 0)) false, pOp evC (ap G (enR s.r)) (.load none (.c (.ptr B 1))) = some (.int .i64 s.r.deal), Cl Γ T 28 [(.sl idL 11 0 l.length l.length exL), (.sl idS 1 0 l.length l.length exS), (.int .i64 (n : Int)), (.int .i64 s.r.deal)] (ap G (enR s.r)) ((.tup [(.int .i64 (lastOf F)), (.bool false), (.int .i64 (-1))]), G2, lo2), pOp evC G2 (.load none (.c (.ptr B 2))) = some (.int .i64 s.r.prev), cB (s.r.prev != (lastOf F)) false, pOp evC G2 (.load none (.c (.ptr B 0))) = some (.int .i64 s.r.k), cB (s.r.k != 2) false, pOp evC G2 (.load none (.c (.ptr B 0))) = some (.int .i64 s.r.k), cB (s.r.k == 1) false, cB (s.r.k == 2) true, cB (decide ((-1) ≥ 0)) false] hl (fun t0 => by kernel_rfl) ⟨(ldC fB (by kernel_rfl)), (cN hk5), (ldC fB (by kernel_rfl)), (cN hk6), (ldC fB (by kernel_rfl)), hco, (ldC (ga fB) (by kernel_rfl)), (cF hd0), (ldC (ga fB) (by kernel_rfl)), hc2, (ldC fB2 (by kernel_rfl)), (cS hpv), (ldC fB2 (by kernel_rfl)), (cS hk2), (ldC fB2 (by kernel_rfl)), (cN hk1), (cE hk2), rfl, trivial⟩).mono ?_
      rintro e' s' ⟨rfl, t4, lo4, rfl, hl4⟩
      exact fin t4 _ lo4 hU2 (by rw [hB]; exact hl4.get (6, _) (List.mem_singleton.2 rfl))
     ·rw [ho2] at hB
      change hangsB (l.take n) s = (s.r.next == w.r.prev) at hB
      have hgw : (l.map fun s => enR s.r)[j]? = some (enR w.r) := by rw [List.getElem?_map, hxw]; rfl
      have hj0 : (j : Int) ≥ 0 := by omega
      have hjl : j < l.length := by omega
      refine (path4 (nt := 129) [.f (.int .i64 s.r.k), .b false, .f (.int .i64 s.r.k), .b false, .f (.agg (enR s.r)), .r (.bool true) (ap G (enR s.r)) lo1, .f (.int .i64 s.r.deal), .b false, .f (.int .i64 s.r.deal), .r (.tup [(.int .i64 (lastOf F)), (.bool false), (.int .i64 (j : Int))]) G2 lo2, .f (.int .i64 s.r.prev), .b false, .f (.int .i64 s.r.k), .b false, .f (.int .i64 s.r.k), .b false, .b true, .b true, .f (.int .i64 s.r.next), .f (.int .i64 w.r.prev)] [6] (e := .ret) (vals := [(.bool (s.r.next == w.r.prev))]) (h' := G2) [pOp evC G (.load none (.c (.ptr B 0))) = some (.int .i64 s.r.k), cB (s.r.k == 5) false, pOp evC G (.load none (.c (.ptr B 0))) = some (.int .i64 s.r.k), cB (s.r.k == 6) false, pOp evC G (.load (some 11) (.c (.ptr B 0))) = some (.agg (enR s.r)), Cl Γ T 15 [(.agg (enR s.r))] G ((.bool true), (ap G (enR s.r)), lo1), pOp evC (ap G (enR s.r)) (.load none (.c (.ptr B 1))) = some (.int .i64 s.r.deal), cB (decide (s.r.deal ≤ 0)) false, pOp evC (ap G (enR s.r)) (.load none (.c (.ptr B 1))) = some (.int .i64 s.r.deal), Cl Γ T 28 [(.sl idL 11 0 l.length l.length exL), (.sl idS 1 0 l.length l.length exS), (.int .i64 (n : Int)), (.int .i64 s.r.deal)] (ap G (enR s.r)) ((.tup [(.int .i64 (lastOf F)), (.bool false), (.int .i64 (j : Int))]), G2, lo2), pOp evC G2 (.load none (.c (.ptr B 2))) = some (.int .i64 s.r.prev), cB (s.r.prev != (lastOf F)) false, pOp evC G2 (.load none (.c (.ptr B 0))) = some (.int .i64 s.r.k), cB (s.r.k != 2) false, pOp evC G2 (.load none (.c (.ptr B 0))) = some (.int .i64 s.r.k), cB (s.r.k == 1) false, cB (s.r.k == 2) true, cB (decide ((j : Int) ≥ 0)) true, pOp evC G2 (.load none (.c (.ptr B 3))) = some (.int .i64 s.r.next), 11 = 11, 0 ≤ (j : Int), (j : Int) < ((l.length : Nat) : Int), pOp evC G2 (.load none (.c (.ptr idL ((0 + (Int.toNat (j : Int)) * 11) + 2)))) = some (.int .i64 w.r.prev)] hl (fun t0 => by kernel_rfl) ⟨(ldC fB (by kernel_rfl)), (cN hk5), (ldC fB (by kernel_rfl)), (cN hk6), (ldC fB (by kernel_rfl)), hco, (ldC (ga fB) (by kernel_rfl)), (cF hd0), (ldC (ga fB) (by kernel_rfl)), hc2, (ldC fB2 (by kernel_rfl)), (cS hpv), (ldC fB2 (by kernel_rfl)), (cS hk2), (ldC fB2 (by kernel_rfl)), (cN hk1), (cE hk2), (cT hj0), (ldC fB2 (by kernel_rfl)), rfl, (by omega), (by omega), (ldEl fL2 hgw (by kernel_rfl)), trivial⟩).mono ?_
      rintro e' s' ⟨rfl, t4, lo4, rfl, hl4⟩
      exact fin t4 _ lo4 hU2 (by rw [hB]; exact hl4.get (6, _) (List.mem_singleton.2 rfl))
    ·have hn0 : s.r.next = 0 := Classical.byContradiction fun hn => hC ⟨hk2, hn⟩
     by_cases hk1 : s.r.k = 1
     ·rw [if_pos hk1, show (decide (s.r.uk ≠ 0)) = (s.r.uk != 0) by by_cases h : s.r.uk = 0 <;> simp [h]] at hB
      refine (path4 (nt := 129) [.f (.int .i64 s.r.k), .b false, .f (.int .i64 s.r.k), .b false, .f (.agg (enR s.r)), .r (.bool true) (ap G (enR s.r)) lo1, .f (.int .i64 s.r.deal), .b false, .f (.int .i64 s.r.deal), .r (.tup [(.int .i64 (lastOf F)), (.bool false), (.int .i64 pl)]) G2 lo2, .f (.int .i64 s.r.prev), .b false, .f (.int .i64 s.r.k), .b true, .f (.int .i64 s.r.next), .b false, .f (.int .i64 s.r.k), .b true, .f (.int .i64 s.r.uk)] [6] (e := .ret) (vals := [(.bool (s.r.uk != 0))]) (h' := G2) [pOp evC G (.load none (.c (.ptr B 0))) = some (.int .i64 s.r.k), cB (s.r.k == 5) false, pOp evC G (.load none (.c (.ptr B 0))) = some (.int .i64 s.r.k), cB (s.r.k == 6) false, pOp evC G (.load (some 11) (.c (.ptr B 0))) = some (.agg (enR s.r)), Cl Γ T 15 [(.agg (enR s.r))] G ((.bool true), (ap G (enR s.r)), lo1), pOp evC (ap G (enR s.r)) (.load none (.c (.ptr B 1))) = some (.int .i64 s.r.deal), cB (decide (s.r.deal ≤ 0)) false, pOp evC (ap G (enR s.r)) (.load none (.c (.ptr B 1))) = some (.int .i64 s.r.deal), Cl Γ T 28 [(.sl idL 11 0 l.length l.length exL), (.sl idS 1 0 l.length l.length exS), (.int .i64 (n : Int)), (.int .i64 s.r.deal)] (ap G (enR s.r)) ((.tup [(.int .i64 (lastOf F)), (.bool false), (.int .i64 pl)]), G2, lo2), pOp evC G2 (.load none (.c (.ptr B 2))) = some (.int .i64 s.r.prev), cB (s.r.prev != (lastOf F)) false, pOp evC G2 (.load none (.c (.ptr B 0))) = some (.int .i64 s.r.k), cB (s.r.k != 2) true, pOp evC G2 (.load none (.c (.ptr B 3))) = some (.int .i64 s.r.next), cB (s.r.next != 0) false, pOp evC G2 (.load none (.c (.ptr B 0))) = some (.int .i64 s.r.k), cB (s.r.k == 1) true, pOp evC G2 (.load none (.c (.ptr B 5))) = some (.int .i64 s.r.uk)] hl (fun t0 => by kernel_rfl) ⟨(ldC fB (by kernel_rfl)), (cN hk5), (ldC fB (by kernel_rfl)), (cN hk6), (ldC fB (by kernel_rfl)), hco, (ldC (ga fB) (by kernel_rfl)), (cF hd0), (ldC (ga fB) (by kernel_rfl)), hc2, (ldC fB2 (by kernel_rfl)), (cS hpv), (ldC fB2 (by kernel_rfl)), (cD hk2), (ldC fB2 (by kernel_rfl)), (cS hn0), (ldC fB2 (by kernel_rfl)), (cE hk1), (ldC fB2 (by kernel_rfl)), trivial⟩).mono ?_
      rintro e' s' ⟨rfl, t4, lo4, rfl, hl4⟩
      exact fin t4 _ lo4 hU2 (by rw [hB]; exact hl4.get (6, _) (List.mem_singleton.2 rfl))
     ·rw [if_neg hk1, if_neg hk2] at hB
      by_cases hk4 : s.r.k = 4
      ·rw [if_pos hk4, nextIs hpl] at hB
       refine (path4 (nt := 129) [.f (.int .i64 s.r.k), .b false, .f (.int .i64 s.r.k), .b false, .f (.agg (enR s.r)), .r (.bool true) (ap G (enR s.r)) lo1, .f (.int .i64 s.r.deal), .b false, .f (.int .i64 s.r.deal), .r (.tup [(.int .i64 (lastOf F)), (.bool false), (.int .i64 pl)]) G2 lo2, .f (.int .i64 s.r.prev), .b false, .f (.int .i64 s.r.k), .b true, .f (.int .i64 s.r.next), .b false, .f (.int .i64 s.r.k), .b false, .b false, .b true] [6] (e := .ret) (vals := [(.bool (decide (pl < 0)))]) (h' := G2) [pOp evC G (.load none (.c (.ptr B 0))) = some (.int .i64 s.r.k), cB (s.r.k == 5) false, pOp evC G (.load none (.c (.ptr B 0))) = some (.int .i64 s.r.k), cB (s.r.k == 6) false, pOp evC G (.load (some 11) (.c (.ptr B 0))) = some (.agg (enR s.r)), Cl Γ T 15 [(.agg (enR s.r))] G ((.bool true), (ap G (enR s.r)), lo1), pOp evC (ap G (enR s.r)) (.load none (.c (.ptr B 1))) = some (.int .i64 s.r.deal), cB (decide (s.r.deal ≤ 0)) false, pOp evC (ap G (enR s.r)) (.load none (.c (.ptr B 1))) = some (.int .i64 s.r.deal), Cl Γ T 28 [(.sl idL 11 0 l.length l.length exL), (.sl idS 1 0 l.length l.length exS), (.int .i64 (n : Int)), (.int .i64 s.r.deal)] (ap G (enR s.r)) ((.tup [(.int .i64 (lastOf F)), (.bool false), (.int .i64 pl)]), G2, lo2), pOp evC G2 (.load none (.c (.ptr B 2))) = some (.int .i64 s.r.prev), cB (s.r.prev != (lastOf F)) false, pOp evC G2 (.load none (.c (.ptr B 0))) = some (.int .i64 s.r.k), cB (s.r.k != 2) true, pOp evC G2 (.load none (.c (.ptr B 3))) = some (.int .i64 s.r.next), cB (s.r.next != 0) false, pOp evC G2 (.load none (.c (.ptr B 0))) = some (.int .i64 s.r.k), cB (s.r.k == 1) false, cB (s.r.k == 2) false, cB (s.r.k == 4) true] hl (fun t0 => by kernel_rfl) ⟨(ldC fB (by kernel_rfl)), (cN hk5), (ldC fB (by kernel_rfl)), (cN hk6), (ldC fB (by kernel_rfl)), hco, (ldC (ga fB) (by kernel_rfl)), (cF hd0), (ldC (ga fB) (by kernel_rfl)), hc2, (ldC fB2 (by kernel_rfl)), (cS hpv), (ldC fB2 (by kernel_rfl)), (cD hk2), (ldC fB2 (by kernel_rfl)), (cS hn0), (ldC fB2 (by kernel_rfl)), (cN hk1), (cN hk2), (cE hk4), trivial⟩).mono ?_
       rintro e' s' ⟨rfl, t4, lo4, rfl, hl4⟩
       exact fin t4 _ lo4 hU2 (by rw [hB]; exact hl4.get (6, _) (List.mem_singleton.2 rfl))
      ·rw [if_neg hk4] at hB
       refine (path4 (nt := 129) [.f (.int .i64 s.r.k), .b false, .f (.int .i64 s.r.k), .b false, .f (.agg (enR s.r)), .r (.bool true) (ap G (enR s.r)) lo1, .f (.int .i64 s.r.deal), .b false, .f (.int .i64 s.r.deal), .r (.tup [(.int .i64 (lastOf F)), (.bool false), (.int .i64 pl)]) G2 lo2, .f (.int .i64 s.r.prev), .b false, .f (.int .i64 s.r.k), .b true, .f (.int .i64 s.r.next), .b false, .f (.int .i64 s.r.k), .b false, .b false, .b false] [6] (e := .ret) (vals := [(.bool true)]) (h' := G2) [pOp evC G (.load none (.c (.ptr B 0))) = some (.int .i64 s.r.k), cB (s.r.k == 5) false, pOp evC G (.load none (.c (.ptr B 0))) = some (.int .i64 s.r.k), cB (s.r.k == 6) false, pOp evC G (.load (some 11) (.c (.ptr B 0))) = some (.agg (enR s.r)), Cl Γ T 15 [(.agg (enR s.r))] G ((.bool true), (ap G (enR s.r)), lo1), pOp evC (ap G (enR s.r)) (.load none (.c (.ptr B 1))) = some (.int .i64 s.r.deal), cB (decide (s.r.deal ≤ 0)) false, pOp evC (ap G (enR s.r)) (.load none (.c (.ptr B 1))) = some (.int .i64 s.r.deal), Cl Γ T 28 [(.sl idL 11 0 l.length l.length exL), (.sl idS 1 0 l.length l.length exS), (.int .i64 (n : Int)), (.int .i64 s.r.deal)] (ap G (enR s.r)) ((.tup [(.int .i64 (lastOf F)), (.bool false), (.int .i64 pl)]), G2, lo2), pOp evC G2 (.load none (.c (.ptr B 2))) = some (.int .i64 s.r.prev), cB (s.r.prev != (lastOf F)) false, pOp evC G2 (.load none (.c (.ptr B 0))) = some (.int .i64 s.r.k), cB (s.r.k != 2) true, pOp evC G2 (.load none (.c (.ptr B 3))) = some (.int .i64 s.r.next), cB (s.r.next != 0) false, pOp evC G2 (.load none (.c (.ptr B 0))) = some (.int .i64 s.r.k), cB (s.r.k == 1) false, cB (s.r.k == 2) false, cB (s.r.k == 4) false] hl (fun t0 => by kernel_rfl) ⟨(ldC fB (by kernel_rfl)), (cN hk5), (ldC fB (by kernel_rfl)), (cN hk6), (ldC fB (by kernel_rfl)), hco, (ldC (ga fB) (by kernel_rfl)), (cF hd0), (ldC (ga fB) (by kernel_rfl)), hc2, (ldC fB2 (by kernel_rfl)), (cS hpv), (ldC fB2 (by kernel_rfl)), (cD hk2), (ldC fB2 (by kernel_rfl)), (cS hn0), (ldC fB2 (by kernel_rfl)), (cN hk1), (cN hk2), (cN hk4), trivial⟩).mono ?_
       rintro e' s' ⟨rfl, t4, lo4, rfl, hl4⟩
       exact fin t4 _ lo4 hU2 (by rw [hB]; exact hl4.get (6, _) (List.mem_singleton.2 rfl))
 have hF0 : s.st ≤ lastOf (l.take n) → hangsB (l.take n) s = false := fun h => by unfold hangsB; rw [if_pos h]
 by_cases h1 : s.st < 1
 ·have hB := hF0 (by have := hg.last; omega)
  refine Wp.seq ((path4 (nt := 129) [.f (.int .i64 s.st), .b true] [6] (e := .ret) (vals := [(.bool false)]) (h' := G) [1 = 1, 0 ≤ (n : Int), (n : Int) < ((l.length : Nat) : Int), pOp evC G (.load none (.c (.ptr idS (0 + (Int.toNat (n : Int)) * 1)))) = some (.int .i64 s.st), cB (decide (s.st < 1)) true] hl (fun t0 => by kernel_rfl) ⟨rfl, (by omega), (by omega), (ldEl0 fS hgetS (by kernel_rfl)), (cT h1), trivial⟩).mono ?_)
  rintro e' s' ⟨rfl, t4, lo4, rfl, hl4⟩
  exact fin t4 _ lo4 hU (by rw [hB]; exact hl4.get (6, _) (List.mem_singleton.2 rfl))
 by_cases hn0 : (n : Int) > 0
 ·have hwi : IntKind.i64.wrap ((n : Int) - 1) = ((n - 1 : Nat) : Int) := by rw [IntWalk.i64_in _ (by omega)]; omega
  have hxp := List.getElem?_eq_getElem (show n - 1 < l.length by omega)
  have hlp : lastOf (l.take n) = (l[n - 1]'(by omega)).st := by
   unfold lastOf
   rw [List.getLast?_eq_getElem?, List.length_take, Nat.min_eq_left (by omega), List.getElem?_take_of_lt (by omega), hxp]
  have hgetP : (l.map fun s => [AV.int .i64 s.st])[n - 1]? = some [.int .i64 (l[n - 1]'(by omega)).st] := by rw [List.getElem?_map, hxp]; rfl
  generalize (l[n - 1]'(by omega)) = p at hlp hgetP
  by_cases hps : p.st ≥ s.st
  ·have hB := hF0 (by omega)
   refine Wp.seq ((path4 (nt := 129) [.f (.int .i64 s.st), .b false, .b true, .f (.int .i64 p.st), .f (.int .i64 s.st), .b true] [6] (e := .ret) (vals := [(.bool false)]) (h' := G) [1 = 1, 0 ≤ (n : Int), (n : Int) < ((l.length : Nat) : Int), pOp evC G (.load none (.c (.ptr idS (0 + (Int.toNat (n : Int)) * 1)))) = some (.int .i64 s.st), cB (decide (s.st < 1)) false, cB (decide ((n : Int) > 0)) true, 1 = 1, 0 ≤ (IntKind.i64.wrap ((n : Int) - 1)), (IntKind.i64.wrap ((n : Int) - 1)) < ((l.length : Nat) : Int), pOp evC G (.load none (.c (.ptr idS (0 + (Int.toNat (IntKind.i64.wrap ((n : Int) - 1))) * 1)))) = some (.int .i64 p.st), 1 = 1, 0 ≤ (n : Int), (n : Int) < ((l.length : Nat) : Int), pOp evC G (.load none (.c (.ptr idS (0 + (Int.toNat (n : Int)) * 1)))) = some (.int .i64 s.st), cB (decide (p.st ≥ s.st)) true] hl (fun t0 => by kernel_rfl) ⟨rfl, (by omega), (by omega), (ldEl0 fS hgetS (by kernel_rfl)), (cF h1), (cT hn0), rfl, (by rw [hwi]; omega), (by rw [hwi]; (first | omega | (simp; omega))), (by rw [hwi]; exact ldEl0 fS hgetP (by kernel_rfl)), rfl, (by omega), (by omega), (ldEl0 fS hgetS (by kernel_rfl)), (cT hps), trivial⟩).mono ?_)
   rintro e' s' ⟨rfl, t4, lo4, rfl, hl4⟩
   exact fin t4 _ lo4 hU (by rw [hB]; exact hl4.get (6, _) (List.mem_singleton.2 rfl))
  ·refine Wp.seq ((path4 (nt := 129) [.f (.int .i64 s.st), .b false, .b true, .f (.int .i64 p.st), .f (.int .i64 s.st), .b false] [0, 1, 2, 6, 7] (e := .normal) (vals := [(.sl idL 11 0 l.length l.length exL), (.sl idS 1 0 l.length l.length exS), (.int .i64 (n : Int)), (.bool false), (.ptr B 0)]) (h' := G) [1 = 1, 0 ≤ (n : Int), (n : Int) < ((l.length : Nat) : Int), pOp evC G (.load none (.c (.ptr idS (0 + (Int.toNat (n : Int)) * 1)))) = some (.int .i64 s.st), cB (decide (s.st < 1)) false, cB (decide ((n : Int) > 0)) true, 1 = 1, 0 ≤ (IntKind.i64.wrap ((n : Int) - 1)), (IntKind.i64.wrap ((n : Int) - 1)) < ((l.length : Nat) : Int), pOp evC G (.load none (.c (.ptr idS (0 + (Int.toNat (IntKind.i64.wrap ((n : Int) - 1))) * 1)))) = some (.int .i64 p.st), 1 = 1, 0 ≤ (n : Int), (n : Int) < ((l.length : Nat) : Int), pOp evC G (.load none (.c (.ptr idS (0 + (Int.toNat (n : Int)) * 1)))) = some (.int .i64 s.st), cB (decide (p.st ≥ s.st)) false] hl (fun t0 => by kernel_rfl) ⟨rfl, (by omega), (by omega), (ldEl0 fS hgetS (by kernel_rfl)), (cF h1), (cT hn0), rfl, (by rw [hwi]; omega), (by rw [hwi]; (first | omega | (simp; omega))), (by rw [hwi]; exact ldEl0 fS hgetP (by kernel_rfl)), rfl, (by omega), (by omega), (ldEl0 fS hgetS (by kernel_rfl)), (cF hps), trivial⟩).mono ?_)
   rintro e' s' ⟨rfl, t4, lo4, rfl, hl4⟩
   exact key t4 lo4 hl4 (by omega)
 ·have hl0 : lastOf (l.take n) = 0 := by rw [show n = 0 by omega, List.take_zero]; rfl
  refine Wp.seq ((path4 (nt := 129) [.f (.int .i64 s.st), .b false, .b false] [0, 1, 2, 6, 7] (e := .normal) (vals := [(.sl idL 11 0 l.length l.length exL), (.sl idS 1 0 l.length l.length exS), (.int .i64 (n : Int)), (.bool false), (.ptr B 0)]) (h' := G) [1 = 1, 0 ≤ (n : Int), (n : Int) < ((l.length : Nat) : Int), pOp evC G (.load none (.c (.ptr idS (0 + (Int.toNat (n : Int)) * 1)))) = some (.int .i64 s.st), cB (decide (s.st < 1)) false, cB (decide ((n : Int) > 0)) false] hl (fun t0 => by kernel_rfl) ⟨rfl, (by omega), (by omega), (ldEl0 fS hgetS (by kernel_rfl)), (cF h1), (cF hn0), trivial⟩).mono ?_)
  rintro e' s' ⟨rfl, t4, lo4, rfl, hl4⟩
  exact key t4 lo4 hl4 (by omega)
theorem rwrong_cl {H : List Blk} {idL idS : Nat} {l : List Stm} {exL exS : Bool} (ht : Two H idL idS l) (hone : ∀ s ∈ l, One s.r ∧ s.r.op.length ≤ 1000) (hlen : l.length ≤ 1000) : ∃ H' lo, Cl Γ T 9 [(.sl idL 11 0 l.length l.length exL), (.sl idS 1 0 l.length l.length exS)] H (.int .i64 (wrongB [] l 0), H', lo) ∧ Up H H' := by
 have hb := clB (Γ := Γ) (tbl := T) (f := 9) (af := a9) (args := [(.sl idL 11 0 l.length l.length exL), (.sl idS 1 0 l.length l.length exS)]) (h := H) u.g9 (by kernel_rfl) (by kernel_rfl) (fun r h' => r = .int .i64 (wrongB [] l 0) ∧ Up H h') ?_
 ·obtain ⟨r, h', lo, ⟨rfl, h1⟩, h2⟩ := hb
  exact ⟨h', lo, h2, h1⟩
 have fin : ∀ (t : List AV) (G : List Blk) (lo : Option Nat), Up H G → getX t 4 = .int .i64 (wrongB [] l 0) → (∀ i, AExit.ret ≠ .exit i) ∧ ∃ vs, resAll { t := t, h := G, lo := lo } a9.res = some vs ∧ packRes vs = .int .i64 (wrongB [] l 0) ∧ Up H G := fun t G lo hU h => by
  refine ⟨(fun i hi => by cases hi), [.int .i64 (wrongB [] l 0)], ?_, rfl, hU⟩
  rw [getX_eq] at h
  simp [a9, resAll, resOf, h]
 refine Wp.seq ((path4 (nt := 18) (live := [(0, (.sl idL 11 0 l.length l.length exL)), (1, (.sl idS 1 0 l.length l.length exS))]) [] [0, 1] (e := .normal) (vals := [(.sl idL 11 0 l.length l.length exL), (.sl idS 1 0 l.length l.length exS)]) (h' := H) [] ⟨by simp [a9], by simp [getX_eq]⟩ (fun t0 => by kernel_rfl) trivial).mono ?_)
 rintro e s ⟨rfl, t0, lo0, rfl, hl1⟩
 refine Wp.seq (Wp.seq ((path4 (nt := 18) [] [0, 1, 5] (e := .normal) (vals := [(.sl idL 11 0 l.length l.length exL), (.sl idS 1 0 l.length l.length exS), (.int .i64 0)]) (h' := H) [] hl1 (fun t0 => by kernel_rfl) trivial).mono ?_))
 rintro e s ⟨rfl, t1, lo1, rfl, hl2⟩
 refine Wp.block ?_
 refine Wp.loop (fun k s => ∃ (i : Nat) (t : List AV) (G : List Blk) (lo : Option Nat), s = { t := t, h := G, lo := lo } ∧ k = l.length - i ∧ i ≤ l.length ∧ Lv 18 [(0, (.sl idL 11 0 l.length l.length exL)), (1, (.sl idS 1 0 l.length l.length exS)), (5, (.int .i64 (i : Int)))] t ∧ Up H G ∧ Hang (l.take i) ∧ GoodP (l.take i) ∧ wrongB [] l 0 = wrongB (l.take i) (l.drop i) i) ?_ l.length _ ⟨0, t1, H, lo1, rfl, rfl, by omega, hl2, Up.refl _, Hang.nil, GoodP.nil, rfl⟩
 rintro k s ⟨i, t, G, lo, rfl, rfl, hile, hl, hU, hH, hG, hw⟩
 by_cases hlt : i < l.length
 ·have hi : (i : Int) < (l.length : Int) := by omega
  have hg := List.getElem?_eq_getElem hlt
  have hm : l[i] ∈ l := List.getElem_mem hlt
  have htk : l.take (i + 1) = l.take i ++ [l[i]] := by rw [List.take_add_one, hg]; rfl
  rw [List.drop_eq_getElem_cons hlt, wrongB_cons] at hw
  generalize l[i] = s at hw hg hm htk
  obtain ⟨hr, hop⟩ := hone s hm
  obtain ⟨G2, lo2, hc2, hU2⟩ := rhangs_cl u (exL := exL) (exS := exS) (ht.up hU) hg hlen hG hH.fine hr hop
  cases hh : hangsB (l.take i) s with
  | false =>
   rw [hh] at hc2
   rw [hh, if_neg (by decide)] at hw
   refine (path4 (nt := 18) [.b true, .r (.bool false) G2 lo2] [4] (e := .ret) (vals := [(.int .i64 (i : Int))]) (h' := G2) [cB (decide ((i : Int) < (l.length : Int))) true, Cl Γ T 18 [(.sl idL 11 0 l.length l.length exL), (.sl idS 1 0 l.length l.length exS), (.int .i64 (i : Int))] G ((.bool false), G2, lo2)] hl (fun t0 => by kernel_rfl) ⟨(cT hi), hc2, trivial⟩).mono ?_
   rintro e s' ⟨rfl, t4, lo4, rfl, hl4⟩
   exact fin t4 _ lo4 (hU.trans hU2) (by rw [hw]; exact hl4.get (4, _) (by simp))
  | true =>
   rw [hh] at hc2
   rw [hh, if_pos rfl] at hw
   have hst := hangs_st hh
   refine (path4 (nt := 18) [.b true, .r (.bool true) G2 lo2] [0, 1, 5] (e := .normal) (vals := [(.sl idL 11 0 l.length l.length exL), (.sl idS 1 0 l.length l.length exS), (.int .i64 (IntKind.i64.wrap ((i : Int) + 1)))]) (h' := G2) [cB (decide ((i : Int) < (l.length : Int))) true, Cl Γ T 18 [(.sl idL 11 0 l.length l.length exL), (.sl idS 1 0 l.length l.length exS), (.int .i64 (i : Int))] G ((.bool true), G2, lo2)] hl (fun t0 => by kernel_rfl) ⟨(cT hi), hc2, trivial⟩).mono ?_
   rintro e s' ⟨rfl, t4, lo4, rfl, hl4⟩
   have hwp : IntKind.i64.wrap ((i : Int) + 1) = ((i + 1 : Nat) : Int) := by rw [IntWalk.i64_in _ (by omega)]; rfl
   rw [hwp] at hl4
   refine ⟨l.length - (i + 1), by omega, i + 1, t4, _, lo4, rfl, rfl, by omega, hl4, hU.trans hU2, ?_, ?_, ?_⟩
   ·rw [htk]; exact hH.snoc hG hh
   ·rw [htk]; exact hG.snoc hr hst (by rw [List.length_take]; omega)
   ·rw [htk]; exact hw
 ·have hi : ¬ (i : Int) < (l.length : Int) := by omega
  have hie : l.drop i = [] := List.drop_eq_nil_of_le (by omega)
  rw [hie, wrongB] at hw
  refine (path4 (nt := 18) [.b false] [0] (e := (.exit 0)) (vals := [(.sl idL 11 0 l.length l.length exL)]) (h' := G) [cB (decide ((i : Int) < (l.length : Int))) false] hl (fun t0 => by kernel_rfl) ⟨(cF hi), trivial⟩).mono ?_
  rintro e s ⟨rfl, t4, lo4, rfl, hl4⟩
  refine (path4 (nt := 18) [] [4] (e := .ret) (vals := [(.int .i64 (-1))]) (h' := G) [] hl4 (fun t0 => by kernel_rfl) trivial).mono ?_
  rintro e s ⟨rfl, t5, lo5, rfl, hl5⟩
  exact fin t5 _ lo5 hU (by rw [hw]; exact hl5.get (4, AV.int .i64 (-1)) (by simp))
end
open Go
theorem LIs.uniq {v : AV} {l l' : List Stm} (h : LIs v l) (h' : LIs v l') (o : ∀ s ∈ l, One s.r) (o' : ∀ s ∈ l', One s.r) : l = l' := by
 have e : l.map encS = l'.map encS := by
  rcases h with ⟨rfl, rfl⟩ | ⟨ex, rfl⟩ <;> rcases h' with ⟨h1, rfl⟩ | ⟨ex', h1⟩
  ·rfl
  ·cases h1
  ·cases h1
  ·injection h1
 clear h h'
 induction l generalizing l' with
 | nil =>
  cases l' with
  | nil => rfl
  | cons a b => simp at e
 | cons s l ih =>
  cases l' with
  | nil => simp at e
  | cons s' l' =>
   rw [List.map_cons, List.map_cons] at e
   obtain ⟨e1, e2⟩ := List.cons.inj e
   have h1 := o s (by simp)
   have h2 := o' s' (by simp)
   have hs : s = s' := by
    obtain ⟨st, k, dl, pv, nx, pg, uk, ut, uy, uv, ov, dy, op⟩ := s
    obtain ⟨st', k', dl', pv', nx', pg', uk', ut', uy', uv', ov', dy', op'⟩ := s'
    simp only [encS, enS, enR, AV.agg.injEq, List.cons.injEq, AV.int.injEq, AV.str.injEq, true_and, and_true] at e1
    obtain ⟨rfl, rfl, rfl, rfl, rfl, rfl, rfl, rfl, rfl, rfl, rfl, rfl⟩ := e1
    have := h1.op.uniq h2.op
    simp only at this
    subst this
    rfl
   rw [hs, ih (fun x hx => o x (by simp [hx])) (fun x hx => o' x (by simp [hx])) e2]
structure OkW (l : List Stm) : Prop extends OkL l where
 wf : ∀ s ∈ l, (Lit.int .i64 s.r.deal).wf = true
theorem OkW.ones {l : List Stm} (h : OkW l) : ∀ s ∈ l, One s.r := fun s hs => (h.one s hs).1
open Classical in
noncomputable def rowOf (args : List AV) : Option (List Stm) := if h : ∃ l, OkW l ∧ ∃ v, args = [v] ∧ LIs v l then some h.choose else none
theorem rowOf_at {v : AV} {l : List Stm} (hv : LIs v l) (ho : OkW l) : rowOf [v] = some l := by
 have h : ∃ l, OkW l ∧ ∃ v', [v] = [v'] ∧ LIs v' l := ⟨l, ho, v, rfl, hv⟩
 unfold rowOf
 rw [dif_pos h]
 obtain ⟨h1, v', h2, h3⟩ := h.choose_spec
 cases h2
 rw [LIs.uniq h3 hv h1.ones ho.ones]
theorem rowOf_some {args : List AV} {l : List Stm} (h : rowOf args = some l) : OkW l ∧ ∃ v, args = [v] ∧ LIs v l := by
 unfold rowOf at h
 split at h <;> cases h
 rename_i h
 exact h.choose_spec
noncomputable def gW (args : List AV) : Option AV := (rowOf args).map fun l => .int .i64 (wrongB [] l 0)
noncomputable def gL (args : List AV) : Option (List (List AV)) := (rowOf args).map fun l => (livesS l).map enX
theorem gW_ok : GOk Try.prog 8 (pureFH 8 gW) := by
 refine pureFH_ok ⟨_, Try.func8, by kernel_rfl, by kernel_rfl⟩ fun args r hr => ?_
 unfold gW at hr
 rw [Option.map_eq_some_iff] at hr
 obtain ⟨l, h1, rfl⟩ := hr
 obtain ⟨ho, v, rfl, hv⟩ := rowOf_some h1
 exact wrong_pure hv ho.toOkL
theorem gL_ok : GOk Try.prog 6 (freshG 8 6 gL) := by
 refine freshG_ok ⟨_, Try.func6, by kernel_rfl, by kernel_rfl⟩ fun args es hr => ?_
 unfold gL at hr
 rw [Option.map_eq_some_iff] at hr
 obtain ⟨l, h1, rfl⟩ := hr
 obtain ⟨ho, v, rfl, hv⟩ := rowOf_some h1
 obtain ⟨h', id, ha, hb⟩ := lives_ams hv ho.ones ho.len ho.wf
 have hsc : ∀ q : List LifeV, scalL (q.map enX).flatten = true := fun q => by
  induction q with
  | nil => rfl
  | cons x q ih =>
   rw [List.map_cons, List.flatten_cons]
   exact ih
 refine ⟨hsc _, h', id, ?_, fun hne => hb fun h => hne (by rw [h]; rfl)⟩
 have hfr : frV 6 ((livesS l).map enX) id = livesV (livesS l) id := by
  unfold frV livesV
  cases h : livesS l with
  | nil => rfl
  | cons a b => simp
 rw [hfr]
 exact ha
noncomputable def gam2 : List (Nat × GF) := [(6, freshG 8 6 gL), (8, pureFH 8 gW)]
theorem K2 : Known (gGet gam2) T Try.prog := known_of (by kernel_rfl) ⟨gL_ok, gW_ok, trivial⟩ all
theorem U2 : Un (gGet gam2) := ⟨rfl, rfl, rfl, rfl, rfl, rfl, rfl, rfl, rfl, rfl, rfl⟩
theorem U22 : Un2 (gGet gam2) := { U2 with g12 := rfl, g14 := rfl, g7 := rfl }
theorem lives_call {v v' : AV} {l : List Stm} {h : List Blk} (ha : mapO (frz h 8) [v] = some [v']) (hv : LIs v' l) (ho : OkW l) : Cl (gGet gam2) T 6 [v] h (frV 6 ((livesS l).map enX) h.length, frH ((livesS l).map enX) h, none) :=
 Cl.fresh (g := gL) rfl ha (by unfold gL; rw [rowOf_at hv ho]; rfl)
theorem wrong_call {v v' : AV} {l : List Stm} {h : List Blk} (ha : mapO (frz h 8) [v] = some [v']) (hv : LIs v' l) (ho : OkW l) : Cl (gGet gam2) T 8 [v] h (.int .i64 (wrongB [] l 0), h, none) :=
 Cl.pureH (g := gW) rfl ha (by unfold gW; rw [rowOf_at hv ho]; rfl) rfl
def L0 : List Stm := [⟨1, { zR with k := 5 }⟩, ⟨5, { zR with k := 1, deal := 2, uk := 1 }⟩, ⟨9, { zR with k := 2, deal := 2, prev := 5 }⟩, ⟨12, { zR with k := 4, deal := 2, prev := 9 }⟩]
def L1 : List Stm := [⟨1, { zR with k := 5 }⟩, ⟨5, { zR with k := 1, deal := 2, uk := 1 }⟩, ⟨9, { zR with k := 4, deal := 2, prev := 5 }⟩]
theorem L0_ok : OkW L0 := ⟨⟨fun s hs => by
 simp only [L0, List.mem_cons, List.not_mem_nil, or_false] at hs
 rcases hs with rfl | rfl | rfl | rfl <;> exact ⟨⟨rfl, .inl ⟨rfl, rfl⟩, rfl⟩, by decide⟩, by decide⟩, fun s hs => by
 simp only [L0, List.mem_cons, List.not_mem_nil, or_false] at hs
 rcases hs with rfl | rfl | rfl | rfl <;> rfl⟩
theorem L1_ok : OkW L1 := ⟨⟨fun s hs => by
 simp only [L1, List.mem_cons, List.not_mem_nil, or_false] at hs
 rcases hs with rfl | rfl | rfl <;> exact ⟨⟨rfl, .inl ⟨rfl, rfl⟩, rfl⟩, by decide⟩, by decide⟩, fun s hs => by
 simp only [L1, List.mem_cons, List.not_mem_nil, or_false] at hs
 rcases hs with rfl | rfl | rfl <;> rfl⟩
def awH : List Blk := [.cells (L0.map enS).flatten, .cells (L1.map enS).flatten]
def awX : List Blk := frH ((livesS L0).map enX) awH
theorem read_nil : ∃ h' lo, Cl (gGet gam2) T 10 [.nilp] awX (.nils, h', lo) := by
 have h : (callX (gGet gam2) T 50 10 [.nilp] awX).map (·.1) = some .nils := by kernel_rfl
 rw [Option.map_eq_some_iff] at h
 obtain ⟨⟨r, h', lo⟩, h1, rfl⟩ := h
 exact ⟨h', lo, Cl.ev h1⟩
theorem awake_cl : ∃ H' lo, Cl (gGet gam2) T 4 [] [] (.bool true, H', lo) := by
 obtain ⟨h', lo, hr⟩ := read_nil
 refine ⟨h', clP (af := a4) [.r (frV 6 ((livesS L0).map enX) 2) awX none, .r (.int .i64 (wrongB [] L0 0)) awX none, .r (.int .i64 (wrongB [] L1 0)) awX none, .b true, .b true, .b true, .r .nils h' lo]
  [12 = 12, 0 ≤ (0 : Int), (0 : Int) < ((4 : Nat) : Int), 12 = 12, 0 ≤ (1 : Int), (1 : Int) < ((4 : Nat) : Int), Cl (gGet gam2) T 6 [.sl 0 12 0 4 4 true] awH (frV 6 ((livesS L0).map enX) 2, awX, none), Cl (gGet gam2) T 8 [.sl 0 12 0 4 4 true] awX (.int .i64 (wrongB [] L0 0), awX, none), Cl (gGet gam2) T 8 [.sl 1 12 0 3 3 true] awX (.int .i64 (wrongB [] L1 0), awX, none), cB true true, cB true true, 6 = 6, 0 ≤ (0 : Int), (0 : Int) < ((1 : Nat) : Int), some (AV.bool true) = some (AV.bool true), Cl (gGet gam2) T 10 [.nilp] awX (.nils, h', lo)]
  rfl (by kernel_rfl) (by kernel_rfl) (by kernel_rfl) ⟨rfl, by decide, by decide, rfl, by decide, by decide, ?_, ?_, ?_, rfl, rfl, rfl, by decide, by decide, rfl, hr, trivial⟩⟩
 ·exact lives_call (v' := .ro (L0.map encS) 12 true) (by kernel_rfl) (.inr ⟨true, rfl⟩) L0_ok
 ·exact wrong_call (v' := .ro (L0.map encS) 12 true) (by kernel_rfl) (.inr ⟨true, rfl⟩) L0_ok
 ·exact wrong_call (v' := .ro (L1.map encS) 12 true) (by kernel_rfl) (.inr ⟨true, rfl⟩) L1_ok
end Go.Proofs.Ytlhbfikfnecknaa.AM.Ch

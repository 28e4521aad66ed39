/-
  'gauger's law ModelBack holds of every input: it returns true, and each argument reads behind the call as it read before.
  This text: part 12 of 22 of the proof (Mo, MoA, MoB, MoC, MoD, MoE).
-/
import Derived.Test.YtenpjpldjmoefaaGreatMak
import Derived.Test.YtenpjpldjmoefaaGreatMah
set_option maxRecDepth 100000
set_option linter.unusedVariables false
set_option linter.unusedSimpArgs false
set_option maxHeartbeats 4000000
namespace Go.Proofs.YtenpjpldjmoefaaGreat.AM.Mo
open Go
def tree : Tr := (.br (.br (.br (.br (.br (.br (.node 4 a4) 5 (.node 5 a5)) 7 (.br (.node 7 a7) 8 (.br (.node 8 a8) 9 (.node 9 a9)))) 11 (.br (.br (.node 11 a11) 12 (.node 12 a12)) 14 (.br (.node 14 a14) 16 (.br (.node 16 a16) 17 (.node 17 a17))))) 18 (.br (.br (.br (.node 18 a18) 19 (.node 19 a19)) 23 (.br (.node 23 a23) 25 (.br (.node 25 a25) 27 (.node 27 a27)))) 28 (.br (.br (.node 28 a28) 29 (.br (.node 29 a29) 43 (.node 43 a43))) 44 (.br (.node 44 a44) 45 (.br (.node 45 a45) 46 (.node 46 a46)))))) 47 (.br (.br (.br (.br (.node 47 a47) 48 (.node 48 a48)) 49 (.br (.node 49 a49) 51 (.br (.node 51 a51) 53 (.node 53 a53)))) 54 (.br (.br (.node 54 a54) 55 (.br (.node 55 a55) 56 (.node 56 a56))) 57 (.br (.node 57 a57) 58 (.br (.node 58 a58) 59 (.node 59 a59))))) 60 (.br (.br (.br (.node 60 a60) 61 (.node 61 a61)) 64 (.br (.node 64 a64) 66 (.br (.node 66 a66) 68 (.node 68 a68)))) 69 (.br (.br (.node 69 a69) 70 (.br (.node 70 a70) 71 (.node 71 a71))) 72 (.br (.node 72 a72) 86 (.br (.node 86 a86) 87 (.node 87 a87))))))) 88 (.br (.br (.br (.br (.br (.node 88 a88) 89 (.node 89 a89)) 90 (.br (.node 90 a90) 91 (.br (.node 91 a91) 92 (.node 92 a92)))) 93 (.br (.br (.node 93 a93) 94 (.br (.node 94 a94) 95 (.node 95 a95))) 96 (.br (.node 96 a96) 97 (.br (.node 97 a97) 98 (.node 98 a98))))) 105 (.br (.br (.br (.node 105 a105) 106 (.node 106 a106)) 107 (.br (.node 107 a107) 115 (.br (.node 115 a115) 116 (.node 116 a116)))) 117 (.br (.br (.node 117 a117) 118 (.br (.node 118 a118) 119 (.node 119 a119))) 120 (.br (.node 120 a120) 121 (.br (.node 121 a121) 123 (.node 123 a123)))))) 124 (.br (.br (.br (.br (.node 124 a124) 129 (.node 129 a129)) 130 (.br (.node 130 a130) 131 (.br (.node 131 a131) 132 (.node 132 a132)))) 142 (.br (.br (.node 142 a142) 143 (.br (.node 143 a143) 144 (.node 144 a144))) 145 (.br (.node 145 a145) 146 (.br (.node 146 a146) 147 (.node 147 a147))))) 148 (.br (.br (.br (.node 148 a148) 149 (.node 149 a149)) 150 (.br (.node 150 a150) 151 (.br (.node 151 a151) 154 (.node 154 a154)))) 155 (.br (.br (.node 155 a155) 156 (.br (.node 156 a156) 162 (.node 162 a162))) 163 (.br (.node 163 a163) 164 (.br (.node 164 a164) 165 (.node 165 a165))))))))
theorem all : tree.All Tryz.prog := ⟨⟨⟨⟨⟨⟨c4, c5⟩, ⟨c7, ⟨c8, c9⟩⟩⟩, ⟨⟨c11, c12⟩, ⟨c14, ⟨c16, c17⟩⟩⟩⟩, ⟨⟨⟨c18, c19⟩, ⟨c23, ⟨c25, c27⟩⟩⟩, ⟨⟨c28, ⟨c29, c43⟩⟩, ⟨c44, ⟨c45, c46⟩⟩⟩⟩⟩, ⟨⟨⟨⟨c47, c48⟩, ⟨c49, ⟨c51, c53⟩⟩⟩, ⟨⟨c54, ⟨c55, c56⟩⟩, ⟨c57, ⟨c58, c59⟩⟩⟩⟩, ⟨⟨⟨c60, c61⟩, ⟨c64, ⟨c66, c68⟩⟩⟩, ⟨⟨c69, ⟨c70, c71⟩⟩, ⟨c72, ⟨c86, c87⟩⟩⟩⟩⟩⟩, ⟨⟨⟨⟨⟨c88, c89⟩, ⟨c90, ⟨c91, c92⟩⟩⟩, ⟨⟨c93, ⟨c94, c95⟩⟩, ⟨c96, ⟨c97, c98⟩⟩⟩⟩, ⟨⟨⟨c105, c106⟩, ⟨c107, ⟨c115, c116⟩⟩⟩, ⟨⟨c117, ⟨c118, c119⟩⟩, ⟨c120, ⟨c121, c123⟩⟩⟩⟩⟩, ⟨⟨⟨⟨c124, c129⟩, ⟨c130, ⟨c131, c132⟩⟩⟩, ⟨⟨c142, ⟨c143, c144⟩⟩, ⟨c145, ⟨c146, c147⟩⟩⟩⟩, ⟨⟨⟨c148, c149⟩, ⟨c150, ⟨c151, c154⟩⟩⟩, ⟨⟨c155, ⟨c156, c162⟩⟩, ⟨c163, ⟨c164, c165⟩⟩⟩⟩⟩⟩⟩
open Go
structure Val where
 k : Int
 n : Int
 s : List UInt8
 deriving DecidableEq, Inhabited
abbrev enV (v : Val) : List AV := [.int .i64 v.k, .int .i64 v.n, .str v.s]
abbrev iV (n : Int) : AV := .int .i64 n
abbrev vV (v : Val) : AV := .agg (enV v)
noncomputable abbrev T : FuncId → Option AFunc := tree.get
noncomputable def gam0 : List (Nat × GF) := [(172, extG xSub), (173, extG xAdd)]
theorem K0 : Known (gGet gam0) tree.get Tryz.prog := known_of (by kernel_rfl) ⟨xSub_ok, xAdd_ok, trivial⟩ all
def goodVal (v : Val) : Bool := if v.k = 1 then bytesEq v.s [] else (decide (v.k = 2) && (decide (v.n = 0) && decide ((v.s.length : Int) ≤ 7)))
theorem bytesEq_refl : ∀ l : List UInt8, bytesEq l l = true
 | [] => rfl
 | a :: l => by simp [bytesEq, bytesEq_refl l]
theorem bytesEq_iff : ∀ {a b : List UInt8}, bytesEq a b = true ↔ a = b
 | [], [] => by simp [bytesEq]
 | [], _ :: _ => by simp [bytesEq]
 | _ :: _, [] => by simp [bytesEq]
 | a :: x, b :: y => by
  rw [bytesEq, Bool.and_eq_true, decide_eq_true_iff, bytesEq_iff, List.cons.injEq]
  exact ⟨fun h => ⟨UInt8.toNat_inj.1 h.1, h.2⟩, fun h => ⟨by rw [h.1], h.2⟩⟩
theorem good_cl0 (v : Val) (H : List Blk) : ∃ lo, Cl (gGet gam0) T 142 [vV v] H (.bool (goodVal v), ap H (enV v), lo) := by
 by_cases h1 : v.k = 1
 ·rw [show goodVal v = bytesEq v.s [] by simp [goodVal, h1]]
  exact clV 1 (af := a142) (r := (.bool (bytesEq v.s []))) (h' := (ap H (enV v))) [.w (.box (.c (.agg (enV v)))) (.ptr H.length 0) (ap H (enV v)) none, .f (.load none (.c (.ptr H.length 0))) (.int .i64 v.k), .b (v.k == 1) true, .f (.load none (.c (.ptr H.length 2))) (.str v.s), .q (.bin .eql (.c (.str v.s)) (.c (.str []))) (bytesEq v.s [])] [] (by kernel_rfl) ⟨rfl, (ldV gl), (cE h1), (ldV gl), rfl, trivial⟩
 by_cases h2 : v.k = 2
 ·by_cases h3 : v.n = 0
  ·rw [show goodVal v = decide ((v.s.length : Int) ≤ 7) by simp [goodVal, h2, h3]]
   exact clV 1 (af := a142) (r := (.bool (decide ((v.s.length : Int) ≤ 7)))) (h' := (ap H (enV v))) [.w (.box (.c (.agg (enV v)))) (.ptr H.length 0) (ap H (enV v)) none, .f (.load none (.c (.ptr H.length 0))) (.int .i64 v.k), .b (v.k == 1) false, .b (v.k == 2) true, .f (.load none (.c (.ptr H.length 1))) (.int .i64 v.n), .b (v.n == 0) true, .f (.load none (.c (.ptr H.length 2))) (.str v.s), .g (.len 0 (.c (.str v.s))) (.int .i64 (v.s.length : Int)), .b (decide ((v.s.length : Int) ≤ 7)) (decide ((v.s.length : Int) ≤ 7))] [] (by kernel_rfl) ⟨rfl, (ldV gl), (cN h1), (cE h2), (ldV gl), (cE h3), (ldV gl), rfl, rfl, trivial⟩
  ·rw [show goodVal v = false by simp [goodVal, h2, h3]]
   exact clV 1 (af := a142) (r := (.bool false)) (h' := (ap H (enV v))) [.w (.box (.c (.agg (enV v)))) (.ptr H.length 0) (ap H (enV v)) none, .f (.load none (.c (.ptr H.length 0))) (.int .i64 v.k), .b (v.k == 1) false, .b (v.k == 2) true, .f (.load none (.c (.ptr H.length 1))) (.int .i64 v.n), .b (v.n == 0) false] [] (by kernel_rfl) ⟨rfl, (ldV gl), (cN h1), (cE h2), (ldV gl), (cN h3), trivial⟩
 ·rw [show goodVal v = false by simp [goodVal, h1, h2]]
  exact clV 1 (af := a142) (r := (.bool false)) (h' := (ap H (enV v))) [.w (.box (.c (.agg (enV v)))) (.ptr H.length 0) (ap H (enV v)) none, .f (.load none (.c (.ptr H.length 0))) (.int .i64 v.k), .b (v.k == 1) false, .b (v.k == 2) false] [] (by kernel_rfl) ⟨rfl, (ldV gl), (cN h1), (cN h2), trivial⟩
def g142 : List AV → Option AV
 | [.agg [.int .i64 k, .int .i64 n, .str s]] => some (.bool (goodVal ⟨k, n, s⟩))
 | _ => none
theorem good_ok : GOk Tryz.prog 142 (pureG g142) := by
 refine pureG_known ⟨_, Tryz.func142, by kernel_rfl, by kernel_rfl⟩ fun args r hr _ => ?_
 unfold g142 at hr
 split at hr <;> cases hr
 rename_i k n s _
 obtain ⟨lo, h⟩ := good_cl0 ⟨k, n, s⟩ []
 exact pureS_cl K0 h (by kernel_rfl) rfl
theorem good_e {Γ : FuncId → Option GF} (hg : Γ 142 = some (pureG g142)) (v : Val) (H : List Blk) : Cl Γ T 142 [vV v] H (.bool (goodVal v), H, none) := Cl.pure (g := g142) hg rfl rfl rfl H
noncomputable def gam1 : List (Nat × GF) := (142, pureG g142) :: gam0
theorem K1 : Known (gGet gam1) tree.get Tryz.prog := known_of (by kernel_rfl) ⟨good_ok, xSub_ok, xAdd_ok, trivial⟩ all
noncomputable abbrev G1 : FuncId → Option GF := gGet gam1
def cmpI (a b : Int) : Int := if a < b then -1 else if a > b then 1 else 0
def cmpS (a b : List UInt8) : Int := if bytesLt a b then -1 else if !(bytesLt a b || bytesEq a b) then 1 else 0
def or3 (a b c : Int) : Int := if a ≠ 0 then a else if b ≠ 0 then b else c
def cmpV (a b : Val) : Int := if goodVal a && goodVal b then or3 (cmpI a.k b.k) (cmpI a.n b.n) (cmpS a.s b.s) else 0
theorem nanI (a : Int) (H : List Blk) : ∃ lo, Cl G1 T 162 [.int .i64 a] H (.bool false, H, lo) :=
 clV 1 (af := a162) (r := (.bool false)) (h' := H) [.b (a != a) false] [] (by kernel_rfl) ⟨(cS rfl), trivial⟩
theorem nanS (a : List UInt8) (H : List Blk) : ∃ lo, Cl G1 T 163 [.str a] H (.bool false, H, lo) :=
 clV 1 (af := a163) (r := (.bool false)) (h' := H) [.q (.bin .neq (.c (.str a)) (.c (.str a))) false] [] (by kernel_rfl) ⟨(by simp [pOp, evC, abin, astr, bytesEq_refl]), trivial⟩
theorem cmpI_cl (a b : Int) (H : List Blk) : ∃ lo, Cl G1 T 144 [.int .i64 a, .int .i64 b] H (.int .i64 (cmpI a b), H, lo) := by
 obtain ⟨l1, n1⟩ := nanI a H
 obtain ⟨l2, n2⟩ := nanI b H
 by_cases h1 : a < b
 ·rw [show cmpI a b = -1 by unfold cmpI; rw [if_pos h1]]
  exact clV 1 (af := a144) (r := (.int .i64 (-1))) (h' := H) [.r 162 [(.int .i64 a)] (.bool false) H l1, .r 162 [(.int .i64 b)] (.bool false) H l2, .b (decide (a < b)) true] [] (by kernel_rfl) ⟨n1, n2, (cT h1), trivial⟩
 by_cases h2 : a > b
 ·rw [show cmpI a b = 1 by unfold cmpI; rw [if_neg h1, if_pos h2]]
  exact clV 1 (af := a144) (r := (.int .i64 1)) (h' := H) [.r 162 [(.int .i64 a)] (.bool false) H l1, .r 162 [(.int .i64 b)] (.bool false) H l2, .b (decide (a < b)) false, .b (decide (a > b)) true] [] (by kernel_rfl) ⟨n1, n2, (cF h1), (cT h2), trivial⟩
 ·rw [show cmpI a b = 0 by unfold cmpI; rw [if_neg h1, if_neg h2]]
  exact clV 1 (af := a144) (r := (.int .i64 0)) (h' := H) [.r 162 [(.int .i64 a)] (.bool false) H l1, .r 162 [(.int .i64 b)] (.bool false) H l2, .b (decide (a < b)) false, .b (decide (a > b)) false] [] (by kernel_rfl) ⟨n1, n2, (cF h1), (cF h2), trivial⟩
theorem cmpS_cl (a b : List UInt8) (H : List Blk) : ∃ lo, Cl G1 T 145 [.str a, .str b] H (.int .i64 (cmpS a b), H, lo) := by
 obtain ⟨l1, n1⟩ := nanS a H
 obtain ⟨l2, n2⟩ := nanS b H
 by_cases h1 : bytesLt a b = true
 ·rw [show cmpS a b = -1 by unfold cmpS; rw [if_pos h1]]
  exact clV 1 (af := a145) (r := (.int .i64 (-1))) (h' := H) [.r 163 [(.str a)] (.bool false) H l1, .r 163 [(.str b)] (.bool false) H l2, .q (.bin .lss (.c (.str a)) (.c (.str b))) true] [] (by kernel_rfl) ⟨n1, n2, (by simp [pOp, evC, abin, astr, h1]), trivial⟩
 by_cases h2 : (!(bytesLt a b || bytesEq a b)) = true
 ·rw [show cmpS a b = 1 by unfold cmpS; rw [if_neg h1, if_pos h2]]
  exact clV 1 (af := a145) (r := (.int .i64 1)) (h' := H) [.r 163 [(.str a)] (.bool false) H l1, .r 163 [(.str b)] (.bool false) H l2, .q (.bin .lss (.c (.str a)) (.c (.str b))) false, .q (.bin .gtr (.c (.str a)) (.c (.str b))) true] [] (by kernel_rfl) ⟨n1, n2, (by simp [pOp, evC, abin, astr, h1]), (by simp [pOp, evC, abin, astr, h2]), trivial⟩
 ·rw [show cmpS a b = 0 by unfold cmpS; rw [if_neg h1, if_neg h2]]
  exact clV 1 (af := a145) (r := (.int .i64 0)) (h' := H) [.r 163 [(.str a)] (.bool false) H l1, .r 163 [(.str b)] (.bool false) H l2, .q (.bin .lss (.c (.str a)) (.c (.str b))) false, .q (.bin .gtr (.c (.str a)) (.c (.str b))) false] [] (by kernel_rfl) ⟨n1, n2, (by simp [pOp, evC, abin, astr, h1]), (by simp [pOp, evC, abin, astr, h2]), trivial⟩
theorem or_cl (a b c : Int) {id : Nat} {H : List Blk} (hb : H[id]? = some (.cells [.int .i64 a, .int .i64 b, .int .i64 c])) : ∃ lo, Cl G1 T 143 [.sl id 1 0 3 3 true] H (.int .i64 (or3 a b c), H, lo) := by
 by_cases h1 : a ≠ 0
 ·rw [show or3 a b c = a by unfold or3; rw [if_pos h1]]
  exact clV 5 (af := a143) (r := (.int .i64 a)) (h' := H) [.b (decide ((0 : Int) < (3 : Int))) true, .p (1 = 1), .p ((0 : Int) ≤ 0), .p ((0 : Int) < ((3 : Nat) : Int)), .f (.load none (.c (.ptr id 0))) (.int .i64 a), .b (a != 0) true] [] (by kernel_rfl) ⟨rfl, rfl, (by omega), (by omega), (by simp [pOp, evC, rdPtr, rdCells, hb, cellsN, asVar, one?]), (cD h1), trivial⟩
 by_cases h2 : b ≠ 0
 ·rw [show or3 a b c = b by unfold or3; rw [if_neg h1, if_pos h2]]
  exact clV 5 (af := a143) (r := (.int .i64 b)) (h' := H) [.b (decide ((0 : Int) < (3 : Int))) true, .p (1 = 1), .p ((0 : Int) ≤ 0), .p ((0 : Int) < ((3 : Nat) : Int)), .f (.load none (.c (.ptr id 0))) (.int .i64 a), .b (a != 0) false, .b (decide ((1 : Int) < (3 : Int))) true, .p (1 = 1), .p ((0 : Int) ≤ 1), .p ((1 : Int) < ((3 : Nat) : Int)), .f (.load none (.c (.ptr id 1))) (.int .i64 b), .b (b != 0) true] [] (by kernel_rfl) ⟨rfl, rfl, (by omega), (by omega), (by simp [pOp, evC, rdPtr, rdCells, hb, cellsN, asVar, one?]), (cS (Decidable.not_not.1 h1)), rfl, rfl, (by omega), (by omega), (by simp [pOp, evC, rdPtr, rdCells, hb, cellsN, asVar, one?]), (cD h2), trivial⟩
 rw [show or3 a b c = c by unfold or3; rw [if_neg h1, if_neg h2]]
 by_cases h3 : c ≠ 0
 ·exact clV 5 (af := a143) (r := (.int .i64 c)) (h' := H) [.b (decide ((0 : Int) < (3 : Int))) true, .p (1 = 1), .p ((0 : Int) ≤ 0), .p ((0 : Int) < ((3 : Nat) : Int)), .f (.load none (.c (.ptr id 0))) (.int .i64 a), .b (a != 0) false, .b (decide ((1 : Int) < (3 : Int))) true, .p (1 = 1), .p ((0 : Int) ≤ 1), .p ((1 : Int) < ((3 : Nat) : Int)), .f (.load none (.c (.ptr id 1))) (.int .i64 b), .b (b != 0) false, .b (decide ((2 : Int) < (3 : Int))) true, .p (1 = 1), .p ((0 : Int) ≤ 2), .p ((2 : Int) < ((3 : Nat) : Int)), .f (.load none (.c (.ptr id 2))) (.int .i64 c), .b (c != 0) true] [] (by kernel_rfl) ⟨rfl, rfl, (by omega), (by omega), (by simp [pOp, evC, rdPtr, rdCells, hb, cellsN, asVar, one?]), (cS (Decidable.not_not.1 h1)), rfl, rfl, (by omega), (by omega), (by simp [pOp, evC, rdPtr, rdCells, hb, cellsN, asVar, one?]), (cS (Decidable.not_not.1 h2)), rfl, rfl, (by omega), (by omega), (by simp [pOp, evC, rdPtr, rdCells, hb, cellsN, asVar, one?]), (cD h3), trivial⟩
 ·have h0 : c = 0 := Decidable.not_not.1 h3
  subst h0
  exact clV 5 (af := a143) (r := (.int .i64 0)) (h' := H) [.b (decide ((0 : Int) < (3 : Int))) true, .p (1 = 1), .p ((0 : Int) ≤ 0), .p ((0 : Int) < ((3 : Nat) : Int)), .f (.load none (.c (.ptr id 0))) (.int .i64 a), .b (a != 0) false, .b (decide ((1 : Int) < (3 : Int))) true, .p (1 = 1), .p ((0 : Int) ≤ 1), .p ((1 : Int) < ((3 : Nat) : Int)), .f (.load none (.c (.ptr id 1))) (.int .i64 b), .b (b != 0) false, .b (decide ((2 : Int) < (3 : Int))) true, .p (1 = 1), .p ((0 : Int) ≤ 2), .p ((2 : Int) < ((3 : Nat) : Int)), .f (.load none (.c (.ptr id 2))) (.int .i64 0), .b ((0 : Int) != 0) false, .b (decide ((3 : Int) < (3 : Int))) false] [] (by kernel_rfl) ⟨rfl, rfl, (by omega), (by omega), (by simp [pOp, evC, rdPtr, rdCells, hb, cellsN, asVar, one?]), (cS (Decidable.not_not.1 h1)), rfl, rfl, (by omega), (by omega), (by simp [pOp, evC, rdPtr, rdCells, hb, cellsN, asVar, one?]), (cS (Decidable.not_not.1 h2)), rfl, rfl, (by omega), (by omega), (by simp [pOp, evC, rdPtr, rdCells, hb, cellsN, asVar, one?]), rfl, rfl, trivial⟩
theorem compare_cl0 (a b : Val) (H : List Blk) : ∃ H' lo, Cl G1 T 120 [vV a, vV b] H (.int .i64 (cmpV a b), H', lo) := by
 cases hga : goodVal a with
 | false =>
  rw [show cmpV a b = 0 by simp [cmpV, hga]]
  exact ⟨(ap (ap H (enV a)) (enV b)), clV 1 (af := a120) (r := (.int .i64 0)) (h' := (ap (ap H (enV a)) (enV b))) [.w (.box (.c (.agg (enV a)))) (.ptr H.length 0) (ap H (enV a)) none, .w (.box (.c (.agg (enV b)))) (.ptr (List.length (ap H (enV a))) 0) (ap (ap H (enV a)) (enV b)) none, .f (.load (some 3) (.c (.ptr H.length 0))) (.agg (enV a)), .r 142 [(.agg (enV a))] (.bool false) (ap (ap H (enV a)) (enV b)) none] [] (by kernel_rfl) ⟨rfl, rfl, (ldV (ga gl)), (hga ▸ good_e (by kernel_rfl) a _), trivial⟩⟩
 | true =>
  cases hgb : goodVal b with
  | false =>
   rw [show cmpV a b = 0 by simp [cmpV, hga, hgb]]
   exact ⟨(ap (ap H (enV a)) (enV b)), clV 1 (af := a120) (r := (.int .i64 0)) (h' := (ap (ap H (enV a)) (enV b))) [.w (.box (.c (.agg (enV a)))) (.ptr H.length 0) (ap H (enV a)) none, .w (.box (.c (.agg (enV b)))) (.ptr (List.length (ap H (enV a))) 0) (ap (ap H (enV a)) (enV b)) none, .f (.load (some 3) (.c (.ptr H.length 0))) (.agg (enV a)), .r 142 [(.agg (enV a))] (.bool true) (ap (ap H (enV a)) (enV b)) none, .f (.load (some 3) (.c (.ptr (List.length (ap H (enV a))) 0))) (.agg (enV b)), .r 142 [(.agg (enV b))] (.bool false) (ap (ap H (enV a)) (enV b)) none] [] (by kernel_rfl) ⟨rfl, rfl, (ldV (ga gl)), (hga ▸ good_e (by kernel_rfl) a _), (ldV gl), (hgb ▸ good_e (by kernel_rfl) b _), trivial⟩⟩
  | true =>
   rw [show cmpV a b = or3 (cmpI a.k b.k) (cmpI a.n b.n) (cmpS a.s b.s) by simp [cmpV, hga, hgb]]
   obtain ⟨l1, c1⟩ := cmpI_cl a.k b.k (ap (ap H (enV a)) (enV b))
   obtain ⟨l2, c2⟩ := cmpI_cl a.n b.n (ap (ap H (enV a)) (enV b))
   obtain ⟨l3, c3⟩ := cmpS_cl a.s b.s (ap (ap H (enV a)) (enV b))
   obtain ⟨l4, c4⟩ := or_cl (cmpI a.k b.k) (cmpI a.n b.n) (cmpS a.s b.s) (H := (ap (ap H (enV a)) (enV b)) ++ [.cells [.int .i64 (cmpI a.k b.k), .int .i64 (cmpI a.n b.n), .int .i64 (cmpS a.s b.s)]]) gl
   exact ⟨(ap (ap (ap H (enV a)) (enV b)) [.int .i64 (cmpI a.k b.k), .int .i64 (cmpI a.n b.n), .int .i64 (cmpS a.s b.s)]), clV 1 (af := a120) (r := (.int .i64 (or3 (cmpI a.k b.k) (cmpI a.n b.n) (cmpS a.s b.s)))) (h' := (ap (ap (ap H (enV a)) (enV b)) [.int .i64 (cmpI a.k b.k), .int .i64 (cmpI a.n b.n), .int .i64 (cmpS a.s b.s)])) [.w (.box (.c (.agg (enV a)))) (.ptr H.length 0) (ap H (enV a)) none, .w (.box (.c (.agg (enV b)))) (.ptr (List.length (ap H (enV a))) 0) (ap (ap H (enV a)) (enV b)) none, .f (.load (some 3) (.c (.ptr H.length 0))) (.agg (enV a)), .r 142 [(.agg (enV a))] (.bool true) (ap (ap H (enV a)) (enV b)) none, .f (.load (some 3) (.c (.ptr (List.length (ap H (enV a))) 0))) (.agg (enV b)), .r 142 [(.agg (enV b))] (.bool true) (ap (ap H (enV a)) (enV b)) none, .f (.load none (.c (.ptr H.length 0))) (.int .i64 a.k), .f (.load none (.c (.ptr (List.length (ap H (enV a))) 0))) (.int .i64 b.k), .r 144 [(.int .i64 a.k), (.int .i64 b.k)] (.int .i64 (cmpI a.k b.k)) (ap (ap H (enV a)) (enV b)) l1, .p (stays evC (AOper.mk (some 19) (.load none (.c (.ptr H.length 1))) none 0 1) (.int .i64 a.n) [(ap (ap H (enV a)) (enV b)), (ap (ap H (enV a)) (enV b)), (ap (ap H (enV a)) (enV b)), (ap (ap H (enV a)) (enV b)), (ap (ap (ap H (enV a)) (enV b)) [(.int .i64 (cmpI a.k b.k)), (.int .i64 (cmpI a.n b.n)), (.int .i64 (cmpS a.s b.s))]), (ap (ap (ap H (enV a)) (enV b)) [.int .i64 (cmpI a.k b.k), .int .i64 (cmpI a.n b.n), .int .i64 (cmpS a.s b.s)])] = true), .f (.load none (.c (.ptr H.length 1))) (.int .i64 a.n), .p (stays evC (AOper.mk (some 21) (.load none (.c (.ptr (List.length (ap H (enV a))) 1))) none 0 1) (.int .i64 b.n) [(ap (ap H (enV a)) (enV b)), (ap (ap H (enV a)) (enV b)), (ap (ap H (enV a)) (enV b)), (ap (ap H (enV a)) (enV b)), (ap (ap (ap H (enV a)) (enV b)) [(.int .i64 (cmpI a.k b.k)), (.int .i64 (cmpI a.n b.n)), (.int .i64 (cmpS a.s b.s))]), (ap (ap (ap H (enV a)) (enV b)) [.int .i64 (cmpI a.k b.k), .int .i64 (cmpI a.n b.n), .int .i64 (cmpS a.s b.s)])] = true), .f (.load none (.c (.ptr (List.length (ap H (enV a))) 1))) (.int .i64 b.n), .r 144 [(.int .i64 a.n), (.int .i64 b.n)] (.int .i64 (cmpI a.n b.n)) (ap (ap H (enV a)) (enV b)) l2, .p (stays evC (AOper.mk (some 24) (.load none (.c (.ptr H.length 2))) none 0 2) (.str a.s) [(ap (ap H (enV a)) (enV b)), (ap (ap H (enV a)) (enV b)), (ap (ap H (enV a)) (enV b)), (ap (ap H (enV a)) (enV b)), (ap (ap (ap H (enV a)) (enV b)) [(.int .i64 (cmpI a.k b.k)), (.int .i64 (cmpI a.n b.n)), (.int .i64 (cmpS a.s b.s))]), (ap (ap (ap H (enV a)) (enV b)) [.int .i64 (cmpI a.k b.k), .int .i64 (cmpI a.n b.n), .int .i64 (cmpS a.s b.s)])] = true), .f (.load none (.c (.ptr H.length 2))) (.str a.s), .p (stays evC (AOper.mk (some 26) (.load none (.c (.ptr (List.length (ap H (enV a))) 2))) none 0 2) (.str b.s) [(ap (ap H (enV a)) (enV b)), (ap (ap H (enV a)) (enV b)), (ap (ap H (enV a)) (enV b)), (ap (ap H (enV a)) (enV b)), (ap (ap (ap H (enV a)) (enV b)) [(.int .i64 (cmpI a.k b.k)), (.int .i64 (cmpI a.n b.n)), (.int .i64 (cmpS a.s b.s))]), (ap (ap (ap H (enV a)) (enV b)) [.int .i64 (cmpI a.k b.k), .int .i64 (cmpI a.n b.n), .int .i64 (cmpS a.s b.s)])] = true), .f (.load none (.c (.ptr (List.length (ap H (enV a))) 2))) (.str b.s), .r 145 [(.str a.s), (.str b.s)] (.int .i64 (cmpS a.s b.s)) (ap (ap H (enV a)) (enV b)) l3, .w (.buildSl [(.int .i64 0)] 3 [(0, (.c (.int .i64 (cmpI a.k b.k)))), (1, (.c (.int .i64 (cmpI a.n b.n)))), (2, (.c (.int .i64 (cmpS a.s b.s))))]) (.sl (List.length (ap (ap H (enV a)) (enV b))) 1 0 3 3 true) (ap (ap (ap H (enV a)) (enV b)) [(.int .i64 (cmpI a.k b.k)), (.int .i64 (cmpI a.n b.n)), (.int .i64 (cmpS a.s b.s))]) none, .r 143 [(.sl (List.length (ap (ap H (enV a)) (enV b))) 1 0 3 3 true)] (.int .i64 (or3 (cmpI a.k b.k) (cmpI a.n b.n) (cmpS a.s b.s))) (ap (ap (ap H (enV a)) (enV b)) [.int .i64 (cmpI a.k b.k), .int .i64 (cmpI a.n b.n), .int .i64 (cmpS a.s b.s)]) l4] [] (by kernel_rfl) ⟨rfl, rfl, (ldV (ga gl)), (hga ▸ good_e (by kernel_rfl) a _), (ldV gl), (hgb ▸ good_e (by kernel_rfl) b _), (ldV (ga gl)), (ldV gl), c1, (stays2 (by simp [eqv, eqvL]) (And.intro (ldV (ga gl)) (And.intro (ldV (ga gl)) trivial))), (ldV (ga gl)), (stays2 (by simp [eqv, eqvL]) (And.intro (ldV gl) (And.intro (ldV gl) trivial))), (ldV gl), c2, (stays2 (by simp [eqv, eqvL]) (And.intro (ldV (ga gl)) (And.intro (ldV (ga gl)) (And.intro (ldV (ga gl)) trivial)))), (ldV (ga gl)), (stays2 (by simp [eqv, eqvL]) (And.intro (ldV gl) (And.intro (ldV gl) (And.intro (ldV gl) trivial)))), (ldV gl), c3, rfl, c4, trivial⟩⟩
def g120 : List AV → Option AV
 | [.agg [.int .i64 k, .int .i64 n, .str s], .agg [.int .i64 k', .int .i64 n', .str s']] => some (.int .i64 (cmpV ⟨k, n, s⟩ ⟨k', n', s'⟩))
 | _ => none
theorem cmp_ok : GOk Tryz.prog 120 (pureG g120) := by
 refine pureG_known ⟨_, Tryz.func120, by kernel_rfl, by kernel_rfl⟩ fun args r hr _ => ?_
 unfold g120 at hr
 split at hr <;> cases hr
 rename_i k n s k' n' s' _
 obtain ⟨H', lo, h⟩ := compare_cl0 ⟨k, n, s⟩ ⟨k', n', s'⟩ []
 exact pureS_cl K1 h (by kernel_rfl) rfl
theorem cmp_e {Γ : FuncId → Option GF} (hg : Γ 120 = some (pureG g120)) (a b : Val) (H : List Blk) : Cl Γ T 120 [vV a, vV b] H (.int .i64 (cmpV a b), H, none) := Cl.pure (g := g120) hg rfl rfl rfl H
def isInB (v a b : Val) : Bool := decide (cmpV v a ≥ 0) && decide (cmpV v b ≤ 0)
theorem isIn_cl {Γ : FuncId → Option GF} (hg : Γ 97 = none) (hc : Γ 120 = some (pureG g120)) (v a b : Val) (H : List Blk) : ∃ lo, Cl Γ T 97 [vV v, vV a, vV b] H (.bool (isInB v a b), (ap (ap (ap H (enV v)) (enV a)) (enV b)), lo) := by
 by_cases h1 : cmpV v a ≥ 0
 ·rw [show isInB v a b = decide (cmpV v b ≤ 0) by simp [isInB, h1]]
  exact clV 1 (af := a97) (r := (.bool (decide (cmpV v b ≤ 0)))) (h' := (ap (ap (ap H (enV v)) (enV a)) (enV b))) [.w (.box (.c (.agg (enV v)))) (.ptr H.length 0) (ap H (enV v)) none, .w (.box (.c (.agg (enV a)))) (.ptr (List.length (ap H (enV v))) 0) (ap (ap H (enV v)) (enV a)) none, .w (.box (.c (.agg (enV b)))) (.ptr (List.length (ap (ap H (enV v)) (enV a))) 0) (ap (ap (ap H (enV v)) (enV a)) (enV b)) none, .f (.load (some 3) (.c (.ptr H.length 0))) (.agg (enV v)), .f (.load (some 3) (.c (.ptr (List.length (ap H (enV v))) 0))) (.agg (enV a)), .r 120 [(.agg (enV v)), (.agg (enV a))] (.int .i64 (cmpV v a)) (ap (ap (ap H (enV v)) (enV a)) (enV b)) none, .b (decide ((cmpV v a) ≥ 0)) true, .f (.load (some 3) (.c (.ptr H.length 0))) (.agg (enV v)), .f (.load (some 3) (.c (.ptr (List.length (ap (ap H (enV v)) (enV a))) 0))) (.agg (enV b)), .r 120 [(.agg (enV v)), (.agg (enV b))] (.int .i64 (cmpV v b)) (ap (ap (ap H (enV v)) (enV a)) (enV b)) none, .b (decide ((cmpV v b) ≤ 0)) (decide (cmpV v b ≤ 0))] [] hg ⟨rfl, rfl, rfl, (ldV (ga (ga gl))), (ldV (ga gl)), (cmp_e hc v a _), (cT h1), (ldV (ga (ga gl))), (ldV gl), (cmp_e hc v b _), rfl, trivial⟩
 ·rw [show isInB v a b = false by simp [isInB, h1]]
  exact clV 1 (af := a97) (r := (.bool false)) (h' := (ap (ap (ap H (enV v)) (enV a)) (enV b))) [.w (.box (.c (.agg (enV v)))) (.ptr H.length 0) (ap H (enV v)) none, .w (.box (.c (.agg (enV a)))) (.ptr (List.length (ap H (enV v))) 0) (ap (ap H (enV v)) (enV a)) none, .w (.box (.c (.agg (enV b)))) (.ptr (List.length (ap (ap H (enV v)) (enV a))) 0) (ap (ap (ap H (enV v)) (enV a)) (enV b)) none, .f (.load (some 3) (.c (.ptr H.length 0))) (.agg (enV v)), .f (.load (some 3) (.c (.ptr (List.length (ap H (enV v))) 0))) (.agg (enV a)), .r 120 [(.agg (enV v)), (.agg (enV a))] (.int .i64 (cmpV v a)) (ap (ap (ap H (enV v)) (enV a)) (enV b)) none, .b (decide ((cmpV v a) ≥ 0)) false] [] hg ⟨rfl, rfl, rfl, (ldV (ga (ga gl))), (ldV (ga gl)), (cmp_e hc v a _), (cF h1), trivial⟩
open Go
abbrev enW (w : Int × Int) : List AV := [.int .i64 w.1, .int .u64 w.2]
abbrev wV (w : Int × Int) : AV := .agg (enW w)
abbrev ofH (n : Int) : Int := Int.fdiv n (2 ^ 63)
abbrev ofL (n : Int) : Int := IntKind.u64.wrap n
def ofW (n : Int) : Int × Int := (ofH n, ofL n)
def sumU (a b : Int) : Int := (a + b + 0) % 18446744073709551616
def carU (a b : Int) : Int := (a + b + 0) / 18446744073709551616
def addW (a b : Int × Int) : Int × Int := (IntKind.i64.wrap (IntKind.i64.wrap (a.1 + b.1) + IntKind.i64.wrap (carU a.2 b.2)), sumU a.2 b.2)
def intW (a : Int × Int) : Int × Bool := if ofW (IntKind.i64.wrap a.2) = a then (IntKind.i64.wrap a.2, true) else (0, false)
theorem wrapU_nn (n : Int) : 0 ≤ IntKind.u64.wrap n := by
 have h : IntKind.u64.wrap n = n % 18446744073709551616 := by
  unfold IntKind.wrap
  first | rfl | (simp [IntKind.bits, IntKind.signed]; done) | skip
 rw [h]
 omega
theorem of_cl0 (n : Int) (H : List Blk) : ∃ lo, Cl G1 T 154 [.int .i64 n] H (wV (ofW n), (ap H [(.int .i64 (Int.fdiv n (2 ^ 63))), (.int .u64 (IntKind.u64.wrap n))]), lo) :=
 clV 1 (af := a154) (r := (.agg [(.int .i64 (Int.fdiv n (2 ^ 63))), (.int .u64 (IntKind.u64.wrap n))])) (h' := (ap H [(.int .i64 (Int.fdiv n (2 ^ 63))), (.int .u64 (IntKind.u64.wrap n))])) [.w (.alloc [(.int .i64 0), (.int .u64 0)]) (.ptr H.length 0) (ap H [(.int .i64 0), (.int .u64 0)]) none, .w (.store 2 (.c (.ptr H.length 0)) (.c (.agg [(.int .i64 (Int.fdiv n (2 ^ 63))), (.int .u64 (IntKind.u64.wrap n))]))) (.tup []) (ap H [(.int .i64 (Int.fdiv n (2 ^ 63))), (.int .u64 (IntKind.u64.wrap n))]) (some H.length), .l (.load (some 2) (.c (.ptr H.length 0))) (.agg [(.int .i64 (Int.fdiv n (2 ^ 63))), (.int .u64 (IntKind.u64.wrap n))])] [(.agg [(.int .i64 (Int.fdiv n (2 ^ 63))), (.int .u64 (IntKind.u64.wrap n))])] (by kernel_rfl) ⟨rfl, stZ, (ldV gl), trivial⟩
def g154 : List AV → Option AV
 | [.int .i64 n] => some (wV (ofW n))
 | _ => none
theorem of_ok : GOk Tryz.prog 154 (pureG g154) := by
 refine pureG_known ⟨_, Tryz.func154, by kernel_rfl, by kernel_rfl⟩ fun args r hr _ => ?_
 unfold g154 at hr
 split at hr <;> cases hr
 obtain ⟨lo, h⟩ := of_cl0 _ []
 exact pureS_cl K1 h (by kernel_rfl) rfl
theorem of_e {Γ : FuncId → Option GF} (hg : Γ 154 = some (pureG g154)) (n : Int) (H : List Blk) : Cl Γ T 154 [.int .i64 n] H (wV (ofW n), H, none) := Cl.pure (g := g154) hg rfl rfl rfl H
theorem add_cl0 {a b : Int × Int} (ha : 0 ≤ a.2) (hb : 0 ≤ b.2) (H : List Blk) : ∃ H' lo, Cl G1 T 156 [wV a, wV b] H (wV (addW a b), H', lo) := by
 have hx : Cl G1 T 173 [.int .u64 a.2, .int .u64 b.2, .int .u64 0] (ap (ap (ap H [(.int .i64 a.1), (.int .u64 a.2)]) [(.int .i64 b.1), (.int .u64 b.2)]) [(.int .i64 0), (.int .u64 0)]) (.tup [.int .u64 (sumU a.2 b.2), .int .u64 (carU a.2 b.2)], (ap (ap (ap H [(.int .i64 a.1), (.int .u64 a.2)]) [(.int .i64 b.1), (.int .u64 b.2)]) [(.int .i64 0), (.int .u64 0)]), none) := by
  refine Cl.known (g := extG xAdd) (by kernel_rfl) ?_
  simp [extG, xAdd, ha, hb, sumU, carU]
 exact ⟨(ap (ap (ap H [(.int .i64 a.1), (.int .u64 a.2)]) [(.int .i64 b.1), (.int .u64 b.2)]) [(.int .i64 (IntKind.i64.wrap ((IntKind.i64.wrap (a.1 + b.1)) + (IntKind.i64.wrap (carU a.2 b.2))))), (.int .u64 (sumU a.2 b.2))]), clV 1 (af := a156) (r := (.agg [(.int .i64 (IntKind.i64.wrap ((IntKind.i64.wrap (a.1 + b.1)) + (IntKind.i64.wrap (carU a.2 b.2))))), (.int .u64 (sumU a.2 b.2))])) (h' := (ap (ap (ap H [(.int .i64 a.1), (.int .u64 a.2)]) [(.int .i64 b.1), (.int .u64 b.2)]) [(.int .i64 (IntKind.i64.wrap ((IntKind.i64.wrap (a.1 + b.1)) + (IntKind.i64.wrap (carU a.2 b.2))))), (.int .u64 (sumU a.2 b.2))])) [.w (.box (.c (.agg [(.int .i64 a.1), (.int .u64 a.2)]))) (.ptr H.length 0) (ap H [(.int .i64 a.1), (.int .u64 a.2)]) none, .w (.box (.c (.agg [(.int .i64 b.1), (.int .u64 b.2)]))) (.ptr (List.length (ap H [(.int .i64 a.1), (.int .u64 a.2)])) 0) (ap (ap H [(.int .i64 a.1), (.int .u64 a.2)]) [(.int .i64 b.1), (.int .u64 b.2)]) none, .w (.alloc [(.int .i64 0), (.int .u64 0)]) (.ptr (List.length (ap (ap H [(.int .i64 a.1), (.int .u64 a.2)]) [(.int .i64 b.1), (.int .u64 b.2)])) 0) (ap (ap (ap H [(.int .i64 a.1), (.int .u64 a.2)]) [(.int .i64 b.1), (.int .u64 b.2)]) [(.int .i64 0), (.int .u64 0)]) none, .f (.load none (.c (.ptr H.length 1))) (.int .u64 a.2), .f (.load none (.c (.ptr (List.length (ap H [(.int .i64 a.1), (.int .u64 a.2)])) 1))) (.int .u64 b.2), .r 173 [(.int .u64 a.2), (.int .u64 b.2), (.int .u64 0)] (.tup [(.int .u64 (sumU a.2 b.2)), (.int .u64 (carU a.2 b.2))]) (ap (ap (ap H [(.int .i64 a.1), (.int .u64 a.2)]) [(.int .i64 b.1), (.int .u64 b.2)]) [(.int .i64 0), (.int .u64 0)]) none, .f (.load none (.c (.ptr H.length 0))) (.int .i64 a.1), .f (.load none (.c (.ptr (List.length (ap H [(.int .i64 a.1), (.int .u64 a.2)])) 0))) (.int .i64 b.1), .w (.store 2 (.c (.ptr (List.length (ap (ap H [(.int .i64 a.1), (.int .u64 a.2)]) [(.int .i64 b.1), (.int .u64 b.2)])) 0)) (.c (.agg [(.int .i64 (IntKind.i64.wrap ((IntKind.i64.wrap (a.1 + b.1)) + (IntKind.i64.wrap (carU a.2 b.2))))), (.int .u64 (sumU a.2 b.2))]))) (.tup []) (ap (ap (ap H [(.int .i64 a.1), (.int .u64 a.2)]) [(.int .i64 b.1), (.int .u64 b.2)]) [(.int .i64 (IntKind.i64.wrap ((IntKind.i64.wrap (a.1 + b.1)) + (IntKind.i64.wrap (carU a.2 b.2))))), (.int .u64 (sumU a.2 b.2))]) (some (List.length (ap (ap H [(.int .i64 a.1), (.int .u64 a.2)]) [(.int .i64 b.1), (.int .u64 b.2)]))), .l (.load (some 2) (.c (.ptr (List.length (ap (ap H [(.int .i64 a.1), (.int .u64 a.2)]) [(.int .i64 b.1), (.int .u64 b.2)])) 0))) (.agg [(.int .i64 (IntKind.i64.wrap ((IntKind.i64.wrap (a.1 + b.1)) + (IntKind.i64.wrap (carU a.2 b.2))))), (.int .u64 (sumU a.2 b.2))])] [(.agg [(.int .i64 (IntKind.i64.wrap ((IntKind.i64.wrap (a.1 + b.1)) + (IntKind.i64.wrap (carU a.2 b.2))))), (.int .u64 (sumU a.2 b.2))])] (by kernel_rfl) ⟨rfl, rfl, rfl, (ldV (ga (ga gl))), (ldV (ga gl)), hx, (ldV (ga (ga gl))), (ldV (ga gl)), stZ, (ldV gl), trivial⟩⟩
def g156 : List AV → Option AV
 | [.agg [.int .i64 h, .int .u64 l], .agg [.int .i64 h', .int .u64 l']] => if 0 ≤ l ∧ 0 ≤ l' then some (wV (addW (h, l) (h', l'))) else none
 | _ => none
theorem add_ok : GOk Tryz.prog 156 (pureG g156) := by
 refine pureG_known ⟨_, Tryz.func156, by kernel_rfl, by kernel_rfl⟩ fun args r hr _ => ?_
 unfold g156 at hr
 split at hr
 ·split at hr <;> cases hr
  rename_i h l h' l' _ hc
  obtain ⟨H', lo, h⟩ := add_cl0 (a := (h, l)) (b := (h', l')) hc.1 hc.2 []
  exact pureS_cl K1 h (by kernel_rfl) rfl
 ·cases hr
theorem add_e {Γ : FuncId → Option GF} (hg : Γ 156 = some (pureG g156)) {a b : Int × Int} (ha : 0 ≤ a.2) (hb : 0 ≤ b.2) (H : List Blk) : Cl Γ T 156 [wV a, wV b] H (wV (addW a b), H, none) := Cl.pure (g := g156) hg (show g156 [wV a, wV b] = some (wV (addW a b)) from if_pos ⟨ha, hb⟩) rfl rfl H
noncomputable def gam2 : List (Nat × GF) := (154, pureG g154) :: (156, pureG g156) :: (120, pureG g120) :: gam1
theorem K2 : Known (gGet gam2) tree.get Tryz.prog := known_of (by kernel_rfl) ⟨of_ok, add_ok, cmp_ok, good_ok, xSub_ok, xAdd_ok, trivial⟩ all
noncomputable abbrev G2 : FuncId → Option GF := gGet gam2
theorem eqW {a b : Int × Int} (h : ¬ a = b) {H : List Blk} : pOp evC H (.eqS true [1, 1] (.c (.agg [.int .i64 a.1, .int .u64 a.2])) (.c (.agg [.int .i64 b.1, .int .u64 b.2]))) = some (.bool true) := by
 obtain ⟨a1, a2⟩ := a
 obtain ⟨b1, b2⟩ := b
 by_cases h1 : a1 = b1
 ·have h2 : a2 ≠ b2 := fun h2 => h (by rw [h1, h2])
  simp [pOp, evC, eqL, eq1, h1, beq_false_of_ne h2]
 ·simp [pOp, evC, eqL, eq1, beq_false_of_ne h1]
theorem eqW0 {a b : Int × Int} (h : a = b) {H : List Blk} : pOp evC H (.eqS true [1, 1] (.c (.agg [.int .i64 a.1, .int .u64 a.2])) (.c (.agg [.int .i64 b.1, .int .u64 b.2]))) = some (.bool false) := by
 subst h
 simp [pOp, evC, eqL, eq1]
theorem int_cl (a : Int × Int) (H : List Blk) : ∃ H' lo, Cl G2 T 147 [wV a] H (.tup [.int .i64 (intW a).1, .bool (intW a).2], H', lo) := by
 by_cases h : ofW (IntKind.i64.wrap a.2) = a
 ·rw [show intW a = (IntKind.i64.wrap a.2, true) by unfold intW; rw [if_pos h]]
  exact ⟨(ap H [(.int .i64 a.1), (.int .u64 a.2)]), clV 1 (af := a147) (r := (.tup [(.int .i64 (IntKind.i64.wrap a.2)), (.bool true)])) (h' := (ap H [(.int .i64 a.1), (.int .u64 a.2)])) [.w (.box (.c (.agg [(.int .i64 a.1), (.int .u64 a.2)]))) (.ptr H.length 0) (ap H [(.int .i64 a.1), (.int .u64 a.2)]) none, .f (.load none (.c (.ptr H.length 1))) (.int .u64 a.2), .r 154 [(.int .i64 (IntKind.i64.wrap a.2))] (.agg [(.int .i64 (ofH (IntKind.i64.wrap a.2))), (.int .u64 (ofL (IntKind.i64.wrap a.2)))]) (ap H [(.int .i64 a.1), (.int .u64 a.2)]) none, .p (stays evC (AOper.mk (some 10) (.load (some 2) (.c (.ptr H.length 0))) none 0 1) (.agg [(.int .i64 a.1), (.int .u64 a.2)]) [(ap H [(.int .i64 a.1), (.int .u64 a.2)]), (ap H [(.int .i64 a.1), (.int .u64 a.2)])] = true), .f (.load (some 2) (.c (.ptr H.length 0))) (.agg [(.int .i64 a.1), (.int .u64 a.2)]), .q (.eqS true [1, 1] (.c (.agg [(.int .i64 (ofH (IntKind.i64.wrap a.2))), (.int .u64 (ofL (IntKind.i64.wrap a.2)))])) (.c (.agg [(.int .i64 a.1), (.int .u64 a.2)]))) false] [] (by kernel_rfl) ⟨rfl, (ldV gl), (of_e (by kernel_rfl) _ _), (stays2 (by simp [eqv, eqvL]) (And.intro (ldV gl) (And.intro (ldV gl) trivial))), (ldV gl), (eqW0 h), trivial⟩⟩
 ·rw [show intW a = (0, false) by unfold intW; rw [if_neg h]]
  exact ⟨(ap H [(.int .i64 a.1), (.int .u64 a.2)]), clV 1 (af := a147) (r := (.tup [(.int .i64 0), (.bool false)])) (h' := (ap H [(.int .i64 a.1), (.int .u64 a.2)])) [.w (.box (.c (.agg [(.int .i64 a.1), (.int .u64 a.2)]))) (.ptr H.length 0) (ap H [(.int .i64 a.1), (.int .u64 a.2)]) none, .f (.load none (.c (.ptr H.length 1))) (.int .u64 a.2), .r 154 [(.int .i64 (IntKind.i64.wrap a.2))] (.agg [(.int .i64 (ofH (IntKind.i64.wrap a.2))), (.int .u64 (ofL (IntKind.i64.wrap a.2)))]) (ap H [(.int .i64 a.1), (.int .u64 a.2)]) none, .p (stays evC (AOper.mk (some 10) (.load (some 2) (.c (.ptr H.length 0))) none 0 1) (.agg [(.int .i64 a.1), (.int .u64 a.2)]) [(ap H [(.int .i64 a.1), (.int .u64 a.2)]), (ap H [(.int .i64 a.1), (.int .u64 a.2)])] = true), .f (.load (some 2) (.c (.ptr H.length 0))) (.agg [(.int .i64 a.1), (.int .u64 a.2)]), .q (.eqS true [1, 1] (.c (.agg [(.int .i64 (ofH (IntKind.i64.wrap a.2))), (.int .u64 (ofL (IntKind.i64.wrap a.2)))])) (.c (.agg [(.int .i64 a.1), (.int .u64 a.2)]))) true] [] (by kernel_rfl) ⟨rfl, (ldV gl), (of_e (by kernel_rfl) _ _), (stays2 (by simp [eqv, eqvL]) (And.intro (ldV gl) (And.intro (ldV gl) trivial))), (ldV gl), (eqW h), trivial⟩⟩
def g147 : List AV → Option AV
 | [.agg [.int .i64 h, .int .u64 l]] => some (.tup [.int .i64 (intW (h, l)).1, .bool (intW (h, l)).2])
 | _ => none
theorem int_ok : GOk Tryz.prog 147 (pureG g147) := by
 refine pureG_known ⟨_, Tryz.func147, by kernel_rfl, by kernel_rfl⟩ fun args r hr _ => ?_
 unfold g147 at hr
 split at hr <;> cases hr
 rename_i h l _
 obtain ⟨H', lo, h⟩ := int_cl (h, l) []
 exact pureS_cl K2 h (by kernel_rfl) rfl
theorem int_e {Γ : FuncId → Option GF} (hg : Γ 147 = some (pureG g147)) (a : Int × Int) (H : List Blk) : Cl Γ T 147 [wV a] H (.tup [.int .i64 (intW a).1, .bool (intW a).2], H, none) := Cl.pure (g := g147) hg rfl rfl rfl H
def bXor (k : IntKind) (x y : Int) : Int := k.wrap ((BitVec.ofInt k.bits x ^^^ BitVec.ofInt k.bits y).toNat : Int)
def bOr (k : IntKind) (x y : Int) : Int := k.wrap ((BitVec.ofInt k.bits x ||| BitVec.ofInt k.bits y).toNat : Int)
def codeB (n : Int) (i : Int) : UInt8 := UInt8.ofNat (IntKind.u8.wrap (Int.fdiv (bXor .u64 (IntKind.u64.wrap n) 9223372036854775808) (2 ^ (min (IntKind.i64.wrap (8 * i)).toNat 64)))).toNat
def codeNum (n : Int) : List UInt8 := [1, codeB n 7, codeB n 6, codeB n 5, codeB n 4, codeB n 3, codeB n 2, codeB n 1, codeB n 0]
def res1 : Option (AV × List Blk × Option Nat) → Option AV
 | some (r, _, _) => some r
 | none => none
theorem res1_some {x r} (h : res1 x = some r) : ∃ h' lo, x = some (r, h', lo) := by
 match x, h with
 | some (r, h', lo), h => cases h; exact ⟨h', lo, rfl⟩
theorem code_ev (n : Int) : res1 (callX G2 T 100 124 [vV ⟨1, n, []⟩] []) = some (.tup [.str (codeNum n), .int .i64 0]) := by kernel_rfl
def isNum (v : Val) : Bool := decide (v.k = 1) && bytesEq v.s []
theorem isNum_eq {v : Val} (h : isNum v = true) : v = ⟨1, v.n, []⟩ := by
 obtain ⟨k, n, s⟩ := v
 simp only [isNum, Bool.and_eq_true, decide_eq_true_eq, bytesEq_iff] at h
 rw [h.1, h.2]
def g124 : List AV → Option AV
 | [.agg [.int .i64 k, .int .i64 n, .str s]] => if isNum ⟨k, n, s⟩ then some (.tup [.str (codeNum n), .int .i64 0]) else none
 | _ => none
theorem code_ok : GOk Tryz.prog 124 (pureG g124) := by
 refine pureG_known ⟨_, Tryz.func124, by kernel_rfl, by kernel_rfl⟩ fun args r hr _ => ?_
 unfold g124 at hr
 split at hr
 ·split at hr <;> cases hr
  rename_i k n s _ hc
  have e := isNum_eq hc
  obtain ⟨h', lo, h⟩ := res1_some (code_ev n)
  simp only [Val.mk.injEq] at e
  obtain ⟨rfl, -, rfl⟩ := e
  exact pureS_cl K2 (Cl.ev h) (by kernel_rfl) rfl
 ·cases hr
theorem code_e {Γ : FuncId → Option GF} (hg : Γ 124 = some (pureG g124)) {v : Val} (h : isNum v = true) (H : List Blk) : Cl Γ T 124 [vV v] H (.tup [.str (codeNum v.n), .int .i64 0], H, none) := Cl.pure (g := g124) hg (show g124 [vV v] = some (.tup [.str (codeNum v.n), .int .i64 0]) from if_pos h) rfl rfl H
noncomputable def gam3 : List (Nat × GF) := (124, pureG g124) :: (147, pureG g147) :: gam2
theorem K3 : Known (gGet gam3) tree.get Tryz.prog := known_of (by kernel_rfl) ⟨code_ok, int_ok, of_ok, add_ok, cmp_ok, good_ok, xSub_ok, xAdd_ok, trivial⟩ all
noncomputable abbrev G3 : FuncId → Option GF := gGet gam3
open Go
abbrev tV (c : List Int) : AV := .agg [.ro (c.map iV) 1 false]
abbrev rV (row : List Val) : AV := .ro (row.map vV) 3 false
abbrev Vw := Int × Int × List Int
abbrev vwV (v : Vw) : AV := .agg [.int .i64 v.1, .int .i64 v.2.1, .ro (v.2.2.map iV) 1 false]
abbrev pL (T : List (List Int)) (V : List Vw) : List AV := [.ro (T.map tV) 1 false, .ro (V.map vwV) 3 false]
abbrev pA (T : List (List Int)) (V : List Vw) : AV := .agg (pL T V)
def fitsRow : List Int → List Val → Bool
 | [], [] => true
 | c :: cs, v :: vs => decide (v.k = c) && (goodVal v && fitsRow cs vs)
 | _, _ => false
def fitsB (T : List (List Int)) (t : Int) (row : List Val) : Bool := if t < 0 then false else match T[t.toNat]? with
 | some c => fitsRow c row
 | none => false
def fitsE (T : List (List Int)) (t : Int) (row : List Val) : Int := if fitsB T t row then 0 else 1
theorem fitsRow_len : ∀ {c : List Int} {r : List Val}, fitsRow c r = true → r.length = c.length
 | [], [], _ => rfl
 | c :: cs, v :: vs, h => by
  simp only [fitsRow, Bool.and_eq_true] at h
  simp [fitsRow_len h.2.2]
 | [], _ :: _, h => by cases h
 | _ :: _, [], h => by cases h
theorem fitsRow_ne : ∀ {c : List Int} {r : List Val}, r.length ≠ c.length → fitsRow c r = false := fun {c r} h => by
 cases hf : fitsRow c r with
 | true => exact absurd (fitsRow_len hf) h
 | false => rfl
def LvF (T : List (List Int)) (V : List Vw) (t : Int) (row : List Val) : List (Nat × AV) := [(1, .int .i64 t), (2, rV row), (3, .ptr 0 0), (30, rV row), (31, .int .i64 (row.length : Int))]
theorem fits_cl {T : List (List Int)} {V : List Vw} {t : Int} {row : List Val} (hT0 : T.length ≤ 9223372036854775807) (hr : row.length ≤ 9223372036854775807) : ∃ r h' lo, r = .int .i64 (fitsE T t row) ∧ Cl G3 Mo.T 117 [pA T V, .int .i64 t, rV row] [] (r, h', lo) := by
 refine clE (Γ := G3) (tbl := Mo.T) (f := 117) (af := a117) (args := [pA T V, .int .i64 t, rV row]) (h := []) (by kernel_rfl) (by kernel_rfl) (by kernel_rfl) (fun r _ => r = .int .i64 (fitsE T t row)) ?_
 have fin : ∀ {t2 : List AV} {H : List Blk} {lo} {e : Int}, Lv 55 [(6, .int .i64 e)] t2 → e = fitsE T t row → ∃ vs, resAll ({ t := t2, h := H, lo := lo } : St) a117.res = some vs ∧ packRes vs = .int .i64 (fitsE T t row) := by
  intro t2 H lo e hl he
  refine ⟨[.int .i64 e], ?_, by rw [he]; rfl⟩
  have := hl.get _ List.mem_cons_self
  simp only [getX_eq] at this
  show resAll _ [.t 6] = _
  simp only [resAll, resOf, this]
 refine Wp.seq ((path4 (nt := 55) (live := [(0, pA T V), (1, .int .i64 t), (2, rV row)]) [] [1, 2, 3] (e := .normal) (vals := [.int .i64 t, rV row, .ptr 0 0]) (h' := [.cells (pL T V)]) [] (Lv.start (by rfl) (by simp)) (fun t0 => by kernel_rfl) trivial).mono ?_)
 rintro e s ⟨rfl, t1, lo1, rfl, hl1⟩
 have h0 : ([.cells (pL T V)] : List Blk)[0]? = some (.cells (pL T V)) := rfl
 generalize ([.cells (pL T V)] : List Blk) = H at h0 hl1 ⊢
 refine Wp.seq ?_
 by_cases h1 : t < 0
 ·refine (pathE (nt := 55) [.b (decide (t < 0)) true] [6] (e := .ret) (vals := [(.int .i64 1)]) (h' := H) hl1 (fun _ => by kernel_rfl) ⟨(cT h1), trivial⟩).mono ?_
  rintro e s ⟨rfl, t2, lo2, rfl, hl2⟩
  exact ⟨rfl, fin hl2 (by simp [fitsE, fitsB, h1])⟩
 by_cases h2 : t ≥ ((List.map tV T).length : Int)
 ·refine (pathE (nt := 55) [.b (decide (t < 0)) false, .f (.load none (.c (.ptr 0 0))) (.ro (T.map tV) 1 false), .b (decide (t ≥ ((List.length (T.map tV)) : Int))) true] [6] (e := .ret) (vals := [(.int .i64 1)]) (h' := H) hl1 (fun _ => by kernel_rfl) ⟨(cF h1), (ldV h0), (cT h2), trivial⟩).mono ?_
  rintro e s ⟨rfl, t2, lo2, rfl, hl2⟩
  rw [List.length_map] at h2
  exact ⟨rfl, fin hl2 (by simp [fitsE, fitsB, h1, List.getElem?_eq_none (show T.length ≤ t.toNat by omega)])⟩
 have h2' : t.toNat < T.length := by rw [List.length_map] at h2; omega
 have hc := List.getElem?_eq_getElem h2'
 generalize T[t.toNat] = c at hc
 have hT : (List.map tV T)[t.toNat]? = some (.agg [.ro (c.map iV) 1 false]) := by simp [hc]
 have hfb : fitsE T t row = if fitsRow c row then 0 else 1 := by simp [fitsE, fitsB, h1, hc]
 have c2l : t < ((T.map tV).length : Int) := by omega
 by_cases h3 : ((List.map vV row).length : Int) = ((List.map iV c).length : Int)
 case neg =>
  refine (pathE (nt := 55) [.b (decide (t < 0)) false, .f (.load none (.c (.ptr 0 0))) (.ro (T.map tV) 1 false), .b (decide (t ≥ ((List.length (T.map tV)) : Int))) false, .f (.load none (.c (.ptr 0 0))) (.ro (T.map tV) 1 false), .p (1 = 1), .p ((0 : Int) ≤ t), .p ((t : Int) < (List.length (T.map tV) : Int)), .e (T.map tV) (Int.toNat t) (.agg [(.ro (c.map iV) 1 false)]), .b (((List.length (row.map vV)) : Int) != ((List.length (c.map iV)) : Int)) true] [6] (e := .ret) (vals := [(.int .i64 1)]) (h' := H) hl1 (fun _ => by kernel_rfl) ⟨(cF h1), (ldV h0), (cF h2), (ldV h0), rfl, (by omega), (by omega), hT, (cD h3), trivial⟩).mono ?_
  rintro e s ⟨rfl, t2, lo2, rfl, hl2⟩
  exact ⟨rfl, fin hl2 (by rw [hfb, fitsRow_ne (by simp at h3; omega)]; rfl)⟩
 refine (pathE (nt := 55) [.b (decide (t < 0)) false, .f (.load none (.c (.ptr 0 0))) (.ro (T.map tV) 1 false), .b (decide (t ≥ ((List.length (T.map tV)) : Int))) false, .f (.load none (.c (.ptr 0 0))) (.ro (T.map tV) 1 false), .p (1 = 1), .p ((0 : Int) ≤ t), .p ((t : Int) < (List.length (T.map tV) : Int)), .e (T.map tV) (Int.toNat t) (.agg [(.ro (c.map iV) 1 false)]), .b (((List.length (row.map vV)) : Int) != ((List.length (c.map iV)) : Int)) false] [1, 2, 3] (e := .normal) (vals := [(.int .i64 t), (.ro (row.map vV) 3 false), (.ptr 0 0)]) (h' := H) hl1 (fun _ => by kernel_rfl) ⟨(cF h1), (ldV h0), (cF h2), (ldV h0), rfl, (by omega), (by omega), hT, (cS h3), trivial⟩).mono ?_
 rintro e s ⟨rfl, t2, lo2, rfl, hl2⟩
 have hlc : row.length = c.length := by simp at h3; omega
 refine Wp.seq ?_
 refine Wp.seq ((pathE (nt := 55) [] [32, 1, 2, 3, 30, 31] (e := .normal) (vals := [(.int .i64 0), (.int .i64 t), (.ro (row.map vV) 3 false), (.ptr 0 0), (.ro (row.map vV) 3 false), (.int .i64 ((List.length (row.map vV)) : Int))]) (h' := H) hl2 (fun _ => by kernel_rfl) trivial).mono ?_)
 rintro e s ⟨rfl, t3, lo3, rfl, hl3⟩
 simp only [List.length_map] at hl3
 refine (rangeL (X := List Blk) (N := row.length) (fun _ _ => LvF T V t row) (fun _ H => H) (fun k H => H[0]? = some (.cells (pL T V)) ∧ fitsRow c row = fitsRow (c.drop k) (row.drop k)) (fun s => ∃ t lo H, s = { t := t, h := H, lo := lo } ∧ Lv 55 [(6, .int .i64 1)] t ∧ fitsRow c row = false)
  hr (by decide) (by decide) (by decide) (by decide) (by decide) (fun _ _ => rfl) (fun _ _ => rfl) ?_ (x0 := H) ⟨h0, rfl⟩ hl3).mono ?_
 ·rintro k H t4 lo4 hkN ⟨h0, hfk⟩ hlb
  have hkc : k < c.length := by omega
  rw [List.drop_eq_getElem_cons hkN, List.drop_eq_getElem_cons hkc, fitsRow] at hfk
  have hv : (List.map vV row)[(k : Int).toNat]? = some (.agg (enV row[k])) := by simp [hkN]
  have hk : (List.map iV c)[(k : Int).toNat]? = some (.int .i64 c[k]) := by simp [hkc]
  generalize row[k] = v at hv hfk
  generalize c[k] = ck at hk hfk
  by_cases h4 : v.k = ck
  ·cases hgv : goodVal v with
   | false =>
    refine (pathE (nt := 55) [.p (3 = 3), .p ((0 : Int) ≤ (k : Int)), .p (((k : Int) : Int) < (List.length (row.map vV) : Int)), .e (row.map vV) (Int.toNat (k : Int)) (.agg (enV v)), .w (.alloc [(.int .i64 0), (.int .i64 0), (.str [])]) (.ptr H.length 0) (ap H [(.int .i64 0), (.int .i64 0), (.str [])]) none, .w (.store 3 (.c (.ptr H.length 0)) (.c (.agg (enV v)))) (.tup []) (ap H (enV v)) (some H.length), .f (.load none (.c (.ptr H.length 0))) (.int .i64 v.k), .f (.load none (.c (.ptr 0 0))) (.ro (T.map tV) 1 false), .p (1 = 1), .p ((0 : Int) ≤ t), .p ((t : Int) < (List.length (T.map tV) : Int)), .e (T.map tV) (Int.toNat t) (.agg [(.ro (c.map iV) 1 false)]), .p (1 = 1), .p ((0 : Int) ≤ (k : Int)), .p (((k : Int) : Int) < (List.length (c.map iV) : Int)), .e (c.map iV) (Int.toNat (k : Int)) (.int .i64 ck), .b (v.k != ck) false, .f (.load (some 3) (.c (.ptr H.length 0))) (.agg (enV v)), .r 142 [(.agg (enV v))] (.bool false) (ap H (enV v)) none] [6] (e := .ret) (vals := [(.int .i64 1)]) (h' := (ap H (enV v))) hlb (fun _ => by kernel_rfl) ⟨rfl, (by omega), (by simp; omega), hv, rfl, stZ, (ldV gl), (ldV (ga h0)), rfl, (by omega), (by omega), hT, rfl, (by omega), (by simp; omega), hk, (cS h4), (ldV gl), (hgv ▸ good_e (by kernel_rfl) v _), trivial⟩).mono ?_
    rintro e s ⟨rfl, t5, lo5, rfl, hl5⟩
    exact .inr ⟨rfl, t5, lo5, _, rfl, hl5, by rw [hfk, hgv]; simp⟩
   | true =>
    refine (pathE (nt := 55) [.p (3 = 3), .p ((0 : Int) ≤ (k : Int)), .p (((k : Int) : Int) < (List.length (row.map vV) : Int)), .e (row.map vV) (Int.toNat (k : Int)) (.agg (enV v)), .w (.alloc [(.int .i64 0), (.int .i64 0), (.str [])]) (.ptr H.length 0) (ap H [(.int .i64 0), (.int .i64 0), (.str [])]) none, .w (.store 3 (.c (.ptr H.length 0)) (.c (.agg (enV v)))) (.tup []) (ap H (enV v)) (some H.length), .f (.load none (.c (.ptr H.length 0))) (.int .i64 v.k), .f (.load none (.c (.ptr 0 0))) (.ro (T.map tV) 1 false), .p (1 = 1), .p ((0 : Int) ≤ t), .p ((t : Int) < (List.length (T.map tV) : Int)), .e (T.map tV) (Int.toNat t) (.agg [(.ro (c.map iV) 1 false)]), .p (1 = 1), .p ((0 : Int) ≤ (k : Int)), .p (((k : Int) : Int) < (List.length (c.map iV) : Int)), .e (c.map iV) (Int.toNat (k : Int)) (.int .i64 ck), .b (v.k != ck) false, .f (.load (some 3) (.c (.ptr H.length 0))) (.agg (enV v)), .r 142 [(.agg (enV v))] (.bool true) (ap H (enV v)) none] [32, 1, 2, 3, 30, 31] (e := .normal) (vals := [(.int .i64 (k : Int)), (.int .i64 t), (.ro (row.map vV) 3 false), (.ptr 0 0), (.ro (row.map vV) 3 false), (.int .i64 (row.length : Int))]) (h' := (ap H (enV v))) hlb (fun _ => by kernel_rfl) ⟨rfl, (by omega), (by simp; omega), hv, rfl, stZ, (ldV gl), (ldV (ga h0)), rfl, (by omega), (by omega), hT, rfl, (by omega), (by simp; omega), hk, (cS h4), (ldV gl), (hgv ▸ good_e (by kernel_rfl) v _), trivial⟩).mono ?_
    rintro e s ⟨rfl, t5, lo5, rfl, hl5⟩
    exact .inl ⟨rfl, _, t5, lo5, rfl, ⟨ga h0, by rw [hfk, hgv, decide_eq_true h4]; simp⟩, hl5⟩
  ·refine (pathE (nt := 55) [.p (3 = 3), .p ((0 : Int) ≤ (k : Int)), .p (((k : Int) : Int) < (List.length (row.map vV) : Int)), .e (row.map vV) (Int.toNat (k : Int)) (.agg (enV v)), .w (.alloc [(.int .i64 0), (.int .i64 0), (.str [])]) (.ptr H.length 0) (ap H [(.int .i64 0), (.int .i64 0), (.str [])]) none, .w (.store 3 (.c (.ptr H.length 0)) (.c (.agg (enV v)))) (.tup []) (ap H (enV v)) (some H.length), .f (.load none (.c (.ptr H.length 0))) (.int .i64 v.k), .f (.load none (.c (.ptr 0 0))) (.ro (T.map tV) 1 false), .p (1 = 1), .p ((0 : Int) ≤ t), .p ((t : Int) < (List.length (T.map tV) : Int)), .e (T.map tV) (Int.toNat t) (.agg [(.ro (c.map iV) 1 false)]), .p (1 = 1), .p ((0 : Int) ≤ (k : Int)), .p (((k : Int) : Int) < (List.length (c.map iV) : Int)), .e (c.map iV) (Int.toNat (k : Int)) (.int .i64 ck), .b (v.k != ck) true] [6] (e := .ret) (vals := [(.int .i64 1)]) (h' := (ap H (enV v))) hlb (fun _ => by kernel_rfl) ⟨rfl, (by omega), (by simp; omega), hv, rfl, stZ, (ldV gl), (ldV (ga h0)), rfl, (by omega), (by omega), hT, rfl, (by omega), (by simp; omega), hk, (cD h4), trivial⟩).mono ?_
   rintro e s ⟨rfl, t5, lo5, rfl, hl5⟩
   exact .inr ⟨rfl, t5, lo5, _, rfl, hl5, by rw [hfk, decide_eq_false h4]; rfl⟩
 ·rintro e s (⟨rfl, H', t5, lo5, rfl, ⟨h0', hfe⟩, hle⟩ | ⟨rfl, t5, lo5, H', rfl, hl5, hff⟩)
  ·refine (pathE (nt := 55) [] [6] (e := .ret) (vals := [(.int .i64 0)]) (h' := H') hle (fun _ => by kernel_rfl) trivial).mono ?_
   rintro e s ⟨rfl, t6, lo6, rfl, hl6⟩
   refine ⟨rfl, fin hl6 ?_⟩
   rw [hfb, hfe, List.drop_eq_nil_of_le (by omega), List.drop_eq_nil_of_le (by omega)]
   rfl
  ·exact ⟨rfl, fin hl5 (by rw [hfb, hff]; rfl)⟩
open Go
theorem iV_inj (a b : Int) (h : iV a = iV b) : a = b := by cases h; rfl
theorem vV_inj (a b : Val) (h : vV a = vV b) : a = b := by
 obtain ⟨a1, a2, a3⟩ := a
 obtain ⟨b1, b2, b3⟩ := b
 simp only [AV.agg.injEq, List.cons.injEq, AV.int.injEq, AV.str.injEq] at h
 obtain ⟨⟨-, h1⟩, ⟨-, h2⟩, h3, -⟩ := h
 rw [h1, h2, h3]
theorem tV_inj (a b : List Int) (h : tV a = tV b) : a = b := by
 simp only [AV.agg.injEq, List.cons.injEq, AV.ro.injEq] at h
 exact map_inj iV_inj h.1.1
theorem rV_inj (a b : List Val) (h : rV a = rV b) : a = b := by
 simp only [AV.ro.injEq] at h
 exact map_inj vV_inj h.1
theorem vwV_inj (a b : Vw) (h : vwV a = vwV b) : a = b := by
 obtain ⟨a1, a2, a3⟩ := a
 obtain ⟨b1, b2, b3⟩ := b
 simp only [AV.agg.injEq, List.cons.injEq, AV.int.injEq, AV.ro.injEq] at h
 obtain ⟨⟨-, h1⟩, ⟨-, h2⟩, h3, -⟩ := h
 rw [h1, h2, map_inj iV_inj h3.1]
theorem pA_inj {T T' : List (List Int)} {V V' : List Vw} (h : pA T V = pA T' V') : T = T' ∧ V = V' := by
 simp only [AV.agg.injEq, List.cons.injEq, AV.ro.injEq] at h
 exact ⟨map_inj tV_inj h.1.1, map_inj vwV_inj h.2.1.1⟩
theorem clo_tV (c : List Int) : clo (tV c) = true := by simp [tV, clo, cloL, cloL_map (f := iV) (fun _ => rfl) c]
theorem clo_vwV (v : Vw) : clo (vwV v) = true := by simp [vwV, clo, cloL, cloL_map (f := iV) (fun _ => rfl) v.2.2]
theorem clo_rV (r : List Val) : clo (rV r) = true := by simp [rV, clo, cloL_map (f := vV) (fun _ => rfl) r]
theorem clo_pA (T V) : clo (pA T V) = true := by simp [pA, clo, cloL, cloL_map clo_tV T, cloL_map clo_vwV V]
theorem clo_3 (T V) (t : Int) (row : List Val) : cloL [pA T V, .int .i64 t, rV row] = true := by
 simp only [cloL, clo_pA, clo_rV, Bool.and_true]
 rfl
abbrev FitA := List (List Int) × List Vw × Int × List Val
def okFit (x : FitA) : Prop := x.1.length ≤ 9223372036854775807 ∧ x.2.2.2.length ≤ 9223372036854775807
abbrev enFit (x : FitA) : List AV := [pA x.1 x.2.1, .int .i64 x.2.2.1, rV x.2.2.2]
abbrev fFit (x : FitA) : AV := .int .i64 (fitsE x.1 x.2.2.1 x.2.2.2)
noncomputable def g117 : List AV → Option AV := gOf okFit enFit fFit
theorem fit_ok : GOk Tryz.prog 117 (pureG g117) := gOf_ok ⟨_, Tryz.func117, by kernel_rfl, by kernel_rfl⟩ fun x hx => by
 obtain ⟨r, h', lo, rfl, h⟩ := fits_cl (V := x.2.1) (t := x.2.2.1) hx.1 hx.2
 exact pureS_cl K3 h (by kernel_rfl) rfl
theorem fit_e {Γ : FuncId → Option GF} (hg : Γ 117 = some (pureG g117)) {T : List (List Int)} {V : List Vw} {t : Int} {row : List Val} (hT : T.length ≤ 9223372036854775807) (hr : row.length ≤ 9223372036854775807) (H : List Blk) : Cl Γ Mo.T 117 [pA T V, .int .i64 t, rV row] H (.int .i64 (fitsE T t row), H, none) :=
 Cl.pure (g := g117) hg (gOf_eq (ok := okFit) (en := enFit) (f := fFit) (fun a b _ _ h => by
  obtain ⟨a1, a2, a3, a4⟩ := a
  obtain ⟨b1, b2, b3, b4⟩ := b
  simp only [List.cons.injEq] at h
  obtain ⟨h1, h2, h3, -⟩ := h
  rw [(pA_inj h1).1, rV_inj _ _ h3, iV_inj _ _ h2]) (a := (T, V, t, row)) ⟨hT, hr⟩) (clo_3 T V _ row) rfl H
theorem fitsE_0 {T t row} : fitsE T t row = 0 ↔ fitsB T t row = true := by unfold fitsE; split <;> simp_all
noncomputable def gam4 : List (Nat × GF) := (117, pureG g117) :: gam3
theorem K4 : Known (gGet gam4) tree.get Tryz.prog := known_of (by kernel_rfl) ⟨fit_ok, code_ok, int_ok, of_ok, add_ok, cmp_ok, good_ok, xSub_ok, xAdd_ok, trivial⟩ all
noncomputable abbrev G4 : FuncId → Option GF := gGet gam4
def groupS (T : List (List Int)) (V : List Vw) (v : Int) (row : List Val) : List UInt8 := if v < 0 then [] else match V[v.toNat]? with
 | some w => if fitsB T w.1 row then (match row[w.2.1.toNat]? with | some x => codeNum x.n | none => []) else []
 | none => []
def OkGr (T : List (List Int)) (V : List Vw) (row : List Val) : Prop := ∀ w ∈ V, fitsB T w.1 row = true → 0 ≤ w.2.1 ∧ ∃ x, row[w.2.1.toNat]? = some x ∧ isNum x = true
theorem group_cl {T : List (List Int)} {V : List Vw} {v : Int} {row : List Val} (hT : T.length ≤ 9223372036854775807) (hr : row.length ≤ 9223372036854775807) (hok : OkGr T V row) : ∃ H' lo, Cl G4 Mo.T 129 [pA T V, .int .i64 v, rV row] [] (.str (groupS T V v row), H', lo) := by
 by_cases h1 : v < 0
 ·rw [show groupS T V v row = [] by simp [groupS, h1]]
  exact ⟨(ap ([] : List Blk) (pL T V)), clV 1 (af := a129) (r := (.str [])) (h' := (ap ([] : List Blk) (pL T V))) [.w (.box (.c (.agg (pL T V)))) (.ptr (List.length ([] : List Blk)) 0) (ap ([] : List Blk) (pL T V)) none, .b (decide (v < 0)) true] [] (by kernel_rfl) ⟨rfl, (cT h1), trivial⟩⟩
 by_cases h2 : v ≥ ((List.map vwV V).length : Int)
 ·rw [show groupS T V v row = [] by rw [List.length_map] at h2; simp [groupS, h1, List.getElem?_eq_none (show V.length ≤ v.toNat by omega)]]
  exact ⟨(ap ([] : List Blk) (pL T V)), clV 1 (af := a129) (r := (.str [])) (h' := (ap ([] : List Blk) (pL T V))) [.w (.box (.c (.agg (pL T V)))) (.ptr (List.length ([] : List Blk)) 0) (ap ([] : List Blk) (pL T V)) none, .b (decide (v < 0)) false, .f (.load none (.c (.ptr (List.length ([] : List Blk)) 1))) (.ro (V.map vwV) 3 false), .b (decide (v ≥ ((List.length (V.map vwV)) : Int))) true] [] (by kernel_rfl) ⟨rfl, (cF h1), (ldV gl), (cT h2), trivial⟩⟩
 have h2' : v.toNat < V.length := by rw [List.length_map] at h2; omega
 have hw0 := List.getElem?_eq_getElem h2'
 have hwm := List.getElem_mem h2'
 generalize V[v.toNat] = w at hw0 hwm
 have hw : (List.map vwV V)[v.toNat]? = some (.agg [(.int .i64 (Prod.fst w)), (.int .i64 (Prod.fst (Prod.snd w))), (.ro (List.map iV (Prod.snd (Prod.snd w))) 1 false)]) := by simp [hw0]
 rw [List.length_map] at h2
 cases hf : fitsB T w.1 row with
 | false =>
  rw [show groupS T V v row = [] by simp [groupS, h1, hw0, hf]]
  have hfe : fitsE T w.1 row = 1 := by simp [fitsE, hf]
  rw [← List.length_map (f := vwV)] at h2
  exact ⟨(ap ([] : List Blk) (pL T V)), clV 1 (af := a129) (r := (.str [])) (h' := (ap ([] : List Blk) (pL T V))) [.w (.box (.c (.agg (pL T V)))) (.ptr (List.length ([] : List Blk)) 0) (ap ([] : List Blk) (pL T V)) none, .b (decide (v < 0)) false, .f (.load none (.c (.ptr (List.length ([] : List Blk)) 1))) (.ro (V.map vwV) 3 false), .b (decide (v ≥ ((List.length (V.map vwV)) : Int))) false, .f (.load (some 2) (.c (.ptr (List.length ([] : List Blk)) 0))) (.agg (pL T V)), .f (.load none (.c (.ptr (List.length ([] : List Blk)) 1))) (.ro (V.map vwV) 3 false), .p (3 = 3), .p ((0 : Int) ≤ v), .p ((v : Int) < (List.length (V.map vwV) : Int)), .e (V.map vwV) (Int.toNat v) (.agg [(.int .i64 (Prod.fst w)), (.int .i64 (Prod.fst (Prod.snd w))), (.ro (List.map iV (Prod.snd (Prod.snd w))) 1 false)]), .r 117 [(.agg (pL T V)), (.int .i64 (Prod.fst w)), (.ro (row.map vV) 3 false)] (.int .i64 1) (ap ([] : List Blk) (pL T V)) none, .b ((1 : Int) != 0) true] [] (by kernel_rfl) ⟨rfl, (cF h1), (ldV gl), (cF h2), (ldV gl), (ldV gl), rfl, (by omega), (by simp; omega), hw, (hfe ▸ fit_e (by kernel_rfl) hT hr _), rfl, trivial⟩⟩
 | true =>
  obtain ⟨hb0, x, hx0, hxn⟩ := hok w hwm hf
  have hbl0 : w.2.1.toNat < row.length := (List.getElem?_eq_some_iff.1 hx0).1
  have hby : 0 ≤ w.2.1 ∧ True := ⟨hb0, trivial⟩
  have hbl : w.2.1 < ((List.map vV row).length : Int) := by simp; omega
  have hx : (List.map vV row)[w.2.1.toNat]? = some (.agg (enV x)) := by simp [hx0]
  rw [show groupS T V v row = codeNum x.n by simp [groupS, h1, hw0, hf, hx0]]
  have hfe : fitsE T w.1 row = 0 := by simp [fitsE, hf]
  rw [← List.length_map (f := vwV)] at h2
  exact ⟨(ap ([] : List Blk) (pL T V)), clV 1 (af := a129) (r := (.str (codeNum x.n))) (h' := (ap ([] : List Blk) (pL T V))) [.w (.box (.c (.agg (pL T V)))) (.ptr (List.length ([] : List Blk)) 0) (ap ([] : List Blk) (pL T V)) none, .b (decide (v < 0)) false, .f (.load none (.c (.ptr (List.length ([] : List Blk)) 1))) (.ro (V.map vwV) 3 false), .b (decide (v ≥ ((List.length (V.map vwV)) : Int))) false, .f (.load (some 2) (.c (.ptr (List.length ([] : List Blk)) 0))) (.agg (pL T V)), .f (.load none (.c (.ptr (List.length ([] : List Blk)) 1))) (.ro (V.map vwV) 3 false), .p (3 = 3), .p ((0 : Int) ≤ v), .p ((v : Int) < (List.length (V.map vwV) : Int)), .e (V.map vwV) (Int.toNat v) (.agg [(.int .i64 (Prod.fst w)), (.int .i64 (Prod.fst (Prod.snd w))), (.ro (List.map iV (Prod.snd (Prod.snd w))) 1 false)]), .r 117 [(.agg (pL T V)), (.int .i64 (Prod.fst w)), (.ro (row.map vV) 3 false)] (.int .i64 0) (ap ([] : List Blk) (pL T V)) none, .b ((0 : Int) != 0) false, .f (.load none (.c (.ptr (List.length ([] : List Blk)) 1))) (.ro (V.map vwV) 3 false), .p (3 = 3), .p ((0 : Int) ≤ v), .p ((v : Int) < (List.length (V.map vwV) : Int)), .e (V.map vwV) (Int.toNat v) (.agg [(.int .i64 (Prod.fst w)), (.int .i64 (Prod.fst (Prod.snd w))), (.ro (List.map iV (Prod.snd (Prod.snd w))) 1 false)]), .p (3 = 3), .p ((0 : Int) ≤ (Prod.fst (Prod.snd w))), .p (((Prod.fst (Prod.snd w)) : Int) < (List.length (row.map vV) : Int)), .e (row.map vV) (Int.toNat (Prod.fst (Prod.snd w))) (.agg (enV x)), .r 124 [(.agg (enV x))] (.tup [(.str (codeNum x.n)), (.int .i64 0)]) (ap ([] : List Blk) (pL T V)) none] [] (by kernel_rfl) ⟨rfl, (cF h1), (ldV gl), (cF h2), (ldV gl), (ldV gl), rfl, (by omega), (by simp; omega), hw, (hfe ▸ fit_e (by kernel_rfl) hT hr _), rfl, (ldV gl), rfl, (by omega), (by simp; omega), hw, rfl, hby.1, hbl, hx, (code_e (by kernel_rfl) hxn _), trivial⟩⟩
abbrev GrpA := List (List Int) × List Vw × Int × List Val
def okGrp (x : GrpA) : Prop := x.1.length ≤ 9223372036854775807 ∧ x.2.2.2.length ≤ 9223372036854775807 ∧ OkGr x.1 x.2.1 x.2.2.2
abbrev fGrp (x : GrpA) : AV := .str (groupS x.1 x.2.1 x.2.2.1 x.2.2.2)
noncomputable def g129 : List AV → Option AV := gOf okGrp enFit fGrp
theorem grp_ok : GOk Tryz.prog 129 (pureG g129) := gOf_ok ⟨_, Tryz.func129, by kernel_rfl, by kernel_rfl⟩ fun x hx => by
 obtain ⟨h', lo, h⟩ := group_cl (v := x.2.2.1) hx.1 hx.2.1 hx.2.2
 exact pureS_cl K4 h (by kernel_rfl) rfl
theorem grp_e {Γ : FuncId → Option GF} (hg : Γ 129 = some (pureG g129)) {T : List (List Int)} {V : List Vw} {v : Int} {row : List Val} (hT : T.length ≤ 9223372036854775807) (hr : row.length ≤ 9223372036854775807) (hok : OkGr T V row) (H : List Blk) : Cl Γ Mo.T 129 [pA T V, .int .i64 v, rV row] H (.str (groupS T V v row), H, none) :=
 Cl.pure (g := g129) hg (gOf_eq (ok := okGrp) (en := enFit) (f := fGrp) (fun a b _ _ h => by
  obtain ⟨a1, a2, a3, a4⟩ := a
  obtain ⟨b1, b2, b3, b4⟩ := b
  simp only [List.cons.injEq] at h
  obtain ⟨h1, h2, h3, -⟩ := h
  rw [(pA_inj h1).1, (pA_inj h1).2, rV_inj _ _ h3, iV_inj _ _ h2]) (a := (T, V, v, row)) ⟨hT, hr, hok⟩) (clo_3 T V _ row) rfl H
structure Tot where
 c : Int × Int
 s : List (Int × Int)
abbrev enT (t : Tot) : List AV := [.int .i64 t.c.1, .int .u64 t.c.2, .ro (t.s.map wV) 2 false]
def totalS (w : Vw) (row : List Val) : Tot := ⟨ofW 1, w.2.2.map fun s => ofW (row.getD s.toNat default).n⟩
theorem resCell {t : List AV} {h : List Blk} {lo : Option Nat} {a : Nat} {n : Option Nat} {p v : AV} (ha : evalO t (.t a) = p) (hp : pOp evC h (.load n (.c p)) = some v) : resAll { t := t, h := h, lo := lo } [.cell a n] = some [v] := by
 have e : (rdPtr h (cellsN n) ((t[a]?).getD .dead)).bind (asVar n) = some v := by
  have : (t[a]?).getD .dead = p := ha
  rw [this]; exact hp
 simp only [resAll, resOf, e]
theorem total_pure {w : Vw} {row : List Val} (hw : w.2.2.length ≤ 1000) (hok : ∀ s ∈ w.2.2, 0 ≤ s ∧ s < (row.length : Int)) : PureS Tryz.prog 130 [vwV w, rV row] (.agg (enT (totalS w row))) := by
 have key : ∃ r h' lo, (∃ sv, r = .agg [.int .i64 (ofW 1).1, .int .u64 (ofW 1).2, sv] ∧ Gro 2 (((totalS w row).s).map enW) h' sv) ∧ Cl G4 Mo.T 130 [vwV w, rV row] [] (r, h', lo) := by
  refine clE (Γ := G4) (tbl := Mo.T) (f := 130) (af := a130) (args := [vwV w, rV row]) (h := []) (by kernel_rfl) (by kernel_rfl) (by kernel_rfl) (fun r h' => ∃ sv, r = .agg [.int .i64 (ofW 1).1, .int .u64 (ofW 1).2, sv] ∧ Gro 2 (((totalS w row).s).map enW) h' sv) ?_
  refine Wp.seq ((pathE (nt := 30) (live := [(0, (.agg [(.int .i64 (Prod.fst w)), (.int .i64 (Prod.fst (Prod.snd w))), (.ro (List.map iV (Prod.snd (Prod.snd w))) 1 false)])), (1, (.ro (row.map vV) 3 false))]) [.w (.box (.c (.agg [(.int .i64 (Prod.fst w)), (.int .i64 (Prod.fst (Prod.snd w))), (.ro (List.map iV (Prod.snd (Prod.snd w))) 1 false)]))) (.ptr (List.length ([] : List Blk)) 0) (ap ([] : List Blk) [(.int .i64 (Prod.fst w)), (.int .i64 (Prod.fst (Prod.snd w))), (.ro (List.map iV (Prod.snd (Prod.snd w))) 1 false)]) none, .w (.alloc [(.int .i64 0), (.int .u64 0), .nils]) (.ptr (List.length (ap ([] : List Blk) [(.int .i64 (Prod.fst w)), (.int .i64 (Prod.fst (Prod.snd w))), (.ro (List.map iV (Prod.snd (Prod.snd w))) 1 false)])) 0) (ap (ap ([] : List Blk) [(.int .i64 (Prod.fst w)), (.int .i64 (Prod.fst (Prod.snd w))), (.ro (List.map iV (Prod.snd (Prod.snd w))) 1 false)]) [(.int .i64 0), (.int .u64 0), .nils]) none] [1, 2, 4] (e := .normal) (vals := [(.ro (row.map vV) 3 false), (.ptr (List.length ([] : List Blk)) 0), (.ptr (List.length (ap ([] : List Blk) [(.int .i64 (Prod.fst w)), (.int .i64 (Prod.fst (Prod.snd w))), (.ro (List.map iV (Prod.snd (Prod.snd w))) 1 false)])) 0)]) (h' := (ap (ap ([] : List Blk) [(.int .i64 (Prod.fst w)), (.int .i64 (Prod.fst (Prod.snd w))), (.ro (List.map iV (Prod.snd (Prod.snd w))) 1 false)]) [(.int .i64 0), (.int .u64 0), .nils])) (Lv.start (by rfl) (by simp)) (fun _ => by kernel_rfl) ⟨rfl, rfl, trivial⟩).mono ?_)
  rintro e s ⟨rfl, t1, lo1, rfl, hl1⟩
  refine Wp.seq ((pathE (nt := 30) [.r 154 [(.int .i64 1)] (.agg (enW (ofW 1))) (ap (ap ([] : List Blk) [(.int .i64 (Prod.fst w)), (.int .i64 (Prod.fst (Prod.snd w))), (.ro (List.map iV (Prod.snd (Prod.snd w))) 1 false)]) [(.int .i64 0), (.int .u64 0), .nils]) none, .w (.alloc [(.int .i64 0), (.int .u64 0), .nils]) (.ptr (List.length (ap (ap ([] : List Blk) [(.int .i64 (Prod.fst w)), (.int .i64 (Prod.fst (Prod.snd w))), (.ro (List.map iV (Prod.snd (Prod.snd w))) 1 false)]) [(.int .i64 0), (.int .u64 0), .nils])) 0) (ap (ap (ap ([] : List Blk) [(.int .i64 (Prod.fst w)), (.int .i64 (Prod.fst (Prod.snd w))), (.ro (List.map iV (Prod.snd (Prod.snd w))) 1 false)]) [(.int .i64 0), (.int .u64 0), .nils]) [(.int .i64 0), (.int .u64 0), .nils]) none, .w (.store 3 (.c (.ptr (List.length (ap (ap ([] : List Blk) [(.int .i64 (Prod.fst w)), (.int .i64 (Prod.fst (Prod.snd w))), (.ro (List.map iV (Prod.snd (Prod.snd w))) 1 false)]) [(.int .i64 0), (.int .u64 0), .nils])) 0)) (.c (.agg [(.int .i64 (Prod.fst (ofW 1))), (.int .u64 (Prod.snd (ofW 1))), .nils]))) (.tup []) (ap (ap (ap ([] : List Blk) [(.int .i64 (Prod.fst w)), (.int .i64 (Prod.fst (Prod.snd w))), (.ro (List.map iV (Prod.snd (Prod.snd w))) 1 false)]) [(.int .i64 0), (.int .u64 0), .nils]) [(.int .i64 (Prod.fst (ofW 1))), (.int .u64 (Prod.snd (ofW 1))), .nils]) (some (List.length (ap (ap ([] : List Blk) [(.int .i64 (Prod.fst w)), (.int .i64 (Prod.fst (Prod.snd w))), (.ro (List.map iV (Prod.snd (Prod.snd w))) 1 false)]) [(.int .i64 0), (.int .u64 0), .nils])))] [1, 2, 4, 5] (e := .normal) (vals := [(.ro (row.map vV) 3 false), (.ptr 0 0), (.ptr 1 0), (.ptr (List.length (ap (ap ([] : List Blk) [(.int .i64 (Prod.fst w)), (.int .i64 (Prod.fst (Prod.snd w))), (.ro (List.map iV (Prod.snd (Prod.snd w))) 1 false)]) [(.int .i64 0), (.int .u64 0), .nils])) 0)]) (h' := (ap (ap (ap ([] : List Blk) [(.int .i64 (Prod.fst w)), (.int .i64 (Prod.fst (Prod.snd w))), (.ro (List.map iV (Prod.snd (Prod.snd w))) 1 false)]) [(.int .i64 0), (.int .u64 0), .nils]) [(.int .i64 (Prod.fst (ofW 1))), (.int .u64 (Prod.snd (ofW 1))), .nils])) hl1 (fun _ => by kernel_rfl) ⟨(of_e (by kernel_rfl) 1 _), rfl, stZ, trivial⟩).mono ?_)
  rintro e s ⟨rfl, t2, lo2, rfl, hl2⟩
  have h0 : ((ap (ap (ap ([] : List Blk) [(.int .i64 (Prod.fst w)), (.int .i64 (Prod.fst (Prod.snd w))), (.ro (List.map iV (Prod.snd (Prod.snd w))) 1 false)]) [(.int .i64 0), (.int .u64 0), .nils]) [(.int .i64 (Prod.fst (ofW 1))), (.int .u64 (Prod.snd (ofW 1))), .nils]) : List Blk)[0]? = some (.cells [(.int .i64 (Prod.fst w)), (.int .i64 (Prod.fst (Prod.snd w))), (.ro (List.map iV (Prod.snd (Prod.snd w))) 1 false)]) := rfl
  have h1 : ((ap (ap (ap ([] : List Blk) [(.int .i64 (Prod.fst w)), (.int .i64 (Prod.fst (Prod.snd w))), (.ro (List.map iV (Prod.snd (Prod.snd w))) 1 false)]) [(.int .i64 0), (.int .u64 0), .nils]) [(.int .i64 (Prod.fst (ofW 1))), (.int .u64 (Prod.snd (ofW 1))), .nils]) : List Blk)[1]? = some (.cells [(.int .i64 0), (.int .u64 0), .nils]) := rfl
  have h2 : ((ap (ap (ap ([] : List Blk) [(.int .i64 (Prod.fst w)), (.int .i64 (Prod.fst (Prod.snd w))), (.ro (List.map iV (Prod.snd (Prod.snd w))) 1 false)]) [(.int .i64 0), (.int .u64 0), .nils]) [(.int .i64 (Prod.fst (ofW 1))), (.int .u64 (Prod.snd (ofW 1))), .nils]) : List Blk)[2]? = some (.cells [(.int .i64 (Prod.fst (ofW 1))), (.int .u64 (Prod.snd (ofW 1))), .nils]) := rfl
  have h3 : ((ap (ap (ap ([] : List Blk) [(.int .i64 (Prod.fst w)), (.int .i64 (Prod.fst (Prod.snd w))), (.ro (List.map iV (Prod.snd (Prod.snd w))) 1 false)]) [(.int .i64 0), (.int .u64 0), .nils]) [(.int .i64 (Prod.fst (ofW 1))), (.int .u64 (Prod.snd (ofW 1))), .nils]) : List Blk).length = 3 := rfl
  generalize ((ap (ap (ap ([] : List Blk) [(.int .i64 (Prod.fst w)), (.int .i64 (Prod.fst (Prod.snd w))), (.ro (List.map iV (Prod.snd (Prod.snd w))) 1 false)]) [(.int .i64 0), (.int .u64 0), .nils]) [(.int .i64 (Prod.fst (ofW 1))), (.int .u64 (Prod.snd (ofW 1))), .nils]) : List Blk) = H at h0 h1 h2 h3 hl2 ⊢
  refine Wp.seq (Wp.seq ((pathE (nt := 30) [.f (.load none (.c (.ptr 0 2))) (.ro (List.map iV (Prod.snd (Prod.snd w))) 1 false)] [13, 1, 4, 5, 11, 12] (e := .normal) (vals := [(.int .i64 0), (.ro (row.map vV) 3 false), (.ptr 1 0), (.ptr 2 0), (.ro (List.map iV (Prod.snd (Prod.snd w))) 1 false), (.int .i64 ((List.length (List.map iV (Prod.snd (Prod.snd w)))) : Int))]) (h' := H) hl2 (fun _ => by kernel_rfl) ⟨(ldV h0), trivial⟩).mono ?_))
  rintro e s ⟨rfl, t3, lo3, rfl, hl3⟩
  simp only [List.length_map] at hl3
  refine (rangeL (X := List Blk × AV) (N := w.2.2.length) (fun _ _ => [(1, rV row), (4, .ptr 1 0), (5, .ptr 2 0), (11, .ro (w.2.2.map iV) 1 false), (12, .int .i64 (w.2.2.length : Int))]) (fun _ x => x.1)
   (fun k x => x.1[0]? = some (.cells [(.int .i64 (Prod.fst w)), (.int .i64 (Prod.fst (Prod.snd w))), (.ro (List.map iV (Prod.snd (Prod.snd w))) 1 false)]) ∧ x.1[1]? = some (.cells [(.int .i64 0), (.int .u64 0), .nils]) ∧ x.1[2]? = some (.cells [(.int .i64 (Prod.fst (ofW 1))), (.int .u64 (Prod.snd (ofW 1))), x.2]) ∧ Gro 2 ((((totalS w row).s).take k).map enW) x.1 x.2 ∧ 3 ≤ x.1.length ∧ ∀ i, svId x.2 = some i → 3 ≤ i) (fun _ => False)
   (by omega) (by decide) (by decide) (by decide) (by decide) (by decide) (fun _ _ => rfl) (fun _ _ => rfl) ?_ (x0 := (H, .nils)) ⟨h0, h1, h2, Gro.nil _ _, (by show 3 ≤ H.length; omega), fun i h => by cases h⟩ hl3).mono ?_
  ·rintro k ⟨H, sv⟩ t4 lo4 hkN ⟨h0, h1, h2, hg, hlen, hid⟩ hlb
   simp only at h0 h1 h2 hg hlen hid hlb ⊢
   have hs : (List.map iV w.2.2)[(k : Int).toNat]? = some (.int .i64 w.2.2[k]) := by simp [hkN]
   have hsm := hok _ (List.getElem_mem hkN)
   have htk : (totalS w row).s.take (k + 1) = (totalS w row).s.take k ++ [ofW (row.getD (w.2.2[k]).toNat default).n] := by
    rw [List.take_succ_eq_append_getElem (by simp [totalS]; exact hkN)]
    simp [totalS]
   generalize w.2.2[k] = s at hs hsm htk
   obtain ⟨hs0, hs1⟩ := hsm
   have hsl : s.toNat < row.length := by omega
   have hv : (List.map vV row)[s.toNat]? = some (.agg (enV row[s.toNat])) := by simp [hsl]
   rw [show row.getD s.toNat default = row[s.toNat] by simp [List.getD_eq_getElem?_getD, hsl]] at htk
   generalize row[s.toNat] = v at hv htk
   have hsv := hg.eqv
   have hg1 : Gro 2 ((((totalS w row).s).take k).map enW) (ap H [(.int .i64 (Prod.fst (ofW v.n))), (.int .u64 (Prod.snd (ofW v.n)))]) sv := hg.grow fun i _ x hx => ga hx
   obtain ⟨sv', H1, lo1, happ, hg2, hi2, hl2, hfr⟩ := hg1.app (by_ := 16) (e := enW (ofW v.n)) rfl rfl (jd := H.length) gl (by simp [totalS]; omega)
   have k0 := hfr 0 _ (fun h => by have := hid 0 h; omega) (ga h0)
   have k1 := hfr 1 _ (fun h => by have := hid 1 h; omega) (ga h1)
   have k2 := hfr 2 _ (fun h => by have := hid 2 h; omega) (ga h2)
   rw [show (ap H (enW (ofW v.n))).length = H.length + 1 by simp] at hi2 hl2
   generalize ((((totalS w row).s.take k).map enW).length + 1) = nn at hi2
   have hjd : ∃ jd, jd = H.length + 1 := ⟨_, rfl⟩
   obtain ⟨jd, hjd⟩ := hjd
   rw [← hjd] at hi2
   subst hi2
   refine (pathE (nt := 30) [.p (1 = 1), .p ((0 : Int) ≤ (k : Int)), .p (((k : Int) : Int) < (List.length (List.map iV (Prod.snd (Prod.snd w))) : Int)), .e (List.map iV (Prod.snd (Prod.snd w))) (Int.toNat (k : Int)) (.int .i64 s), .p (stays evC (AOper.mk (some 18) (.load none (.c (.ptr 2 2))) none 0 2) sv [H, H, (ap H [(.int .i64 (Prod.fst (ofW v.n))), (.int .u64 (Prod.snd (ofW v.n)))]), H1, (H1.set 2 (.cells [(.int .i64 (Prod.fst (ofW 1))), (.int .u64 (Prod.snd (ofW 1))), (.sl jd 2 0 nn nn false)]))] = true), .f (.load none (.c (.ptr 2 2))) sv, .p (3 = 3), .p ((0 : Int) ≤ s), .p ((s : Int) < (List.length (row.map vV) : Int)), .e (row.map vV) (Int.toNat s) (.agg (enV v)), .r 154 [(.int .i64 v.n)] (.agg (enW (ofW v.n))) H none, .w (.buildSl [(.int .i64 0), (.int .u64 0)] 1 [(0, (.c (.agg (enW (ofW v.n)))))]) (.sl H.length 2 0 1 1 true) (ap H [(.int .i64 (Prod.fst (ofW v.n))), (.int .u64 (Prod.snd (ofW v.n)))]) none, .w (.append 2 16 (.c sv) (.c (.sl H.length 2 0 1 1 true))) (.sl jd 2 0 nn nn false) H1 lo1, .w (.store 1 (.c (.ptr 2 2)) (.c (.sl jd 2 0 nn nn false))) (.tup []) (H1.set 2 (.cells [(.int .i64 (Prod.fst (ofW 1))), (.int .u64 (Prod.snd (ofW 1))), (.sl jd 2 0 nn nn false)])) (some 2)] [13, 1, 4, 5, 11, 12] (e := .normal) (vals := [(.int .i64 (k : Int)), (.ro (row.map vV) 3 false), (.ptr 1 0), (.ptr 2 0), (.ro (List.map iV (Prod.snd (Prod.snd w))) 1 false), (.int .i64 (w.2.2.length : Int))]) (h' := (H1.set 2 (.cells [(.int .i64 (Prod.fst (ofW 1))), (.int .u64 (Prod.snd (ofW 1))), (.sl jd 2 0 nn nn false)]))) hlb (fun _ => by kernel_rfl) ⟨rfl, (by omega), (by simp; omega), hs, (stays2 hsv (And.intro (ldV h2) (And.intro (ldV h2) (And.intro (ldV (ga h2)) trivial)))), (ldV h2), rfl, hs0, (by simp; omega), hv, (of_e (by kernel_rfl) _ _), rfl, happ, (stK k2), trivial⟩).mono ?_
   rintro e s' ⟨rfl, t5, lo5, rfl, hl5⟩
   refine .inl ⟨rfl, ((List.set H1 2 (.cells [(.int .i64 (Prod.fst (ofW 1))), (.int .u64 (Prod.snd (ofW 1))), (.sl jd 2 0 nn nn false)])), .sl jd 2 0 nn nn false), t5, lo5, rfl, ⟨gne (by omega) k0, gne (by omega) k1, gset k2, ?_, by simp; omega, fun i hi => ?_⟩, hl5⟩
   ·rw [htk, List.map_append]
    refine hg2.grow fun i hi x hx => ?_
    cases hi
    exact gne (by omega) hx
   ·cases hi; omega
  ·rintro e s (⟨rfl, ⟨H, sv⟩, t5, lo5, rfl, ⟨h0, h1, h2, hg, hlen, hid⟩, hle⟩ | ⟨rfl, h⟩)
   ·simp only at h0 h1 h2 hg hlen hid hle ⊢
    refine (pathE (nt := 30) [.f (.load (some 3) (.c (.ptr 2 0))) (.agg [(.int .i64 (Prod.fst (ofW 1))), (.int .u64 (Prod.snd (ofW 1))), sv]), .w (.store 3 (.c (.ptr 1 0)) (.c (.agg [(.int .i64 (Prod.fst (ofW 1))), (.int .u64 (Prod.snd (ofW 1))), sv]))) (.tup []) (H.set 1 (.cells [(.int .i64 (Prod.fst (ofW 1))), (.int .u64 (Prod.snd (ofW 1))), sv])) (some 1)] [4] (e := .ret) (vals := [(.ptr 1 0)]) (h' := (H.set 1 (.cells [(.int .i64 (Prod.fst (ofW 1))), (.int .u64 (Prod.snd (ofW 1))), sv]))) hle (fun _ => by kernel_rfl) ⟨(ldV h2), (stC h1 (by kernel_rfl) (by kernel_rfl) (one3 hg.one)), trivial⟩).mono ?_
    rintro e s ⟨rfl, t6, lo6, rfl, hl6⟩
    refine ⟨rfl, _, resCell (hl6.ev List.mem_cons_self) (ldC (gset h1) (by kernel_rfl)), sv, rfl, ?_⟩
    rw [List.take_of_length_le (by simp [totalS])] at hg
    exact hg.grow fun i hi x hx => gne (by have := hid i hi; omega) hx
   ·exact h.elim
 obtain ⟨r, h', lo, ⟨sv, rfl, hg⟩, hcl⟩ := key
 obtain ⟨r', hf, hcv⟩ := hg.frz (n := 2) (by decide) fun e he => by
  obtain ⟨x, _, rfl⟩ := List.mem_map.1 he
  rfl
 have hcv2 : Cv r' (.ro ((totalS w row).s.map wV) 2 false) := by
  rw [List.map_map] at hcv
  exact hcv
 refine (pureS_clf K4 (k := 4) (r' := .agg [.int .i64 (ofW 1).1, .int .u64 (ofW 1).2, r']) hcl (by kernel_rfl) ?_).cv (Cv.agg (CvL.cons (Cv.refl _) (CvL.cons (Cv.refl _) (CvL.cons hcv2 CvL.nil))))
 exact frz3 hf
open Go
def addT (a b : Tot) : Tot := ⟨addW a.c b.c, List.zipWith addW a.s b.s⟩
structure OkTot (a : Tot) : Prop where
 c : 0 ≤ a.c.2
 s : ∀ x ∈ a.s, 0 ≤ x.2
 l : a.s.length ≤ 1000
theorem mnL {H : List Blk} {a b : Nat} : pOp evC H (.mxmn false [.c (.int .i64 (a : Int)), .c (.int .i64 (b : Int))]) = some (.int .i64 ((min a b : Nat) : Int)) := by
 have : (if (b : Int) < (a : Int) then (b : Int) else (a : Int)) = ((min a b : Nat) : Int) := by split <;> omega
 simp only [pOp, evC, List.map_cons, List.map_nil, List.foldlM_cons, List.foldlM_nil, Bool.false_eq_true, if_false, this]
 rfl
theorem add_pure {a b : Tot} (ha : OkTot a) (hb : OkTot b) : PureS Tryz.prog 132 [.agg (enT a), .agg (enT b)] (.agg (enT (addT a b))) := by
 have key : ∃ r h' lo, (∃ sv, r = .agg [.int .i64 (addW a.c b.c).1, .int .u64 (addW a.c b.c).2, sv] ∧ Gro 2 (((addT a b).s).map enW) h' sv) ∧ Cl G4 Mo.T 132 [.agg (enT a), .agg (enT b)] [] (r, h', lo) := by
  refine clE (Γ := G4) (tbl := Mo.T) (f := 132) (af := a132) (args := [.agg (enT a), .agg (enT b)]) (h := []) (by kernel_rfl) (by kernel_rfl) (by kernel_rfl) (fun r h' => ∃ sv, r = .agg [.int .i64 (addW a.c b.c).1, .int .u64 (addW a.c b.c).2, sv] ∧ Gro 2 (((addT a b).s).map enW) h' sv) ?_
  refine Wp.seq ((pathE (nt := 41) (live := [(0, (.agg [(.int .i64 (Prod.fst a.c)), (.int .u64 (Prod.snd a.c)), (.ro (a.s.map wV) 2 false)])), (1, (.agg [(.int .i64 (Prod.fst b.c)), (.int .u64 (Prod.snd b.c)), (.ro (b.s.map wV) 2 false)]))]) [.w (.box (.c (.agg [(.int .i64 (Prod.fst a.c)), (.int .u64 (Prod.snd a.c)), (.ro (a.s.map wV) 2 false)]))) (.ptr (List.length ([] : List Blk)) 0) (ap ([] : List Blk) [(.int .i64 (Prod.fst a.c)), (.int .u64 (Prod.snd a.c)), (.ro (a.s.map wV) 2 false)]) none, .w (.box (.c (.agg [(.int .i64 (Prod.fst b.c)), (.int .u64 (Prod.snd b.c)), (.ro (b.s.map wV) 2 false)]))) (.ptr (List.length (ap ([] : List Blk) [(.int .i64 (Prod.fst a.c)), (.int .u64 (Prod.snd a.c)), (.ro (a.s.map wV) 2 false)])) 0) (ap (ap ([] : List Blk) [(.int .i64 (Prod.fst a.c)), (.int .u64 (Prod.snd a.c)), (.ro (a.s.map wV) 2 false)]) [(.int .i64 (Prod.fst b.c)), (.int .u64 (Prod.snd b.c)), (.ro (b.s.map wV) 2 false)]) none, .w (.alloc [(.int .i64 0), (.int .u64 0), .nils]) (.ptr (List.length (ap (ap ([] : List Blk) [(.int .i64 (Prod.fst a.c)), (.int .u64 (Prod.snd a.c)), (.ro (a.s.map wV) 2 false)]) [(.int .i64 (Prod.fst b.c)), (.int .u64 (Prod.snd b.c)), (.ro (b.s.map wV) 2 false)])) 0) (ap (ap (ap ([] : List Blk) [(.int .i64 (Prod.fst a.c)), (.int .u64 (Prod.snd a.c)), (.ro (a.s.map wV) 2 false)]) [(.int .i64 (Prod.fst b.c)), (.int .u64 (Prod.snd b.c)), (.ro (b.s.map wV) 2 false)]) [(.int .i64 0), (.int .u64 0), .nils]) none] [2, 3, 4] (e := .normal) (vals := [(.ptr (List.length ([] : List Blk)) 0), (.ptr (List.length (ap ([] : List Blk) [(.int .i64 (Prod.fst a.c)), (.int .u64 (Prod.snd a.c)), (.ro (a.s.map wV) 2 false)])) 0), (.ptr (List.length (ap (ap ([] : List Blk) [(.int .i64 (Prod.fst a.c)), (.int .u64 (Prod.snd a.c)), (.ro (a.s.map wV) 2 false)]) [(.int .i64 (Prod.fst b.c)), (.int .u64 (Prod.snd b.c)), (.ro (b.s.map wV) 2 false)])) 0)]) (h' := (ap (ap (ap ([] : List Blk) [(.int .i64 (Prod.fst a.c)), (.int .u64 (Prod.snd a.c)), (.ro (a.s.map wV) 2 false)]) [(.int .i64 (Prod.fst b.c)), (.int .u64 (Prod.snd b.c)), (.ro (b.s.map wV) 2 false)]) [(.int .i64 0), (.int .u64 0), .nils])) (Lv.start (by rfl) (by simp)) (fun _ => by kernel_rfl) ⟨rfl, rfl, rfl, trivial⟩).mono ?_)
  rintro e s ⟨rfl, t1, lo1, rfl, hl1⟩
  refine Wp.seq ((pathE (nt := 41) [.f (.load (some 2) (.c (.ptr 0 0))) (.agg (enW a.c)), .f (.load (some 2) (.c (.ptr 1 0))) (.agg (enW b.c)), .r 156 [(.agg (enW a.c)), (.agg (enW b.c))] (.agg (enW (addW a.c b.c))) (ap (ap (ap ([] : List Blk) [(.int .i64 (Prod.fst a.c)), (.int .u64 (Prod.snd a.c)), (.ro (a.s.map wV) 2 false)]) [(.int .i64 (Prod.fst b.c)), (.int .u64 (Prod.snd b.c)), (.ro (b.s.map wV) 2 false)]) [(.int .i64 0), (.int .u64 0), .nils]) none, .w (.alloc [(.int .i64 0), (.int .u64 0), .nils]) (.ptr (List.length (ap (ap (ap ([] : List Blk) [(.int .i64 (Prod.fst a.c)), (.int .u64 (Prod.snd a.c)), (.ro (a.s.map wV) 2 false)]) [(.int .i64 (Prod.fst b.c)), (.int .u64 (Prod.snd b.c)), (.ro (b.s.map wV) 2 false)]) [(.int .i64 0), (.int .u64 0), .nils])) 0) (ap (ap (ap (ap ([] : List Blk) [(.int .i64 (Prod.fst a.c)), (.int .u64 (Prod.snd a.c)), (.ro (a.s.map wV) 2 false)]) [(.int .i64 (Prod.fst b.c)), (.int .u64 (Prod.snd b.c)), (.ro (b.s.map wV) 2 false)]) [(.int .i64 0), (.int .u64 0), .nils]) [(.int .i64 0), (.int .u64 0), .nils]) none, .w (.store 3 (.c (.ptr (List.length (ap (ap (ap ([] : List Blk) [(.int .i64 (Prod.fst a.c)), (.int .u64 (Prod.snd a.c)), (.ro (a.s.map wV) 2 false)]) [(.int .i64 (Prod.fst b.c)), (.int .u64 (Prod.snd b.c)), (.ro (b.s.map wV) 2 false)]) [(.int .i64 0), (.int .u64 0), .nils])) 0)) (.c (.agg [(.int .i64 (Prod.fst (addW a.c b.c))), (.int .u64 (Prod.snd (addW a.c b.c))), .nils]))) (.tup []) (ap (ap (ap (ap ([] : List Blk) [(.int .i64 (Prod.fst a.c)), (.int .u64 (Prod.snd a.c)), (.ro (a.s.map wV) 2 false)]) [(.int .i64 (Prod.fst b.c)), (.int .u64 (Prod.snd b.c)), (.ro (b.s.map wV) 2 false)]) [(.int .i64 0), (.int .u64 0), .nils]) [(.int .i64 (Prod.fst (addW a.c b.c))), (.int .u64 (Prod.snd (addW a.c b.c))), .nils]) (some (List.length (ap (ap (ap ([] : List Blk) [(.int .i64 (Prod.fst a.c)), (.int .u64 (Prod.snd a.c)), (.ro (a.s.map wV) 2 false)]) [(.int .i64 (Prod.fst b.c)), (.int .u64 (Prod.snd b.c)), (.ro (b.s.map wV) 2 false)]) [(.int .i64 0), (.int .u64 0), .nils])))] [2, 3, 4, 5] (e := .normal) (vals := [(.ptr 0 0), (.ptr 1 0), (.ptr 2 0), (.ptr (List.length (ap (ap (ap ([] : List Blk) [(.int .i64 (Prod.fst a.c)), (.int .u64 (Prod.snd a.c)), (.ro (a.s.map wV) 2 false)]) [(.int .i64 (Prod.fst b.c)), (.int .u64 (Prod.snd b.c)), (.ro (b.s.map wV) 2 false)]) [(.int .i64 0), (.int .u64 0), .nils])) 0)]) (h' := (ap (ap (ap (ap ([] : List Blk) [(.int .i64 (Prod.fst a.c)), (.int .u64 (Prod.snd a.c)), (.ro (a.s.map wV) 2 false)]) [(.int .i64 (Prod.fst b.c)), (.int .u64 (Prod.snd b.c)), (.ro (b.s.map wV) 2 false)]) [(.int .i64 0), (.int .u64 0), .nils]) [(.int .i64 (Prod.fst (addW a.c b.c))), (.int .u64 (Prod.snd (addW a.c b.c))), .nils])) hl1 (fun _ => by kernel_rfl) ⟨(ldV (show ((ap (ap (ap ([] : List Blk) [(.int .i64 (Prod.fst a.c)), (.int .u64 (Prod.snd a.c)), (.ro (a.s.map wV) 2 false)]) [(.int .i64 (Prod.fst b.c)), (.int .u64 (Prod.snd b.c)), (.ro (b.s.map wV) 2 false)]) [(.int .i64 0), (.int .u64 0), .nils]) : List Blk)[0]? = some (.cells [(.int .i64 (Prod.fst a.c)), (.int .u64 (Prod.snd a.c)), (.ro (a.s.map wV) 2 false)]) from rfl)), (ldV (show ((ap (ap (ap ([] : List Blk) [(.int .i64 (Prod.fst a.c)), (.int .u64 (Prod.snd a.c)), (.ro (a.s.map wV) 2 false)]) [(.int .i64 (Prod.fst b.c)), (.int .u64 (Prod.snd b.c)), (.ro (b.s.map wV) 2 false)]) [(.int .i64 0), (.int .u64 0), .nils]) : List Blk)[1]? = some (.cells [(.int .i64 (Prod.fst b.c)), (.int .u64 (Prod.snd b.c)), (.ro (b.s.map wV) 2 false)]) from rfl)), (add_e (by kernel_rfl) ha.c hb.c _), rfl, stZ, trivial⟩).mono ?_)
  rintro e s ⟨rfl, t2, lo2, rfl, hl2⟩
  have h0 : ((ap (ap (ap (ap ([] : List Blk) [(.int .i64 (Prod.fst a.c)), (.int .u64 (Prod.snd a.c)), (.ro (List.map wV a.s) 2 false)]) [(.int .i64 (Prod.fst b.c)), (.int .u64 (Prod.snd b.c)), (.ro (List.map wV b.s) 2 false)]) [(.int .i64 0), (.int .u64 0), .nils]) [(.int .i64 (Prod.fst (addW a.c b.c))), (.int .u64 (Prod.snd (addW a.c b.c))), .nils]) : List Blk)[0]? = some (.cells [(.int .i64 (Prod.fst a.c)), (.int .u64 (Prod.snd a.c)), (.ro (List.map wV a.s) 2 false)]) := rfl
  have h1 : ((ap (ap (ap (ap ([] : List Blk) [(.int .i64 (Prod.fst a.c)), (.int .u64 (Prod.snd a.c)), (.ro (List.map wV a.s) 2 false)]) [(.int .i64 (Prod.fst b.c)), (.int .u64 (Prod.snd b.c)), (.ro (List.map wV b.s) 2 false)]) [(.int .i64 0), (.int .u64 0), .nils]) [(.int .i64 (Prod.fst (addW a.c b.c))), (.int .u64 (Prod.snd (addW a.c b.c))), .nils]) : List Blk)[1]? = some (.cells [(.int .i64 (Prod.fst b.c)), (.int .u64 (Prod.snd b.c)), (.ro (List.map wV b.s) 2 false)]) := rfl
  have h2 : ((ap (ap (ap (ap ([] : List Blk) [(.int .i64 (Prod.fst a.c)), (.int .u64 (Prod.snd a.c)), (.ro (List.map wV a.s) 2 false)]) [(.int .i64 (Prod.fst b.c)), (.int .u64 (Prod.snd b.c)), (.ro (List.map wV b.s) 2 false)]) [(.int .i64 0), (.int .u64 0), .nils]) [(.int .i64 (Prod.fst (addW a.c b.c))), (.int .u64 (Prod.snd (addW a.c b.c))), .nils]) : List Blk)[2]? = some (.cells [(.int .i64 0), (.int .u64 0), .nils]) := rfl
  have h3 : ((ap (ap (ap (ap ([] : List Blk) [(.int .i64 (Prod.fst a.c)), (.int .u64 (Prod.snd a.c)), (.ro (List.map wV a.s) 2 false)]) [(.int .i64 (Prod.fst b.c)), (.int .u64 (Prod.snd b.c)), (.ro (List.map wV b.s) 2 false)]) [(.int .i64 0), (.int .u64 0), .nils]) [(.int .i64 (Prod.fst (addW a.c b.c))), (.int .u64 (Prod.snd (addW a.c b.c))), .nils]) : List Blk)[3]? = some (.cells [(.int .i64 (Prod.fst (addW a.c b.c))), (.int .u64 (Prod.snd (addW a.c b.c))), .nils]) := rfl
  have h4 : ((ap (ap (ap (ap ([] : List Blk) [(.int .i64 (Prod.fst a.c)), (.int .u64 (Prod.snd a.c)), (.ro (List.map wV a.s) 2 false)]) [(.int .i64 (Prod.fst b.c)), (.int .u64 (Prod.snd b.c)), (.ro (List.map wV b.s) 2 false)]) [(.int .i64 0), (.int .u64 0), .nils]) [(.int .i64 (Prod.fst (addW a.c b.c))), (.int .u64 (Prod.snd (addW a.c b.c))), .nils]) : List Blk).length = 4 := rfl
  generalize ((ap (ap (ap (ap ([] : List Blk) [(.int .i64 (Prod.fst a.c)), (.int .u64 (Prod.snd a.c)), (.ro (List.map wV a.s) 2 false)]) [(.int .i64 (Prod.fst b.c)), (.int .u64 (Prod.snd b.c)), (.ro (List.map wV b.s) 2 false)]) [(.int .i64 0), (.int .u64 0), .nils]) [(.int .i64 (Prod.fst (addW a.c b.c))), (.int .u64 (Prod.snd (addW a.c b.c))), .nils]) : List Blk) = H at h0 h1 h2 h3 h4 hl2 ⊢
  refine Wp.seq (Wp.seq ((pathE (nt := 41) [.f (.load none (.c (.ptr 0 2))) (.ro (a.s.map wV) 2 false), .f (.load none (.c (.ptr 1 2))) (.ro (b.s.map wV) 2 false), .g (.len 1 (.c (.ro (b.s.map wV) 2 false))) (.int .i64 ((List.length (b.s.map wV)) : Int)), .g (.mxmn false [(.c (.int .i64 ((List.length (a.s.map wV)) : Int))), (.c (.int .i64 ((List.length (b.s.map wV)) : Int)))]) (.int .i64 ((min (List.length (a.s.map wV)) (List.length (b.s.map wV)) : Nat) : Int))] [20, 2, 3, 4, 5, 19] (e := .normal) (vals := [(.int .i64 0), (.ptr 0 0), (.ptr 1 0), (.ptr 2 0), (.ptr 3 0), (.int .i64 ((min (List.length (a.s.map wV)) (List.length (b.s.map wV)) : Nat) : Int))]) (h' := H) hl2 (fun _ => by kernel_rfl) ⟨(ldV h0), (ldV h1), (by kernel_rfl), mnL, trivial⟩).mono ?_))
  rintro e s ⟨rfl, t3, lo3, rfl, hl3⟩
  simp only [List.length_map] at hl3
  have hls : (addT a b).s.length = min a.s.length b.s.length := by simp [addT]
  have hla := ha.l
  refine (rangeL (X := List Blk × AV) (N := min a.s.length b.s.length) (fun _ _ => [(2, (.ptr 0 0)), (3, (.ptr 1 0)), (4, (.ptr 2 0)), (5, (.ptr 3 0)), (19, (.int .i64 ((min (List.length a.s) (List.length b.s) : Nat) : Int)))]) (fun _ x => x.1)
   (fun k x => x.1[0]? = some (.cells [(.int .i64 (Prod.fst a.c)), (.int .u64 (Prod.snd a.c)), (.ro (List.map wV a.s) 2 false)]) ∧ x.1[1]? = some (.cells [(.int .i64 (Prod.fst b.c)), (.int .u64 (Prod.snd b.c)), (.ro (List.map wV b.s) 2 false)]) ∧ x.1[2]? = some (.cells [(.int .i64 0), (.int .u64 0), .nils]) ∧ x.1[3]? = some (.cells [(.int .i64 (Prod.fst (addW a.c b.c))), (.int .u64 (Prod.snd (addW a.c b.c))), x.2]) ∧ Gro 2 ((((addT a b).s).take k).map enW) x.1 x.2 ∧ 4 ≤ x.1.length ∧ ∀ i, svId x.2 = some i → 4 ≤ i) (fun _ => False)
   (by omega) (by decide) (by decide) (by decide) (by decide) (by decide) (fun _ _ => rfl) (fun _ _ => rfl) ?_ (x0 := (H, .nils)) ⟨h0, h1, h2, h3, Gro.nil _ _, (by show 4 ≤ H.length; omega), fun i h => by cases h⟩ hl3).mono ?_
  ·rintro k ⟨H, sv⟩ t4 lo4 hkN ⟨h0, h1, h2, h3, hg, hlen, hid⟩ hlb
   simp only at h0 h1 h2 h3 hg hlen hid hlb ⊢
   have hka : k < a.s.length := by omega
   have hkb : k < b.s.length := by omega
   have hx : (List.map wV a.s)[(k : Int).toNat]? = some (.agg (enW a.s[k])) := by simp [hka]
   have hy : (List.map wV b.s)[(k : Int).toNat]? = some (.agg (enW b.s[k])) := by simp [hkb]
   have hx2 := ha.s _ (List.getElem_mem hka)
   have hy2 := hb.s _ (List.getElem_mem hkb)
   have htk : (addT a b).s.take (k + 1) = (addT a b).s.take k ++ [addW a.s[k] b.s[k]] := by
    rw [List.take_succ_eq_append_getElem (by omega)]
    simp [addT]
   generalize a.s[k] = x at hx hx2 htk
   generalize b.s[k] = y at hy hy2 htk
   have hsv := hg.eqv
   have hg1 : Gro 2 ((((addT a b).s).take k).map enW) (ap H [(.int .i64 (Prod.fst (addW x y))), (.int .u64 (Prod.snd (addW x y)))]) sv := hg.grow fun i _ x hx => ga hx
   obtain ⟨sv', H1, lo1, happ, hg2, hi2, hl2, hfr⟩ := hg1.app (by_ := 16) (e := enW (addW x y)) rfl rfl (jd := H.length) gl (by rw [List.length_map, List.length_take]; omega)
   have k0 := hfr 0 _ (fun h => by have := hid 0 h; omega) (ga h0)
   have k1 := hfr 1 _ (fun h => by have := hid 1 h; omega) (ga h1)
   have k2 := hfr 2 _ (fun h => by have := hid 2 h; omega) (ga h2)
   have k3 := hfr 3 _ (fun h => by have := hid 3 h; omega) (ga h3)
   rw [show (ap H (enW (addW x y))).length = H.length + 1 by simp] at hi2 hl2
   generalize ((((addT a b).s.take k).map enW).length + 1) = nn at hi2
   have hjd : ∃ jd, jd = H.length + 1 := ⟨_, rfl⟩
   obtain ⟨jd, hjd⟩ := hjd
   rw [← hjd] at hi2
   subst hi2
   refine (pathE (nt := 41) [.p (stays evC (AOper.mk (some 24) (.load none (.c (.ptr 3 2))) none 0 2) sv [H, H, (ap H [(.int .i64 (Prod.fst (addW x y))), (.int .u64 (Prod.snd (addW x y)))]), H1, (H1.set 3 (.cells [(.int .i64 (Prod.fst (addW a.c b.c))), (.int .u64 (Prod.snd (addW a.c b.c))), (.sl jd 2 0 nn nn false)]))] = true), .f (.load none (.c (.ptr 3 2))) sv, .f (.load none (.c (.ptr 0 2))) (.ro (a.s.map wV) 2 false), .p (2 = 2), .p ((0 : Int) ≤ (k : Int)), .p (((k : Int) : Int) < (List.length (a.s.map wV) : Int)), .e (a.s.map wV) (Int.toNat (k : Int)) (.agg (enW x)), .f (.load none (.c (.ptr 1 2))) (.ro (b.s.map wV) 2 false), .p (2 = 2), .p ((0 : Int) ≤ (k : Int)), .p (((k : Int) : Int) < (List.length (b.s.map wV) : Int)), .e (b.s.map wV) (Int.toNat (k : Int)) (.agg (enW y)), .r 156 [(.agg (enW x)), (.agg (enW y))] (.agg (enW (addW x y))) H none, .w (.buildSl [(.int .i64 0), (.int .u64 0)] 1 [(0, (.c (.agg (enW (addW x y)))))]) (.sl H.length 2 0 1 1 true) (ap H [(.int .i64 (Prod.fst (addW x y))), (.int .u64 (Prod.snd (addW x y)))]) none, .w (.append 2 16 (.c sv) (.c (.sl H.length 2 0 1 1 true))) (.sl jd 2 0 nn nn false) H1 lo1, .w (.store 1 (.c (.ptr 3 2)) (.c (.sl jd 2 0 nn nn false))) (.tup []) (H1.set 3 (.cells [(.int .i64 (Prod.fst (addW a.c b.c))), (.int .u64 (Prod.snd (addW a.c b.c))), (.sl jd 2 0 nn nn false)])) (some 3)] [20, 2, 3, 4, 5, 19] (e := .normal) (vals := [(.int .i64 (k : Int)), (.ptr 0 0), (.ptr 1 0), (.ptr 2 0), (.ptr 3 0), (.int .i64 ((min a.s.length b.s.length : Nat) : Int))]) (h' := (H1.set 3 (.cells [(.int .i64 (Prod.fst (addW a.c b.c))), (.int .u64 (Prod.snd (addW a.c b.c))), (.sl jd 2 0 nn nn false)]))) hlb (fun _ => by kernel_rfl) ⟨(stays2 hsv (And.intro (ldV h3) (And.intro (ldV h3) (And.intro (ldV (ga h3)) trivial)))), (ldV h3), (ldV h0), rfl, (by omega), (by simp; omega), hx, (ldV h1), rfl, (by omega), (by simp; omega), hy, (add_e (by kernel_rfl) hx2 hy2 _), rfl, happ, (stK k3), trivial⟩).mono ?_
   rintro e s' ⟨rfl, t5, lo5, rfl, hl5⟩
   refine .inl ⟨rfl, ((List.set H1 3 (.cells [(.int .i64 (Prod.fst (addW a.c b.c))), (.int .u64 (Prod.snd (addW a.c b.c))), (.sl jd 2 0 nn nn false)])), .sl jd 2 0 nn nn false), t5, lo5, rfl, ⟨gne (by omega) k0, gne (by omega) k1, gne (by omega) k2, gset k3, ?_, by simp; omega, fun i hi => ?_⟩, hl5⟩
   ·rw [htk, List.map_append]
    refine hg2.grow fun i hi x hx => ?_
    cases hi
    exact gne (by omega) hx
   ·cases hi; omega
  ·rintro e s (⟨rfl, ⟨H, sv⟩, t5, lo5, rfl, ⟨h0, h1, h2, h3, hg, hlen, hid⟩, hle⟩ | ⟨rfl, h⟩)
   ·simp only at h0 h1 h2 h3 hg hlen hid hle ⊢
    refine (pathE (nt := 41) [.f (.load (some 3) (.c (.ptr 3 0))) (.agg [(.int .i64 (Prod.fst (addW a.c b.c))), (.int .u64 (Prod.snd (addW a.c b.c))), sv]), .w (.store 3 (.c (.ptr 2 0)) (.c (.agg [(.int .i64 (Prod.fst (addW a.c b.c))), (.int .u64 (Prod.snd (addW a.c b.c))), sv]))) (.tup []) (H.set 2 (.cells [(.int .i64 (Prod.fst (addW a.c b.c))), (.int .u64 (Prod.snd (addW a.c b.c))), sv])) (some 2)] [4] (e := .ret) (vals := [(.ptr 2 0)]) (h' := (H.set 2 (.cells [(.int .i64 (Prod.fst (addW a.c b.c))), (.int .u64 (Prod.snd (addW a.c b.c))), sv]))) hle (fun _ => by kernel_rfl) ⟨(ldV h3), (stC h2 (by kernel_rfl) (by kernel_rfl) (one3 hg.one)), trivial⟩).mono ?_
    rintro e s ⟨rfl, t6, lo6, rfl, hl6⟩
    refine ⟨rfl, _, resCell (hl6.ev List.mem_cons_self) (ldC (gset h2) (by kernel_rfl)), sv, rfl, ?_⟩
    rw [List.take_of_length_le (by omega)] at hg
    exact hg.grow fun i hi x hx => gne (by have := hid i hi; omega) hx
   ·exact h.elim
 obtain ⟨r, h', lo, ⟨sv, rfl, hg⟩, hcl⟩ := key
 obtain ⟨r', hf, hcv⟩ := hg.frz (n := 2) (by decide) fun e he => by
  obtain ⟨x, _, rfl⟩ := List.mem_map.1 he
  rfl
 have hcv2 : Cv r' (.ro ((addT a b).s.map wV) 2 false) := by
  rw [List.map_map] at hcv
  exact hcv
 refine (pureS_clf K4 (k := 4) (r' := .agg [.int .i64 (addW a.c b.c).1, .int .u64 (addW a.c b.c).2, r']) hcl (by kernel_rfl) ?_).cv (Cv.agg (CvL.cons (Cv.refl _) (CvL.cons (Cv.refl _) (CvL.cons hcv2 CvL.nil))))
 exact frz3 hf
theorem wV_inj (a b : Int × Int) (h : wV a = wV b) : a = b := by
 obtain ⟨a1, a2⟩ := a
 obtain ⟨b1, b2⟩ := b
 simp only [AV.agg.injEq, List.cons.injEq, AV.int.injEq] at h
 rw [h.1.2, h.2.1.2]
theorem enT_inj {a b : Tot} (h : enT a = enT b) : a = b := by
 obtain ⟨⟨a1, a2⟩, a3⟩ := a
 obtain ⟨⟨b1, b2⟩, b3⟩ := b
 simp only [List.cons.injEq, AV.int.injEq, AV.ro.injEq] at h
 obtain ⟨⟨-, h1⟩, ⟨-, h2⟩, ⟨h3, -⟩, -⟩ := h
 rw [h1, h2, map_inj wV_inj h3]
theorem clo_enT (t : Tot) : cloL (enT t) = true := by simp [enT, cloL, clo, cloL_map (f := wV) (fun _ => rfl) t.s]
def okTt (x : Vw × List Val) : Prop := x.1.2.2.length ≤ 1000 ∧ ∀ s ∈ x.1.2.2, 0 ≤ s ∧ s < (x.2.length : Int)
abbrev enTt (x : Vw × List Val) : List AV := [vwV x.1, rV x.2]
abbrev fTt (x : Vw × List Val) : AV := .agg (enT (totalS x.1 x.2))
noncomputable def g130 : List AV → Option AV := gOf okTt enTt fTt
theorem tot_ok : GOk Tryz.prog 130 (pureG g130) := gOf_ok ⟨_, Tryz.func130, by kernel_rfl, by kernel_rfl⟩ fun x hx => total_pure hx.1 hx.2
theorem tot_e {Γ : FuncId → Option GF} (hg : Γ 130 = some (pureG g130)) {w : Vw} {row : List Val} (hw : w.2.2.length ≤ 1000) (hok : ∀ s ∈ w.2.2, 0 ≤ s ∧ s < (row.length : Int)) (H : List Blk) : Cl Γ Mo.T 130 [vwV w, rV row] H (.agg (enT (totalS w row)), H, none) :=
 Cl.pure (g := g130) hg (gOf_eq (ok := okTt) (en := enTt) (f := fTt) (fun a b _ _ h => by
  obtain ⟨a1, a2⟩ := a
  obtain ⟨b1, b2⟩ := b
  simp only [List.cons.injEq] at h
  rw [vwV_inj _ _ h.1, rV_inj _ _ h.2.1]) (a := (w, row)) ⟨hw, hok⟩) (by simp only [cloL, clo_vwV, clo_rV]; rfl) (clo_enT _) H
def okAd (x : Tot × Tot) : Prop := OkTot x.1 ∧ OkTot x.2
abbrev enAd (x : Tot × Tot) : List AV := [.agg (enT x.1), .agg (enT x.2)]
abbrev fAd (x : Tot × Tot) : AV := .agg (enT (addT x.1 x.2))
noncomputable def g132 : List AV → Option AV := gOf okAd enAd fAd
theorem adt_ok : GOk Tryz.prog 132 (pureG g132) := gOf_ok ⟨_, Tryz.func132, by kernel_rfl, by kernel_rfl⟩ fun x hx => add_pure hx.1 hx.2
theorem adt_e {Γ : FuncId → Option GF} (hg : Γ 132 = some (pureG g132)) {a b : Tot} (ha : OkTot a) (hb : OkTot b) (H : List Blk) : Cl Γ Mo.T 132 [.agg (enT a), .agg (enT b)] H (.agg (enT (addT a b)), H, none) :=
 Cl.pure (g := g132) hg (gOf_eq (ok := okAd) (en := enAd) (f := fAd) (fun a b _ _ h => by
  obtain ⟨a1, a2⟩ := a
  obtain ⟨b1, b2⟩ := b
  simp only [List.cons.injEq, AV.agg.injEq] at h
  have e1 : enT a1 = enT b1 := by simp only [enT, List.cons.injEq]; exact h.1
  have e2 : enT a2 = enT b2 := by simp only [enT, List.cons.injEq]; exact h.2.1
  rw [enT_inj e1, enT_inj e2]) (a := (a, b)) ⟨ha, hb⟩) (by simp [cloL, clo, cloL_map (f := wV) (fun _ => rfl)]) (clo_enT _) H
noncomputable def gam5 : List (Nat × GF) := (129, pureG g129) :: (130, pureG g130) :: (132, pureG g132) :: gam4
theorem K5 : Known (gGet gam5) tree.get Tryz.prog := known_of (by kernel_rfl) ⟨grp_ok, tot_ok, adt_ok, fit_ok, code_ok, int_ok, of_ok, add_ok, cmp_ok, good_ok, xSub_ok, xAdd_ok, trivial⟩ all
noncomputable abbrev G5 : FuncId → Option GF := gGet gam5
end Go.Proofs.YtenpjpldjmoefaaGreat.AM.Mo

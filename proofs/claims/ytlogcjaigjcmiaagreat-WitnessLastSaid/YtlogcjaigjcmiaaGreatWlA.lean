/-
  'gauger's law WitnessLast: what the abstract machine comes to. The 45 cases are printed by wlgen.
-/
import Derived.Test.YtlogcjaigjcmiaaGreatWl
import Derived.Test.YtlogcjaigjcmiaaGreatAmBits
import Derived.IntWalk
import Derived.Laws.Bits64
set_option linter.unusedVariables false
set_option linter.unusedSimpArgs false
set_option maxRecDepth 100000
namespace Go.Proofs.YtlogcjaigjcmiaaGreat.AM.Wl
open Go

noncomputable def gam0 : List (Nat × GF) := [(301, extG xSub), (302, extG xAdd)]
theorem K0 : Known (gGet gam0) tree.get Tryz.prog := known_of (by kernel_rfl) ⟨xSub_ok, xAdd_ok, trivial⟩ all
theorem awake_ev : okB (callX (gGet gam0) tree.get 100000 51 [] []) = true := by kernel_rfl
theorem awake_pure : PureS Tryz.prog 51 [] (.bool true) := by
  obtain ⟨h', lo, h⟩ := okB_some awake_ev
  rw [callX_eq] at h
  exact pureS_of K0 h (by kernel_rfl) rfl
def gAwake : List AV → Option AV
  | [] => some (.bool true)
  | _ => none
theorem awake_ok : GOk Tryz.prog 51 (pureG gAwake) := by
  refine pureG_known ⟨_, Tryz.func51, by kernel_rfl, by kernel_rfl⟩ fun args r hr _ => ?_
  unfold gAwake at hr
  split at hr <;> cases hr
  exact awake_pure
noncomputable def gam : List (Nat × GF) := (51, pureG gAwake) :: gam0
theorem K : Known (gGet gam) tree.get Tryz.prog := known_of (by kernel_rfl) ⟨awake_ok, xSub_ok, xAdd_ok, trivial⟩ all
noncomputable abbrev CX : CallF := callX (gGet gam) tree.get 100000

def hd : ACode → ACode
  | .seq a _ => a
  | c => c
def tl : ACode → ACode
  | .seq _ b => b
  | c => c
theorem seqX_ok {call : CallF} {n : Nat} {c : ACode} {s s' : St} (hc : c = .seq (hd c) (tl c)) (h : execX call n (hd c) s = some (.normal, s')) : execX call (n + 1) c s = execX call n (tl c) s' := by
  rw [hc]
  show thenX (execX call n) (tl c) (execX call n (hd c) s) = _
  rw [h]
  rfl
abbrev z : AV := .tup []
def tD : ACode := tl (tl (tl a10.body))
def tF : ACode := tl (tl tD)

def s0 (lives sure : Int) : St := { t := [.int .i64 lives, .int .i64 sure, z, z, z, z, z, z, z, z, z, z, z, z, z, z, z, z, z, z, z, z, z, z, z, z, z, z, z, z, z, z, z, z, z, z, z, z, z, z, z, z, z, z, z, z, z, z, z, z, z, z, z, z, z, z, z, z, z, z, z, z, z, z, z, z, z, z, z, z, z, z, z, z, z, z, z, z, z, z, z, z, z, z, z, z, z, z, z, z, z, z, z, z, z, z, z, z, z, z, z, z, z, z, z, z, z, z, z, z, z, z, z], h := [] }

def sA (lives sure : Int) : St := { t := [.int .i64 lives, .int .i64 sure, z, z, .bool false, z, z, z, z, z, z, z, z, z, z, z, z, z, z, z, z, z, z, z, z, z, z, z, z, z, z, z, z, z, z, z, z, z, z, z, z, z, z, z, z, z, z, z, z, z, z, z, z, z, z, z, z, z, z, z, z, z, z, z, z, z, z, z, z, z, z, z, z, z, z, z, z, z, z, z, z, z, z, z, z, z, z, z, z, z, z, z, z, z, z, z, z, z, z, z, z, z, z, z, z, z, z, z, z, z, z, z, z], h := [] }

def sB (lives sure : Int) : St := { t := [.int .i64 lives, .int .i64 sure, z, z, .bool false, z, z, z, z, z, z, z, z, z, z, z, .bool true, .bool false, z, z, z, z, z, z, z, z, z, z, z, z, z, z, z, z, z, z, z, z, z, z, z, z, z, z, z, z, z, z, z, z, z, z, z, z, z, z, z, z, z, z, z, z, z, z, z, z, z, z, z, z, z, z, z, z, z, z, z, z, z, z, z, z, z, z, z, z, z, z, z, z, z, z, z, z, z, z, z, z, z, z, z, z, z, z, z, z, z, z, z, z, z, z, z], h := [] }

def sC (lives sure n : Int) (v18 v19 v20 v21 v22 : AV) : St := { t := [.int .i64 lives, .int .i64 sure, z, z, .bool false, .int .i64 n, z, z, z, z, z, z, z, z, z, z, .bool true, .bool false, v18, v19, v20, v21, v22, z, z, z, z, z, z, z, z, z, z, z, z, z, z, z, z, z, z, z, z, z, z, z, z, z, z, z, z, z, z, z, z, z, z, z, z, z, z, z, z, z, z, z, z, z, z, z, z, z, z, z, z, z, z, z, z, z, z, z, z, z, z, z, z, z, z, z, z, z, z, z, z, z, z, z, z, z, z, z, z, z, z, z, z, z, z, z, z, z, z], h := [] }

def sE (lives sure n k : Int) (v18 v19 v20 v21 v22 v24 v25 v26 v27 v28 v29 : AV) : St := { t := [.int .i64 lives, .int .i64 sure, z, z, .bool false, .int .i64 n, .sl 0 22 0 0 0 true, .int .i64 k, z, z, z, z, z, z, z, z, .bool true, .bool false, v18, v19, v20, v21, v22, .sl 0 22 0 0 0 true, v24, v25, v26, v27, v28, v29, z, z, z, z, z, z, z, z, z, z, z, z, z, z, z, z, z, z, z, z, z, z, z, z, z, z, z, z, z, z, z, z, z, z, z, z, z, z, z, z, z, z, z, z, z, z, z, z, z, z, z, z, z, z, z, z, z, z, z, z, z, z, z, z, z, z, z, z, z, z, z, z, z, z, z, z, z, z, z, z, z, z, z], h := [.cells []] }

def sD (lives sure n : Int) (v18 v19 v20 v21 v22 : AV) : St := { t := [.int .i64 lives, .int .i64 sure, z, z, .bool false, .int .i64 n, .sl 0 22 0 0 0 true, z, z, z, z, z, z, z, z, z, .bool true, .bool false, v18, v19, v20, v21, v22, .sl 0 22 0 0 0 true, z, z, z, z, z, z, z, z, z, z, z, z, z, z, z, z, z, z, z, z, z, z, z, z, z, z, z, z, z, z, z, z, z, z, z, z, z, z, z, z, z, z, z, z, z, z, z, z, z, z, z, z, z, z, z, z, z, z, z, z, z, z, z, z, z, z, z, z, z, z, z, z, z, z, z, z, z, z, z, z, z, z, z, z, z, z, z, z, z], h := [.cells []] }


def eN (lives : Int) : Int := IntKind.i64.wrap (1 + IntKind.i64.wrap (Int.tmod (IntKind.u64.wrap lives) 9))
def eK (sure n : Int) : Int := IntKind.i64.wrap (Int.tmod (IntKind.u64.wrap sure) (IntKind.u64.wrap n))
theorem start (lives sure : Int) : callX (gGet gam) tree.get 100001 10 [.int .i64 lives, .int .i64 sure] [] = endX a10 (execX CX 100000 a10.body (s0 lives sure)) := by kernel_rfl
theorem stepA (lives sure : Int) : execX CX 99999 (hd a10.body) (s0 lives sure) = some (.normal, sA lives sure) := by kernel_rfl
theorem stepB (lives sure : Int) : execX CX 99998 (hd (tl a10.body)) (sA lives sure) = some (.normal, sB lives sure) := by kernel_rfl
theorem stepC (lives sure : Int) : ∃ v18 v19 v20 v21 v22, execX CX 99997 (hd (tl (tl a10.body))) (sB lives sure) = some (.normal, sC lives sure (eN lives) v18 v19 v20 v21 v22) := ⟨.int .i64 lives, .int .u64 (IntKind.u64.wrap lives), .int .u64 (Int.tmod (IntKind.u64.wrap lives) 9), .int .i64 (IntKind.i64.wrap (Int.tmod (IntKind.u64.wrap lives) 9)), .int .i64 (eN lives), by kernel_rfl⟩
theorem stepD (lives sure n : Int) (v18 v19 v20 v21 v22 : AV) : execX CX 99996 (hd tD) (sC lives sure n v18 v19 v20 v21 v22) = some (.normal, sD lives sure n v18 v19 v20 v21 v22) := by kernel_rfl
theorem eN_in (lives : Int) : 1 ≤ eN lives ∧ eN lives ≤ 9 := by
  unfold eN
  rw [IntKind.wrap_u64, Int.tmod_eq_emod_of_nonneg (by omega), IntWalk.i64_in (lives % 18446744073709551616 % 9) (by omega), IntWalk.i64_in _ (by omega)]
  omega
theorem eK_in (sure n : Int) (h1 : 1 ≤ n) (h2 : n ≤ 9) : 0 ≤ eK sure n ∧ eK sure n < n := by
  unfold eK
  rw [IntKind.wrap_u64, IntWalk.u64_in n (by omega), Int.tmod_eq_emod_of_nonneg (by omega)]
  have g1 := Int.emod_nonneg (sure % 18446744073709551616) (show n ≠ 0 by omega)
  have g2 := Int.emod_lt_of_pos (sure % 18446744073709551616) (show 0 < n by omega)
  rw [IntWalk.i64_in _ (by omega)]
  exact ⟨g1, g2⟩
theorem stepE1 (lives sure : Int) (v18 v19 v20 v21 v22 : AV) : ∃ v24 v25 v26 v27 v28 v29, execX CX 99995 (hd (tl tD)) (sD lives sure 1 v18 v19 v20 v21 v22) = some (.normal, sE lives sure 1 (eK sure 1) v18 v19 v20 v21 v22 v24 v25 v26 v27 v28 v29) := ⟨.int .i64 sure, .int .u64 (IntKind.u64.wrap sure), .int .i64 1, .int .u64 (IntKind.u64.wrap 1), .int .u64 (Int.tmod (IntKind.u64.wrap sure) (IntKind.u64.wrap 1)), .int .i64 (eK sure 1), by kernel_rfl⟩
theorem stepE2 (lives sure : Int) (v18 v19 v20 v21 v22 : AV) : ∃ v24 v25 v26 v27 v28 v29, execX CX 99995 (hd (tl tD)) (sD lives sure 2 v18 v19 v20 v21 v22) = some (.normal, sE lives sure 2 (eK sure 2) v18 v19 v20 v21 v22 v24 v25 v26 v27 v28 v29) := ⟨.int .i64 sure, .int .u64 (IntKind.u64.wrap sure), .int .i64 2, .int .u64 (IntKind.u64.wrap 2), .int .u64 (Int.tmod (IntKind.u64.wrap sure) (IntKind.u64.wrap 2)), .int .i64 (eK sure 2), by kernel_rfl⟩
theorem stepE3 (lives sure : Int) (v18 v19 v20 v21 v22 : AV) : ∃ v24 v25 v26 v27 v28 v29, execX CX 99995 (hd (tl tD)) (sD lives sure 3 v18 v19 v20 v21 v22) = some (.normal, sE lives sure 3 (eK sure 3) v18 v19 v20 v21 v22 v24 v25 v26 v27 v28 v29) := ⟨.int .i64 sure, .int .u64 (IntKind.u64.wrap sure), .int .i64 3, .int .u64 (IntKind.u64.wrap 3), .int .u64 (Int.tmod (IntKind.u64.wrap sure) (IntKind.u64.wrap 3)), .int .i64 (eK sure 3), by kernel_rfl⟩
theorem stepE4 (lives sure : Int) (v18 v19 v20 v21 v22 : AV) : ∃ v24 v25 v26 v27 v28 v29, execX CX 99995 (hd (tl tD)) (sD lives sure 4 v18 v19 v20 v21 v22) = some (.normal, sE lives sure 4 (eK sure 4) v18 v19 v20 v21 v22 v24 v25 v26 v27 v28 v29) := ⟨.int .i64 sure, .int .u64 (IntKind.u64.wrap sure), .int .i64 4, .int .u64 (IntKind.u64.wrap 4), .int .u64 (Int.tmod (IntKind.u64.wrap sure) (IntKind.u64.wrap 4)), .int .i64 (eK sure 4), by kernel_rfl⟩
theorem stepE5 (lives sure : Int) (v18 v19 v20 v21 v22 : AV) : ∃ v24 v25 v26 v27 v28 v29, execX CX 99995 (hd (tl tD)) (sD lives sure 5 v18 v19 v20 v21 v22) = some (.normal, sE lives sure 5 (eK sure 5) v18 v19 v20 v21 v22 v24 v25 v26 v27 v28 v29) := ⟨.int .i64 sure, .int .u64 (IntKind.u64.wrap sure), .int .i64 5, .int .u64 (IntKind.u64.wrap 5), .int .u64 (Int.tmod (IntKind.u64.wrap sure) (IntKind.u64.wrap 5)), .int .i64 (eK sure 5), by kernel_rfl⟩
theorem stepE6 (lives sure : Int) (v18 v19 v20 v21 v22 : AV) : ∃ v24 v25 v26 v27 v28 v29, execX CX 99995 (hd (tl tD)) (sD lives sure 6 v18 v19 v20 v21 v22) = some (.normal, sE lives sure 6 (eK sure 6) v18 v19 v20 v21 v22 v24 v25 v26 v27 v28 v29) := ⟨.int .i64 sure, .int .u64 (IntKind.u64.wrap sure), .int .i64 6, .int .u64 (IntKind.u64.wrap 6), .int .u64 (Int.tmod (IntKind.u64.wrap sure) (IntKind.u64.wrap 6)), .int .i64 (eK sure 6), by kernel_rfl⟩
theorem stepE7 (lives sure : Int) (v18 v19 v20 v21 v22 : AV) : ∃ v24 v25 v26 v27 v28 v29, execX CX 99995 (hd (tl tD)) (sD lives sure 7 v18 v19 v20 v21 v22) = some (.normal, sE lives sure 7 (eK sure 7) v18 v19 v20 v21 v22 v24 v25 v26 v27 v28 v29) := ⟨.int .i64 sure, .int .u64 (IntKind.u64.wrap sure), .int .i64 7, .int .u64 (IntKind.u64.wrap 7), .int .u64 (Int.tmod (IntKind.u64.wrap sure) (IntKind.u64.wrap 7)), .int .i64 (eK sure 7), by kernel_rfl⟩
theorem stepE8 (lives sure : Int) (v18 v19 v20 v21 v22 : AV) : ∃ v24 v25 v26 v27 v28 v29, execX CX 99995 (hd (tl tD)) (sD lives sure 8 v18 v19 v20 v21 v22) = some (.normal, sE lives sure 8 (eK sure 8) v18 v19 v20 v21 v22 v24 v25 v26 v27 v28 v29) := ⟨.int .i64 sure, .int .u64 (IntKind.u64.wrap sure), .int .i64 8, .int .u64 (IntKind.u64.wrap 8), .int .u64 (Int.tmod (IntKind.u64.wrap sure) (IntKind.u64.wrap 8)), .int .i64 (eK sure 8), by kernel_rfl⟩
theorem stepE9 (lives sure : Int) (v18 v19 v20 v21 v22 : AV) : ∃ v24 v25 v26 v27 v28 v29, execX CX 99995 (hd (tl tD)) (sD lives sure 9 v18 v19 v20 v21 v22) = some (.normal, sE lives sure 9 (eK sure 9) v18 v19 v20 v21 v22 v24 v25 v26 v27 v28 v29) := ⟨.int .i64 sure, .int .u64 (IntKind.u64.wrap sure), .int .i64 9, .int .u64 (IntKind.u64.wrap 9), .int .u64 (Int.tmod (IntKind.u64.wrap sure) (IntKind.u64.wrap 9)), .int .i64 (eK sure 9), by kernel_rfl⟩
/-- The rest, behind the choice of the numbers. -/
def Rest (n k : Int) : Prop := ∀ (lives sure : Int) (v18 v19 v20 v21 v22 v24 v25 v26 v27 v28 v29 : AV), okB (endX a10 (execX CX 99995 tF (sE lives sure n k v18 v19 v20 v21 v22 v24 v25 v26 v27 v28 v29))) = true
theorem law_of (hR : ∀ n k : Int, 1 ≤ n → n ≤ 9 → 0 ≤ k → k < n → Rest n k) (lives sure : Int) : okB (callX (gGet gam) tree.get 100001 10 [.int .i64 lives, .int .i64 sure] []) = true := by
  rw [start]
  rw [seqX_ok (n := 99999) (s' := sA lives sure) (by kernel_rfl) (stepA lives sure)]
  rw [seqX_ok (n := 99998) (c := tl a10.body) (s' := sB lives sure) (by kernel_rfl) (stepB lives sure)]
  obtain ⟨v18, v19, v20, v21, v22, hC⟩ := stepC lives sure
  rw [seqX_ok (n := 99997) (c := tl (tl a10.body)) (by kernel_rfl) hC]
  obtain ⟨h1, h2⟩ := eN_in lives
  generalize eN lives = n at h1 h2
  show okB (endX a10 (execX CX 99997 tD _)) = true
  rw [seqX_ok (n := 99996) (c := tD) (by kernel_rfl) (stepD lives sure n v18 v19 v20 v21 v22)]
  obtain ⟨k1, k2⟩ := eK_in sure n h1 h2
  have hE : ∃ v24 v25 v26 v27 v28 v29, execX CX 99995 (hd (tl tD)) (sD lives sure n v18 v19 v20 v21 v22) = some (.normal, sE lives sure n (eK sure n) v18 v19 v20 v21 v22 v24 v25 v26 v27 v28 v29) := by
    have : n = 1 ∨ n = 2 ∨ n = 3 ∨ n = 4 ∨ n = 5 ∨ n = 6 ∨ n = 7 ∨ n = 8 ∨ n = 9 := by omega
    rcases this with rfl | rfl | rfl | rfl | rfl | rfl | rfl | rfl | rfl
    · exact stepE1 lives sure v18 v19 v20 v21 v22
    · exact stepE2 lives sure v18 v19 v20 v21 v22
    · exact stepE3 lives sure v18 v19 v20 v21 v22
    · exact stepE4 lives sure v18 v19 v20 v21 v22
    · exact stepE5 lives sure v18 v19 v20 v21 v22
    · exact stepE6 lives sure v18 v19 v20 v21 v22
    · exact stepE7 lives sure v18 v19 v20 v21 v22
    · exact stepE8 lives sure v18 v19 v20 v21 v22
    · exact stepE9 lives sure v18 v19 v20 v21 v22
  obtain ⟨v24, v25, v26, v27, v28, v29, hE⟩ := hE
  rw [seqX_ok (n := 99995) (c := tl tD) (by kernel_rfl) hE]
  exact hR n (eK sure n) h1 h2 k1 k2 lives sure v18 v19 v20 v21 v22 v24 v25 v26 v27 v28 v29
end Go.Proofs.YtlogcjaigjcmiaaGreat.AM.Wl

/-
  THE ABSTRACT MACHINE: what is known of a function whose arguments and answers hold no blocks ('pure contracts').
-/
import Derived.Test.YtlogcjaigjcmiaaGreatAmU
set_option linter.unusedVariables false
set_option linter.unusedSimpArgs false
namespace Go.Proofs.YtlogcjaigjcmiaaGreat.AM
open Go

mutual
/-- A value without blocks of its own. -/
def clo : AV → Bool
  | .ptr .. | .sl .. | .map _ => false
  | .rop es _ _ _ | .ro es _ _ => cloL es
  | .fn _ a b => cloL a && cloL b
  | .agg cs | .tup cs => cloL cs
  | _ => true
def cloL : List AV → Bool
  | [] => true
  | v :: r => clo v && cloL r
end
theorem cloL_all : ∀ {l : List AV}, cloL l = true ↔ ∀ v ∈ l, clo v = true
  | [] => by simp [cloL]
  | v :: r => by simp [cloL, cloL_all (l := r)]
theorem cloL_getD {l : List AV} (h : cloL l = true) (i : Nat) : clo (l.getD i .dead) = true := by
  rw [List.getD_eq_getElem?_getD]
  cases hi : l[i]? with
  | none => rfl
  | some v => exact cloL_all.1 h v (List.mem_of_getElem? hi)
theorem clo_cells {v : AV} (h : clo v = true) : cloL v.cells = true := by
  cases v <;> first | exact h | (simp [AV.cells, cloL]; done) | (simp only [AV.cells, cloL, h]; rfl)
theorem VRel.closed {S m w v x} (h : VRel S m w v x) : clo v = true → ∀ m', VRel S m' w v x := by
  induction h with
  | dead => exact fun _ _ => .dead
  | bool => exact fun _ _ => .bool
  | int => exact fun _ _ => .int
  | str h => exact fun _ _ => .str h
  | nilp => exact fun _ _ => .nilp
  | ptr h => exact fun hc => by cases hc
  | rop f hS hcc hl hr ih => exact fun hc m' => .rop f hS hcc hl fun i j hi hj => ih i j hi hj (cloL_getD (clo_cells (cloL_getD hc i)) j) m'
  | nils => exact fun _ _ => .nils
  | sl h => exact fun hc => by cases hc
  | sle h => exact fun hc => by cases hc
  | ro f hS hcc hl hr hx hn ih => exact fun hc m' => .ro f hS hcc hl (fun i j hi hj => ih i j hi hj (cloL_getD (clo_cells (cloL_getD hc i)) j) m') hx hn
  | ro0 hx => exact fun _ _ => .ro0 hx
  | nilm => exact fun _ _ => .nilm
  | map h => exact fun hc => by cases hc
  | nilf => exact fun _ _ => .nilf
  | fn hf hfr hc' hcr ih1 ih2 =>
    intro hc m'
    simp only [clo, Bool.and_eq_true] at hc
    exact .fn hf (fun i hi => ih1 i hi (cloL_getD hc.1 i) m') hc' (fun i hi => ih2 i hi (cloL_getD hc.2 i) m')
  | agg hl hr ih => exact fun hc m' => .agg hl fun i hi => ih i hi (cloL_getD hc i) m'
  | tup hl hr ih => exact fun hc m' => .tup hl fun i hi => ih i hi (cloL_getD hc i) m'
theorem LRel.closed {S m w vs xs} (h : LRel S m w vs xs) (hc : cloL vs = true) (m') : LRel S m' w vs xs := ⟨h.1, fun i hi => (h.2 i hi).closed (cloL_getD hc i) m'⟩

section
variable {P : Program}
/-- A call that leaves what there was, as it was, and answers with a value without blocks. -/
def PureS (P : Program) (f : FuncId) (args : List AV) (r : AV) : Prop :=
  ∀ (S : Nat → Prop) (w : World) (vals : Array Value), (∀ b, S b → b < w.heap.size) → LRel S (fun _ => none) w args vals.toList →
    Calls P f vals w fun e w' => ∃ v S', e = .returned v ∧ VRel S' (fun _ => none) w' r v ∧ (∀ b, S b → S' b) ∧ (∀ b, S' b → S b ∨ w.heap.size ≤ b) ∧ (∀ b, S' b → b < w'.heap.size) ∧ RowKit.Below w.heap.size w w'
theorem PureS.ams {f : FuncId} {args : List AV} {r : AV} (hp : PureS P f args r) (hc : cloL args = true) (hr : clo r = true) (h : List Blk) : AMS P f args h r h := by
  intro S m w vals r0 hL
  refine Calls.mono (hp S w vals r0.sb (hL.closed hc _)) fun e w' he => ?_
  obtain ⟨v, S', rfl, h1, h2, h3, h4, h5⟩ := he
  have hk : Kp S m w S' m w' := ⟨h2, fun b hb => h5.block b (r0.sb b hb), fun _ _ h => h⟩
  refine ⟨v, S', m, rfl, h1.closed hr _, ⟨h4, r0.dom, ?_, r0.inj⟩, ⟨h2, fun _ _ h => h, h5.os, h5.tape, h5.output, h5.size, Nat.le_refl _, fun b hb _ => h5.block b hb, fun id b ho _ => ⟨id, ho⟩, h3⟩⟩
  intro id bl hb
  refine (r0.blk id bl hb).keep r0 hk fun b hm hg => ?_
  have ho : owns h m id b := ⟨hm, bl, hb, hg⟩
  refine ⟨h5.block b (owns_lt r0 ho), fun hS' => ?_⟩
  rcases h3 b hS' with h | h
  · exact owns_not_S r0 ho h
  · have := owns_lt r0 ho; omega
/-- By the abstract machine, from no blocks at all. -/
theorem pureS_of {Γ tbl} (K : Known Γ tbl P) {n f args r h' lo} (hc : callF Γ tbl n f args [] = some (r, h', lo)) (hb : Γ f = none) (hr : clo r = true) : PureS P f args r := by
  intro S w vals hS hL
  refine Calls.mono (am_call K hc hb hS hL) fun e w' he => ?_
  obtain ⟨v, S', m', h1, h2, h3, h4, h5, h6⟩ := he
  exact ⟨v, S', h1, h2.closed hr _, h4, h5, h3.sb, h6⟩
/-- A contract of that kind, as the abstract machine takes it. -/
def pureG (g : List AV → Option AV) : List AV → List Blk → Option (AV × List Blk × Option Nat) := fun args h => match g args with
  | some r => if cloL args && clo r then some (r, h, none) else none
  | none => none
theorem pureG_known {f : FuncId} {g : List AV → Option AV} (hb : Body P f) (hg : ∀ args r, g args = some r → cloL args = true → PureS P f args r) :
    ∀ args h r h' lo, pureG g args h = some (r, h', lo) → Pre h h' lo ∧ ((Body P f ∧ AMS P f args h r h') ∨ ExtS P f args h r h') := by
  intro args h r h' lo hc
  unfold pureG at hc
  split at hc <;> first | (cases hc; done) | skip
  rename_i r' hg'
  split at hc <;> cases hc
  rename_i hcl
  rw [Bool.and_eq_true] at hcl
  exact ⟨Pre.refl _ _, .inl ⟨hb, (hg _ _ hg' hcl.1).ams hcl.1 hcl.2 _⟩⟩
end
end Go.Proofs.YtlogcjaigjcmiaaGreat.AM

/-
  THE ABSTRACT MACHINE: tables of codes, and of what is known of functions.
-/
import Derived.Test.YtlogcjaigjcmiaaGreatAmX
set_option linter.unusedVariables false
set_option linter.unusedSimpArgs false
namespace Go.Proofs.YtlogcjaigjcmiaaGreat.AM
open Go

/-- Codes by the functions' numbers: what lies left is below k. -/
inductive Tr where
  | leaf
  | node (f : Nat) (a : AFunc)
  | br (l : Tr) (k : Nat) (r : Tr)
noncomputable def Tr.get (t : Tr) : Nat → Option AFunc :=
  Tr.rec (fun _ => none) (fun g a f => bif Nat.beq f g then some a else none) (fun _ k _ il ir f => bif Nat.blt f k then il f else ir f) t
/-- All codes of a table are their functions' own. -/
def Tr.All (P : Program) : Tr → Prop
  | .leaf => True
  | .node f a => ∃ fn, P.funcs[f]? = some fn ∧ compFn P fn = some a
  | .br l _ r => l.All P ∧ r.All P
theorem Tr.all_get {P : Program} : ∀ (t : Tr), t.All P → ∀ f a, t.get f = some a → ∃ fn, P.funcs[f]? = some fn ∧ compFn P fn = some a
  | .leaf, _, f, a, h => by cases h
  | .node g b, hA, f, a, h => by
    change (bif Nat.beq f g then some b else none) = some a at h
    cases hb : Nat.beq f g with
    | false => rw [hb] at h; cases h
    | true =>
      rw [hb] at h
      cases h
      rw [Nat.eq_of_beq_eq_true hb]
      exact hA
  | .br l k r, hA, f, a, h => by
    change (bif Nat.blt f k then l.get f else r.get f) = some a at h
    cases hb : Nat.blt f k with
    | false => rw [hb] at h; exact Tr.all_get r hA.2 f a h
    | true => rw [hb] at h; exact Tr.all_get l hA.1 f a h

abbrev GF := List AV → List Blk → Option (AV × List Blk × Option Nat)
/-- What is known of functions, by their numbers. -/
noncomputable def gGet (l : List (Nat × GF)) : FuncId → Option GF := List.rec (fun _ => none) (fun p _ ih f => bif Nat.beq f p.1 then some p.2 else ih f) l
def GOk (P : Program) (f : FuncId) (g : GF) : Prop := ∀ args h r h' lo, g args h = some (r, h', lo) → Pre h h' lo ∧ ((Body P f ∧ AMS P f args h r h') ∨ ExtS P f args h r h')
def gAll (P : Program) : List (Nat × GF) → Prop
  | [] => True
  | p :: l => GOk P p.1 p.2 ∧ gAll P l
theorem gGet_ok {P : Program} : ∀ (l : List (Nat × GF)), gAll P l → ∀ f g, gGet l f = some g → GOk P f g
  | [], _, f, g, h => by cases h
  | p :: l, hA, f, g, h => by
    change (bif Nat.beq f p.1 then some p.2 else gGet l f) = some g at h
    cases hb : Nat.beq f p.1 with
    | false => rw [hb] at h; exact gGet_ok l hA.2 f g h
    | true =>
      rw [hb] at h
      cases h
      rw [Nat.eq_of_beq_eq_true hb]
      exact hA.1
theorem known_of {P : Program} (hm : P.follows .mixedOrders = true) {l : List (Nat × GF)} {t : Tr} (hg : gAll P l) (ht : t.All P) : Known (gGet l) t.get P := ⟨hm, gGet_ok l hg, Tr.all_get t ht⟩

/-- A function without a Go body that answers with numbers alone. -/
def extG (g : List AV → Option AV) : GF := fun args h => match g args with
  | some r => some (r, h, none)
  | none => none
theorem extG_ok {P : Program} {f : FuncId} {g : List AV → Option AV} (hg : ∀ args r, g args = some r → ∀ (S : Nat → Prop) (m : Emb) (w : World) (vals : Array Value), LRel S m w args vals.toList → ∃ x, (callFunc f vals).run P w = .ok (.value x) w ∧ VRel S m w r x) : GOk P f (extG g) := by
  intro args h r h' lo hc
  unfold extG at hc
  split at hc <;> cases hc
  rename_i hg'
  exact ⟨Pre.refl _ _, .inr ⟨rfl, fun S m w vals _ hL => hg _ _ hg' S m w vals hL⟩⟩
def okB : Option (AV × List Blk × Option Nat) → Bool
  | some (.bool true, _) => true
  | _ => false
theorem okB_some {r} (h : okB r = true) : ∃ h' lo, r = some (.bool true, h', lo) := by
  unfold okB at h
  split at h
  · exact ⟨_, _, rfl⟩
  · cases h
/-- A law without slices that comes to true. -/
theorem law_true {P : Program} {Γ tbl} (K : Known Γ tbl P) {n f args} (hc : okB (callF Γ tbl n f args []) = true) (hb : Γ f = none) {S : Nat → Prop} {w : World} {vals : Array Value} (hS : ∀ b, S b → b < w.heap.size) (hL : LRel S (fun _ => none) w args vals.toList) :
    Calls P f vals w fun e w' => e = .returned (.bool true) ∧ RowKit.Below w.heap.size w w' := by
  obtain ⟨h', lo, hr⟩ := okB_some hc
  refine Calls.mono (am_call K hr hb hS hL) fun e w' he => ?_
  obtain ⟨v, S', m', rfl, h1, _, _, _, h2⟩ := he
  cases h1
  exact ⟨rfl, h2⟩
end Go.Proofs.YtlogcjaigjcmiaaGreat.AM

/-
  'gauger's law ModelBack holds of every input: it returns true, and each argument reads behind the call as it read before.
  This text: part 1 of 22 of the proof (WLast, WWords, WTab, WInv, Drawn).
-/
import Derived.OrdersHeld
import Derived.Deep.RegionHeld3
import Derived.Laws.BitsLemmas
import Derived.RowKit
import Derived.Below
import Derived.Deep.Draws
import Derived.Deep.AppendLies
import Derived.Maps.AppendAt
import Derived.OwnWalk
import Derived.Laws.BytesArg
import Derived.Laws.MakeOwn
import Derived.Laws.OwnMore
import Derived.Deep.OwnRows
import Derived.Tactics
import Derived.Lib.ConvBytes
import Derived.Laws.Slices
import Derived.WalkKit
import Derived.KernelRfl
import Derived.RowKit3
import Derived.Deep.LoopGhost
import Derived.Deep.QuietTactic
import Derived.BigQuiet
import Derived.WideLaws
import Derived.Deep.DeepCutAuto
import Derived.Deep.CutBlock
import Derived.Laws.Rows
import Derived.Lib.AppendStr
import Derived.ArgAppend
import Derived.Laws.IdiomCopy
import Derived.Orders
set_option linter.unusedVariables false
set_option linter.unusedSimpArgs false
namespace Go.Proofs.YtenpjpldjmoefaaGreatW.PrintLast
section
variable {P : Program} {ops : Array Oper} {Q : Exit → Act → World → Prop} {md : Region.Mode} {S : World → Prop} {ds : List Nat}
def wpAnyLast (P : Program) (md : Region.Mode) (ops : Array Oper) (Q : Exit → Act → World → Prop) (S : World → Prop) (ds : List Nat) : Nat → Array Bool → Act → World → Prop
 | 0, listed, a, w => Region.ready md ops listed = [] ∧ Q .normal a w
 | fuel + 1, listed, a, w =>
  (Region.ready md ops listed = [] → Q .normal a w) ∧
  ∀ i ∈ Region.ready md ops listed, wpOp P ops Q i (fun a' w' => (i ∉ ds → S w → S w') ∧ wpAnyLast P md ops Q S ds fuel (listed.setIfInBounds i true) a' w') a w
theorem wpAny_of_last : ∀ (fuel : Nat) (listed : Array Bool) (a : Act) (w : World), wpAnyLast P md ops Q S ds fuel listed a w → wpAny P md ops Q fuel listed a w
 | 0, _, _, _, h => h
 | fuel + 1, _, _, _, h => ⟨h.1, fun i hi => wpOp_mono (fun a' w' h' => wpAny_of_last fuel _ a' w' h'.2) (h.2 i hi)⟩
theorem wp_region_last {id : Nat} {a : Act} {w : World} (hm : P.follows .mixedOrders = true)
  (h : wpAnyLast P .any ops Q S ds ops.size (Array.replicate ops.size false) a { w with drawn := w.drawn + 1 }) : (Code.region id ops true).wp P Q a w :=
 wp_region_any hm (wpAny_of_last _ _ _ _ h)
end
section
variable {P : Program} {ops : Array Oper} {Q : Exit → Act → World → Prop} {md : Region.Mode} {S : World → Prop} {ds : List Nat}
theorem start_ {id n : Nat} {a : Act} {w : World} (l : Array Bool) (hm : P.follows .mixedOrders = true) (hn : ops.size = n) (hl : Array.replicate n false = l) (hS : S w.drew)
  (h : S w.drew → wpAnyLast P .any ops Q S ds n l a w.drew) : (Code.region id ops true).wp P Q a w := by
 subst hn
 subst hl
 exact wp_region_last hm (h hS)
end
end Go.Proofs.YtenpjpldjmoefaaGreatW.PrintLast
namespace Go.Proofs.YtenpjpldjmoefaaGreatW.PrintWords
open Go.RowKit
structure Aside0 (p : Prop) : Prop where mk :: (out : p)
def Reps {α : Type} (R : α → List Value → Prop) (size : Nat) (ps : List α) (cs : List Value) : Prop :=
  cs.length = ps.length * size ∧ ∀ j p, ps[j]? = some p → R p ((cs.drop (j * size)).take size)
structure Kd (α : Type) where
  sz : Nat
  E : List Nat
  K : World → α → List Value → Prop
  M : World → Nat → (Nat → Prop) → α → List Value → Prop
  K_len : ∀ {w x cs}, K w x cs → cs.length = sz
  K_one : ∀ {w x cs}, K w x cs → ∀ u ∈ cs, u.oneCell' = true
  K_below : ∀ {w w1 : World} {x cs}, Below w.heap.size w w1 → K w x cs → K w1 x cs
  K_of_M : ∀ {w base ok x cs}, M w base ok x cs → K w x cs
  M_mono : ∀ {w base ok ok' x cs}, (∀ k, ok k → ok' k) → M w base ok x cs → M w base ok' x cs
  M_bound : ∀ {w : World} {base ok x cs}, M w base ok x cs → M w base (fun k => ok k ∧ base ≤ k ∧ k < w.heap.size ∧ ∃ q, q ∈ E ∧ ∃ cells, w.heap[k]? = some (.cells cells q (0, 0))) x cs
  M_move : ∀ {w w1 : World} {base ok x cs}, (∀ k, ok k → w1.heap[k]? = w.heap[k]?) → M w base ok x cs → M w1 base ok x cs
  M_lower : ∀ {w base base' ok x cs}, base' ≤ base → M w base ok x cs → M w base' ok x cs
namespace Kd
def bot {α : Type} (sz : Nat) (E : List Nat) : Kd α where
  sz := sz
  E := E
  K := fun _ _ _ => False
  M := fun _ _ _ _ _ => False
  K_len := fun h => h.elim
  K_one := fun h => h.elim
  K_below := fun _ h => h
  K_of_M := fun h => h
  M_mono := fun _ h => h
  M_bound := fun h => h
  M_move := fun _ h => h
  M_lower := fun _ h => h
def upto {α : Type} (F : Kd α → Kd α) (sz : Nat) (E : List Nat) : Nat → Kd α
  | 0 => bot sz E
  | n + 1 => F (upto F sz E n)
end Kd
def QRow (w : World) (base : Nat) (e : TypeId) (size : Nat) (v : Value) (n : Nat) (xs : List Value) : Prop :=
  xs.length = n * size ∧
  ((n = 0 ∧ ∃ A, v = .slice A 0 0 ∧ ∀ a, A = some a → base ≤ a.block ∧ ∃ cur, w.heap[a.block]? = some (.cells cur e (0, 0))) ∨
   ∃ g off cap cur, v = .slice (some ⟨g, off * size, none⟩) n cap ∧ base ≤ g ∧ w.heap[g]? = some (.cells cur e (0, 0)) ∧ n ≤ cap ∧ off + cap ≤ maxLen ∧ cur.size = (off + cap) * size ∧ (cur.toList.drop (off * size)).take (n * size) = xs)
namespace Kd
def Q {α : Type} (d : Kd α) (e : Nat) (w : World) (base : Nat) (ok : Nat → Prop) (v : Value) (xs : List α) : Prop :=
  (∀ k, v.ownBlock = some k → ok k) ∧ ∃ inner, QRow w base e d.sz v xs.length inner ∧ Reps (d.M w base (fun k => ok k ∧ some k ≠ v.ownBlock)) d.sz xs inner
end Kd
section
variable {P : Program} {ops : Array Oper} {o : Oper} {a : Act} {Q : Exit → Act → World → Prop} {Kc : Act → World → Prop}
namespace Kd
variable {α : Type}
end Kd
end
namespace Kd
end Kd
end Go.Proofs.YtenpjpldjmoefaaGreatW.PrintWords
namespace Go.Proofs.YtenpjpldjmoefaaGreatW.PrintLast
open Go.Proofs.YtenpjpldjmoefaaGreatW.PrintWords (Aside0)
def needsOf (md : Region.Mode) (o : Oper) : List Nat := (o.after.toList.filter (fun e => Region.binds md e)).map (fun e => e.on)
def clashOf (md : Region.Mode) (ops : Array Oper) (i : Nat) (oi : Oper) : List Nat := (List.range ops.size).filter fun j => !(j == i) && match ops[j]? with
 | some oj => !(oj.after.any (fun e => Region.binds md e && e.on == i) || oi.apart ops oj)
 | none => false
def rtab (md : Region.Mode) (ops : Array Oper) : Bool × List (List Nat × List Nat) := (Region.noSelect ops, (List.range ops.size).map fun i => match ops[i]? with
 | some o => (needsOf md o, clashOf md ops i o)
 | none => ([], []))
def readyAt (T : List (List Nat × List Nat)) (l : List Bool) (i : Nat) : Bool := !l.getD i true && match T[i]? with
 | some r => r.1.all (fun j => l.getD j false)
 | none => false
def readyT (T : List (List Nat × List Nat)) (l : List Bool) : List Nat := (List.range T.length).filter (readyAt T l)
section
variable {md : Region.Mode} {ops : Array Oper} {T : Bool × List (List Nat × List Nat)} {l l' li lj lk : Array Bool} {ds : List Nat} {i j k : Nat}
theorem gd (l : Array Bool) (j : Nat) (b : Bool) : l.getD j b = l.toList.getD j b := by simp [Array.getD_eq_getD_getElem?, List.getD_eq_getElem?_getD]
theorem needs_all (o : Oper) (p : Nat → Bool) : o.after.all (fun e => !Region.binds md e || p e.on) = (needsOf md o).all p := by
 unfold needsOf
 rw [← Array.all_toList]
 induction o.after.toList with
 | nil => rfl
 | cons e r ih =>
  rw [List.all_cons, ih, List.filter_cons]
  cases h : Region.binds md e <;> simp
theorem rtab_length : (rtab md ops).2.length = ops.size := by simp [rtab]
theorem rtab_some {o : Oper} (h : ops[i]? = some o) : (rtab md ops).2[i]? = some (needsOf md o, clashOf md ops i o) := by
 have hi := (Array.getElem?_eq_some_iff.1 h).1
 unfold rtab
 rw [List.getElem?_map, List.getElem?_range hi, Option.map_some, h]
theorem rtab_none (h : ops[i]? = none) : (rtab md ops).2[i]? = none := by
 have hi : ops.size ≤ i := Array.getElem?_eq_none_iff.1 h
 exact List.getElem?_eq_none (by rw [rtab_length]; exact hi)
theorem readyAt_eq : readyAt (rtab md ops).2 l.toList i = (!l.getD i true && ((ops[i]?).map (·.after.all fun e => !Region.binds md e || l.getD e.on false)).getD false) := by
 unfold readyAt
 rw [gd]
 cases h : ops[i]? with
 | none => rw [rtab_none h]; rfl
 | some o =>
  rw [rtab_some h]
  simp only [Option.map_some, Option.getD_some]
  rw [← needs_all]
  simp only [gd]
theorem ready_eq : Region.ready md ops l = readyT (rtab md ops).2 l.toList := by
 unfold Region.ready readyT
 rw [rtab_length]
 refine List.filter_congr (fun i _ => ?_)
 rw [readyAt_eq]
def upM (B : List Nat) (d : Nat) : List Nat → Nat
 | [] => 0
 | n :: r => (2 ^ n ||| (if n < d then B.getD n 0 else 0)) ||| upM B d r
def waitsOk (T : List (List Nat × List Nat)) (B : List Nat) : Bool := (List.range T.length).all fun d => match T[d]? with
 | some r => (B.getD d 0 ||| upM B d r.1) == upM B d r.1
 | none => false
theorem upM_bit {B : List Nat} {d i : Nat} : ∀ {ns : List Nat}, (upM B d ns).testBit i = true → ∃ n ∈ ns, n = i ∨ (n < d ∧ (B.getD n 0).testBit i = true)
 | [], h => by simp [upM] at h
 | n :: r, h => by
  unfold upM at h
  rw [Nat.testBit_or, Nat.testBit_or, Bool.or_eq_true, Bool.or_eq_true] at h
  rcases h with (h | h) | h
  ·rw [Nat.testBit_two_pow] at h
   exact ⟨n, List.mem_cons_self, .inl (by simpa using h)⟩
  ·by_cases hn : n < d
   ·rw [if_pos hn] at h
    exact ⟨n, List.mem_cons_self, .inr ⟨hn, h⟩⟩
   ·rw [if_neg hn] at h
    simp at h
  ·obtain ⟨m, hm, h2⟩ := upM_bit h
   exact ⟨m, List.mem_cons_of_mem _ hm, h2⟩
end
def up (b : Nat → Bool) (i : Nat) : Nat → Bool := fun j => if j = i then true else b j
theorem up_self (b : Nat → Bool) (i : Nat) : up b i i = true := by simp [up]
theorem up_ne {b : Nat → Bool} {i j : Nat} (h : j ≠ i) : up b i j = b j := by simp [up, h]
def lof (n : Nat) (O : List Nat) (b : Nat → Bool) : List Bool := (List.range n).map fun j => if O.contains j then b j else true
section
variable {P : Program} {ops : Array Oper} {Q : Exit → Act → World → Prop} {md : Region.Mode} {T : Bool × List (List Nat × List Nat)} {B : List Nat} {O : List Nat} {b : Nat → Bool} {i j n : Nat}
theorem lof_length : (lof n O b).length = n := by simp [lof]
theorem lof_get {d : Bool} (hj : j < n) : (lof n O b).getD j d = if O.contains j then b j else true := by
 simp [lof, List.getD_eq_getElem?_getD, hj]
theorem lof_up (hi : O.contains i = true) : (lof n O b).set i true = lof n O (up b i) := by
 apply List.ext_getElem?
 intro j
 by_cases hj : j < n
 ·by_cases hij : i = j
  ·subst hij
   have hl : i < (lof n O b).length := by rw [lof_length]; exact hj
   rw [List.getElem?_set_self hl]
   simp only [lof, List.getElem?_map, List.getElem?_range hj, Option.map_some, hi, if_true, up_self]
  ·rw [List.getElem?_set_ne hij]
   simp only [lof, List.getElem?_map, List.getElem?_range hj, Option.map_some]
   rw [up_ne (Ne.symm hij)]
 ·rw [List.getElem?_eq_none (by simp [lof]; omega), List.getElem?_eq_none (by simp [lof]; omega)]
def StepAt (P : Program) (ops : Array Oper) (Q : Exit → Act → World → Prop) (B : List Nat) (O : List Nat) (I : (Nat → Bool) → Act → World → Prop) (i : Nat) : Prop :=
 ∀ b a w, I b a w → b i = false → (∀ j, (O.contains j && (B.getD i 0).testBit j) = true → b j = true) → (∀ d, (O.contains d && (B.getD d 0).testBit i) = true → b d = false) →
  ∃ oi, ops[i]? = some oi ∧ ∀ K : Act → World → Prop, Shut (∀ a' w', I (up b i) a' w' → K a' w') → if Region.wanted oi (yielded ops a.tmps) = true then Oper.wp P oi a w K Q else K (a.put oi.dst undef) w
def baseOk (T : List (List Nat × List Nat)) (O : List Nat) : Bool :=
 (List.range T.length).all (fun d => match T[d]? with
  | some r => (O.contains d || r.1.all fun n => !O.contains n) && r.1.all fun n => decide (n < d)
  | none => false) && O.all (fun i => decide (i < T.length)) && decide O.Nodup
theorem baseOk_row {T : List (List Nat × List Nat)} (h : baseOk T O = true) {d : Nat} {r : List Nat × List Nat} (hr : T[d]? = some r) : (O.contains d = false → ∀ n ∈ r.1, O.contains n = false) ∧ ∀ n ∈ r.1, n < d := by
 simp only [baseOk, Bool.and_eq_true] at h
 have h1 := List.all_eq_true.1 h.1.1 d (List.mem_range.2 (List.getElem?_eq_some_iff.1 hr).1)
 rw [hr] at h1
 simp only [Bool.and_eq_true, Bool.or_eq_true, List.all_eq_true, decide_eq_true_eq] at h1
 refine ⟨fun hd n hn => ?_, h1.2⟩
 rcases h1.1 with h2 | h2
 ·rw [hd] at h2; cases h2
 ·simpa using h2 n hn
theorem baseOk_lt {T : List (List Nat × List Nat)} (h : baseOk T O = true) {i : Nat} (hi : i ∈ O) : i < T.length := by
 simp only [baseOk, Bool.and_eq_true] at h
 simpa using List.all_eq_true.1 h.1.2 i hi
theorem baseOk_nodup {T : List (List Nat × List Nat)} (h : baseOk T O = true) : O.Nodup := by
 simp only [baseOk, Bool.and_eq_true] at h
 exact of_decide_eq_true h.2
def Closed (T : List (List Nat × List Nat)) (O : List Nat) (b : Nat → Bool) : Prop := ∀ d r, T[d]? = some r → O.contains d = true → b d = true → ∀ n ∈ r.1, O.contains n = true → b n = true
theorem bits_out {T : List (List Nat × List Nat)} (hw : waitsOk T B = true) (hk : baseOk T O = true) : ∀ (m d : Nat), d ≤ m → d < T.length → O.contains d = false → ∀ j, (B.getD d 0).testBit j = true → O.contains j = false := by
 intro m
 induction m with
 | zero =>
  intro d hd hl hO j hj
  have hd0 : d = 0 := by omega
  subst hd0
  have hr : T[0]? = some T[0] := List.getElem?_eq_getElem hl
  have h1 := List.all_eq_true.1 hw 0 (List.mem_range.2 hl)
  rw [hr] at h1
  simp only [beq_iff_eq] at h1
  have h2 : (upM B 0 T[0].1).testBit j = true := by rw [← h1, Nat.testBit_or, hj, Bool.true_or]
  obtain ⟨n, hn, h3⟩ := upM_bit h2
  have := (baseOk_row hk hr).2 n hn
  omega
 | succ m ih =>
  intro d hd hl hO j hj
  have hr : T[d]? = some T[d] := List.getElem?_eq_getElem hl
  have h1 := List.all_eq_true.1 hw d (List.mem_range.2 hl)
  rw [hr] at h1
  simp only [beq_iff_eq] at h1
  have h2 : (upM B d T[d].1).testBit j = true := by rw [← h1, Nat.testBit_or, hj, Bool.true_or]
  obtain ⟨n, hn, h3⟩ := upM_bit h2
  have hO2 := (baseOk_row hk hr).1 hO n hn
  rcases h3 with rfl | ⟨h4, h5⟩
  ·exact hO2
  ·exact ih n (by omega) (by omega) hO2 j h5
theorem closed_bits {T : List (List Nat × List Nat)} (hw : waitsOk T B = true) (hk : baseOk T O = true) (hc : Closed T O b) : ∀ (m d : Nat), d ≤ m → d < T.length → O.contains d = true → b d = true → ∀ j, O.contains j = true → (B.getD d 0).testBit j = true → b j = true := by
 intro m
 induction m with
 | zero =>
  intro d hd hl hO hb j hjO hj
  have hd0 : d = 0 := by omega
  subst hd0
  have hr : T[0]? = some T[0] := List.getElem?_eq_getElem hl
  have h1 := List.all_eq_true.1 hw 0 (List.mem_range.2 hl)
  rw [hr] at h1
  simp only [beq_iff_eq] at h1
  have h2 : (upM B 0 T[0].1).testBit j = true := by rw [← h1, Nat.testBit_or, hj, Bool.true_or]
  obtain ⟨n, hn, h3⟩ := upM_bit h2
  have := (baseOk_row hk hr).2 n hn
  omega
 | succ m ih =>
  intro d hd hl hO hb j hjO hj
  have hr : T[d]? = some T[d] := List.getElem?_eq_getElem hl
  have h1 := List.all_eq_true.1 hw d (List.mem_range.2 hl)
  rw [hr] at h1
  simp only [beq_iff_eq] at h1
  have h2 : (upM B d T[d].1).testBit j = true := by rw [← h1, Nat.testBit_or, hj, Bool.true_or]
  obtain ⟨n, hn, h3⟩ := upM_bit h2
  rcases h3 with rfl | ⟨h4, h5⟩
  ·exact hc d _ hr hO hb n hn hjO
  ·cases hO2 : O.contains n with
   | true => exact ih n (by omega) (by omega) hO2 (hc d _ hr hO hb n hn hO2) j hjO h5
   | false =>
    have := bits_out hw hk n n (Nat.le_refl _) (by omega) hO2 j h5
    rw [hjO] at this
    cases this
theorem up_count : ∀ {O : List Nat}, O.Nodup → i ∈ O → b i = false → (O.filter fun j => !up b i j).length + 1 = (O.filter fun j => !b j).length
 | [], _, hi, _ => by cases hi
 | x :: r, hn, hi, hb => by
  rw [List.nodup_cons] at hn
  rcases List.mem_cons.1 hi with rfl | hi
  ·have h1 : (r.filter fun j => !up b i j) = r.filter fun j => !b j := by
    refine List.filter_congr (fun j hj => ?_)
    rw [up_ne (fun e => hn.1 (by rw [← e]; exact hj))]
   rw [List.filter_cons, List.filter_cons]
   simp [up_self, hb, h1]
  ·have hxi : x ≠ i := fun e => hn.1 (e ▸ hi)
   have h1 := up_count hn.2 hi hb
   rw [List.filter_cons, List.filter_cons, up_ne hxi]
   cases hbx : b x
   ·simp only [Bool.not_false, if_true, List.length_cons]
    omega
   ·simpa using h1
theorem inv_all (hT : rtab md ops = T) (hw : waitsOk T.2 B = true) (hk : baseOk T.2 O = true) (I : (Nat → Bool) → Act → World → Prop) (hs : ∀ i ∈ O, StepAt P ops Q B O I i)
  (hend : ∀ b a w, (∀ j, O.contains j = true → b j = true) → I b a w → Q .normal a w) :
  ∀ (m : Nat) (b : Nat → Bool) (a : Act) (w : World), (O.filter fun j => !b j).length = m → Closed T.2 O b → I b a w → wpAnyLast P md ops Q (fun _ => True) [] m (lof T.2.length O b).toArray a w := by
 subst hT
 have mem_ready' : ∀ {b : Nat → Bool} {i : Nat}, i ∈ Region.ready md ops (lof (rtab md ops).2.length O b).toArray → i < (rtab md ops).2.length ∧ O.contains i = true ∧ b i = false ∧ ∀ r, (rtab md ops).2[i]? = some r → ∀ n ∈ r.1, n < (rtab md ops).2.length → O.contains n = true → b n = true := by
  intro b i hi
  rw [ready_eq] at hi
  unfold readyT at hi
  rw [List.mem_filter, List.mem_range] at hi
  obtain ⟨hl, h1⟩ := hi
  unfold readyAt at h1
  rw [Bool.and_eq_true, lof_get hl] at h1
  obtain ⟨h2, h3⟩ := h1
  have h4 : O.contains i = true := by
   cases h : O.contains i with
   | true => rfl
   | false => rw [h] at h2; simp at h2
  rw [h4] at h2
  refine ⟨hl, h4, by simpa using h2, fun r hr n hn hnl hO => ?_⟩
  rw [hr] at h3
  simp only [List.all_eq_true] at h3
  have h5 := h3 n hn
  rw [lof_get hnl, hO] at h5
  simpa using h5
 intro m
 induction m with
 | zero =>
  intro b a w hm hc hI
  have hall : ∀ j, O.contains j = true → b j = true := by
   intro j hj
   cases hb : b j with
   | true => rfl
   | false =>
    have : j ∈ O.filter fun j => !b j := List.mem_filter.2 ⟨List.contains_iff_mem.1 hj, by simp [hb]⟩
    rw [List.eq_nil_of_length_eq_zero hm] at this
    cases this
  refine ⟨?_, hend b a w hall hI⟩
  refine List.eq_nil_iff_forall_not_mem.2 (fun i hi => ?_)
  obtain ⟨_, h1, h2, _⟩ := mem_ready' hi
  rw [hall i h1] at h2
  cases h2
 | succ m ih =>
  intro b a w hm hc hI
  refine ⟨fun hr => ?_, fun i hi => ?_⟩
  ·exfalso
   -- the smallest number that isn't listed is ready
   have hex : ∃ i, O.contains i = true ∧ b i = false := by
    cases hf : O.filter (fun j => !b j) with
    | nil => rw [hf] at hm; simp at hm
    | cons x r =>
     have hx : x ∈ O.filter (fun j => !b j) := by rw [hf]; exact List.mem_cons_self
     rw [List.mem_filter] at hx
     exact ⟨x, List.contains_iff_mem.2 hx.1, by simpa using hx.2⟩
   have hmin : ∀ k, (∃ i, i ≤ k ∧ O.contains i = true ∧ b i = false) → ∃ i, O.contains i = true ∧ b i = false ∧ ∀ j, j < i → O.contains j = true → b j = true := by
    intro k
    induction k with
    | zero =>
     rintro ⟨i, hi, h1, h2⟩
     exact ⟨i, h1, h2, fun j hj => by omega⟩
    | succ k ihk =>
     rintro ⟨i, hi, h1, h2⟩
     by_cases hlow : ∃ j, j ≤ k ∧ O.contains j = true ∧ b j = false
     ·exact ihk hlow
     ·refine ⟨i, h1, h2, fun j hj hO => ?_⟩
      cases hb : b j with
      | true => rfl
      | false => exact absurd ⟨j, by omega, hO, hb⟩ hlow
   obtain ⟨i0, h1, h2⟩ := hex
   obtain ⟨i, hO, hb, hlow⟩ := hmin i0 ⟨i0, Nat.le_refl _, h1, h2⟩
   have hl := baseOk_lt hk (List.contains_iff_mem.1 hO)
   have hin : i ∈ Region.ready md ops (lof (rtab md ops).2.length O b).toArray := by
    rw [ready_eq]
    unfold readyT
    rw [List.mem_filter, List.mem_range]
    refine ⟨hl, ?_⟩
    unfold readyAt
    rw [lof_get hl, hO, hb]
    have hr2 : (rtab md ops).2[i]? = some (rtab md ops).2[i] := List.getElem?_eq_getElem hl
    rw [hr2]
    simp only [if_true, Bool.not_false, Bool.true_and, List.all_eq_true]
    intro n hn
    have hni := (baseOk_row hk hr2).2 n hn
    rw [lof_get (by omega)]
    cases hOn : O.contains n with
    | true => simpa using hlow n hni hOn
    | false => simp
   rw [hr] at hin
   cases hin
  ·obtain ⟨hl, hO, hb, hneed⟩ := mem_ready' hi
   have hon : ∀ j, (O.contains j && (B.getD i 0).testBit j) = true → b j = true := by
    intro j hj
    rw [Bool.and_eq_true] at hj
    have hr2 : (rtab md ops).2[i]? = some (rtab md ops).2[i] := List.getElem?_eq_getElem hl
    have h1 := List.all_eq_true.1 hw i (List.mem_range.2 hl)
    rw [hr2] at h1
    simp only [beq_iff_eq] at h1
    have h2 : (upM B i (rtab md ops).2[i].1).testBit j = true := by rw [← h1, Nat.testBit_or, hj.2, Bool.true_or]
    obtain ⟨n, hn, h3⟩ := upM_bit h2
    have hni := (baseOk_row hk hr2).2 n hn
    rcases h3 with rfl | ⟨h4, h5⟩
    ·exact hneed _ hr2 n hn (by omega) hj.1
    ·cases hO2 : O.contains n with
     | true => exact closed_bits hw hk hc n n (Nat.le_refl _) (by omega) hO2 (hneed _ hr2 n hn (by omega) hO2) j hj.1 h5
     | false =>
      have := bits_out hw hk n n (Nat.le_refl _) (by omega) hO2 j h5
      rw [hj.1] at this
      cases this
   have hoff : ∀ d, (O.contains d && (B.getD d 0).testBit i) = true → b d = false := by
    intro d hd
    rw [Bool.and_eq_true] at hd
    cases hbd : b d with
    | false => rfl
    | true =>
     have hdl := baseOk_lt hk (List.contains_iff_mem.1 hd.1)
     have := closed_bits hw hk hc d d (Nat.le_refl _) hdl hd.1 hbd i hO hd.2
     rw [hb] at this
     cases this
   obtain ⟨oi, hoi, hK⟩ := hs i (List.contains_iff_mem.1 hO) b a w hI hb hon hoff
   refine wpOp_step hoi (fun K' hK' => hK K' (fun a' w' hI' => hK' a' w' ⟨fun _ _ => trivial, ?_⟩))
   have hset : (lof (rtab md ops).2.length O b).toArray.setIfInBounds i true = (lof (rtab md ops).2.length O (up b i)).toArray := by
    apply Array.ext'
    rw [Array.toList_setIfInBounds]
    exact lof_up hO
   rw [hset]
   refine ih (up b i) a' w' ?_ ?_ hI'
   ·have := up_count (baseOk_nodup hk) (List.contains_iff_mem.1 hO) hb
    omega
   ·intro d r hr hOd hbd n hn hOn
    by_cases hni : n = i
    ·rw [hni, up_self]
    ·rw [up_ne hni]
     by_cases hdi : d = i
     ·subst hdi
      exact hneed r hr n hn (by have := (baseOk_row hk hr).2 n hn; omega) hOn
     ·rw [up_ne hdi] at hbd
      exact hc d r hr hOd hbd n hn hOn
theorem inv_ {l : Array Bool} {fuel : Nat} {a : Act} {w : World} (O : List Nat) (I : (Nat → Bool) → Act → World → Prop) (hT : rtab md ops = T) (hw : waitsOk T.2 B = true) (hk : baseOk T.2 O = true)
  (hl : (lof T.2.length O (fun _ => false) == l.toList && O.length == fuel) = true) (h0 : I (fun _ => false) a w) (hs : ∀ i ∈ O, StepAt P ops Q B O I i)
  (hend : ∀ b a w, (∀ j, O.contains j = true → b j = true) → I b a w → Q .normal a w) : wpAnyLast P md ops Q (fun _ => True) [] fuel l a w := by
 rw [Bool.and_eq_true, beq_iff_eq, beq_iff_eq] at hl
 have h1 := inv_all hT hw hk I hs hend fuel (fun _ => false) a w (by rw [← hl.2]; simp) (fun d r _ _ hb => by cases hb) h0
 have h2 : (lof T.2.length O (fun _ => false)).toArray = l := by apply Array.ext'; exact hl.1
 rw [h2] at h1
 exact h1
end
end Go.Proofs.YtenpjpldjmoefaaGreatW.PrintLast
namespace Go.Proofs.YtenpjpldjmoefaaGreat
open Go.RowKit Go.Proofs.YtenpjpldjmoefaaGreatW.PrintWords Go.Proofs.YtenpjpldjmoefaaGreatW.PrintLast
def StepQ (A : Act) (d : Option Tmp) (v : Value) (S : World → Prop) : Exit → Act → World → Prop
 | .normal, a', w' => a' = A.put d v ∧ S w'
 | _, _, _ => False
def StepGood (P : Program) (ops : Array Oper) (S : World → Prop) (o : Oper) (A : Act) (v : Value) : Prop :=
 (Region.wanted o (yielded ops A.tmps) = true ∧ ∀ w, S w → wpList P #[] (StepQ A o.dst v S) [{ o with guard := none }] A w) ∨
 (Region.wanted o (yielded ops A.tmps) = false ∧ v = undef)
def Chain (P : Program) (ops : Array Oper) (S : World → Prop) (R : Act → Prop) : List Oper → Act → Prop
 | [], A => R A
 | o :: rest, A => ∃ v, StepGood P ops S o A v ∧ Chain P ops S R rest (A.put o.dst v)
def fsel (b : Nat → Bool) : Nat → List (Option Tmp × Value) → Act → Act
 | _, [], a => a
 | k, e :: r, a => fsel b (k + 1) r (if b k then a.put e.1 e.2 else a)
section
variable {P : Program} {ops : Array Oper} {S : World → Prop}
theorem put_size (a : Act) (d : Option Tmp) (v : Value) : (a.put d v).tmps.size = a.tmps.size := by cases d <;> simp [Act.put]
theorem fsel_size (b : Nat → Bool) : ∀ (E : List (Option Tmp × Value)) (k : Nat) (a : Act), (fsel b k E a).tmps.size = a.tmps.size
 | [], _, _ => rfl
 | e :: r, k, a => by
  rw [fsel, fsel_size b r]
  split
  ·exact put_size ..
  ·rfl
theorem put_get (a : Act) (d : Option Tmp) (v : Value) (t : Tmp) : (a.put d v).tmps[t]? = if d = some t then (if t < a.tmps.size then some v else none) else a.tmps[t]? := by
 cases d with
 | none => simp [Act.put]
 | some x =>
  by_cases h : x = t
  ·subst h
   simp [Act.put, Array.getElem?_setIfInBounds]
  ·simp [Act.put, h, Array.getElem?_setIfInBounds_ne h]
theorem fsel_slot {b b' : Nat → Bool} {t : Tmp} : ∀ (E : List (Option Tmp × Value)) (k : Nat) (a a' : Act), a.tmps.size = a'.tmps.size → a.tmps[t]? = a'.tmps[t]? →
  (∀ j e, E[j]? = some e → e.1 = some t → b (k + j) = b' (k + j)) → (fsel b k E a).tmps[t]? = (fsel b' k E a').tmps[t]?
 | [], _, _, _, _, h, _ => h
 | e :: r, k, a, a', hz, h, hb => by
  rw [fsel, fsel]
  refine fsel_slot r (k + 1) _ _ ?_ ?_ (fun j e' he' ht => by have := hb (j + 1) e' (by simpa using he') ht; rwa [show k + (j + 1) = k + 1 + j by omega] at this)
  ·split <;> split <;> simp [put_size, hz]
  ·by_cases ht : e.1 = some t
   ·have h0 := hb 0 e rfl ht
    rw [Nat.add_zero] at h0
    rw [h0]
    split
    ·rw [put_get, put_get, if_pos ht, if_pos ht, hz]
    ·exact h
   ·have h1 : ∀ (c : Bool) (x : Act), (if c then x.put e.1 e.2 else x).tmps[t]? = x.tmps[t]? := by
     intro c x
     cases c
     ·rfl
     ·simp only [if_true]; rw [put_get, if_neg ht]
    rw [h1, h1]
    exact h
theorem fsel_congr {b b' : Nat → Bool} : ∀ (E : List (Option Tmp × Value)) (k : Nat) (a : Act), (∀ j, j < E.length → b (k + j) = b' (k + j)) → fsel b k E a = fsel b' k E a
 | [], _, _, _ => rfl
 | e :: r, k, a, h => by
  rw [fsel, fsel]
  have h0 := h 0 (by simp)
  rw [Nat.add_zero] at h0
  rw [h0]
  exact fsel_congr r (k + 1) _ (fun j hj => by have := h (j + 1) (by simpa using hj); rwa [show k + (j + 1) = k + 1 + j by omega] at this)
theorem fsel_put {b : Nat → Bool} {d : Option Tmp} {v : Value} : ∀ (E : List (Option Tmp × Value)) (k : Nat) (a : Act), (∀ j e t, E[j]? = some e → b (k + j) = true → d = some t → e.1 ≠ some t) →
  (fsel b k E a).put d v = fsel b k E (a.put d v)
 | [], _, _, _ => rfl
 | e :: r, k, a, h => by
  rw [fsel, fsel, fsel_put r (k + 1) _ (fun j e' t he' hb => h (j + 1) e' t (by simpa using he') (by rwa [show k + (j + 1) = k + 1 + j by omega]))]
  by_cases hb : b k = true
  ·rw [if_pos hb, if_pos hb, Act.put_comm a e.2 v (fun t ht => fun hd => h 0 e t rfl (by simpa using hb) hd ht)]
  ·rw [if_neg hb, if_neg hb]
theorem fsel_up {b : Nat → Bool} {i : Nat} {d : Option Tmp} {v : Value} : ∀ (E : List (Option Tmp × Value)) (k m : Nat) (a : Act), i = k + m → E[m]? = some (d, v) → b i = false →
  (∀ j e t, m < j → E[j]? = some e → b (k + j) = true → d = some t → e.1 ≠ some t) → (fsel b k E a).put d v = fsel (up b i) k E a
 | [], _, _, _, _, h, _, _ => by cases h
 | e :: r, k, 0, a, hi, he, hb, h => by
  simp only [List.getElem?_cons_zero, Option.some.injEq] at he
  subst he
  have hik : i = k := hi
  subst hik
  rw [fsel, fsel, hb, up_self]
  simp only [Bool.false_eq_true, if_false, if_true]
  rw [fsel_put r (i + 1) a (fun j e' t he' hb' => h (j + 1) e' t (by omega) (by simpa using he') (by rwa [show i + (j + 1) = i + 1 + j by omega]))]
  exact fsel_congr r (i + 1) _ (fun j _ => (up_ne (by omega)).symm)
 | e :: r, k, m + 1, a, hi, he, hb, h => by
  rw [fsel, fsel, up_ne (show k ≠ i by omega)]
  exact fsel_up r (k + 1) m _ (by omega) (by simpa using he) hb (fun j e' t hj he' hb' => h (j + 1) e' t (by omega) (by simpa using he') (by rwa [show k + (j + 1) = k + 1 + j by omega]))
theorem fsel_none : ∀ (E : List (Option Tmp × Value)) (k : Nat) (a : Act), fsel (fun _ => false) k E a = a
 | [], _, _ => rfl
 | e :: r, k, a => by rw [fsel]; simpa using fsel_none r (k + 1) a
def fpre (E : List (Option Tmp × Value)) (i : Nat) (a : Act) : Act := fsel (fun j => decide (j < i)) 0 E a
theorem fsel_all : ∀ (E : List (Option Tmp × Value)) (k i : Nat) (a : Act), fsel (fun j => decide (j < k + i)) k E a = (E.take i).foldl (fun a e => a.put e.1 e.2) a
 | [], _, _, _ => by simp [fsel]
 | e :: r, k, 0, a => by
  rw [fsel]
  simp only [Nat.add_zero, Nat.lt_irrefl, decide_false, Bool.false_eq_true, if_false, List.take_zero, List.foldl_nil]
  have h := fsel_congr (b := fun j => decide (j < k)) (b' := fun _ => false) r (k + 1) a (fun j _ => by simp; omega)
  rw [h, fsel_none]
 | e :: r, k, i + 1, a => by
  rw [fsel]
  simp only [show k < k + (i + 1) by omega, decide_true, if_true, List.take_succ_cons, List.foldl_cons]
  rw [← fsel_all r (k + 1) i]
  exact fsel_congr r (k + 1) _ (fun j _ => by rw [show k + (i + 1) = k + 1 + i by omega])
theorem fpre_eq (E : List (Option Tmp × Value)) (i : Nat) (a : Act) : fpre E i a = (E.take i).foldl (fun a e => a.put e.1 e.2) a := by
 have := fsel_all E 0 i a
 simpa [fpre] using this
theorem chain_vals {R : Act → Prop} : ∀ (l : List Oper) (A : Act), Chain P ops S R l A → ∃ vs : List Value, vs.length = l.length ∧
  (∀ i o v, l[i]? = some o → vs[i]? = some v → StepGood P ops S o (((l.map Oper.dst).zip vs).take i |>.foldl (fun a e => a.put e.1 e.2) A) v) ∧ R (((l.map Oper.dst).zip vs).foldl (fun a e => a.put e.1 e.2) A)
 | [], A, h => ⟨[], rfl, fun i o v hi => by simp at hi, h⟩
 | o :: rest, A, ⟨v, hg, hr⟩ => by
  obtain ⟨vs, hl, hs, hR⟩ := chain_vals rest _ hr
  refine ⟨v :: vs, by simp [hl], fun i o' v' hi hv => ?_, by simpa using hR⟩
  cases i with
  | zero =>
   simp only [List.getElem?_cons_zero, Option.some.injEq] at hi hv
   subst hi
   subst hv
   simpa using hg
  | succ i =>
   simp only [List.getElem?_cons_succ] at hi hv
   simpa using hs i o' v' hi hv
def detOk (ops : Array Oper) (B : List Nat) : Bool :=
 (List.range ops.size).all fun i => (List.range ops.size).all fun j =>
  match ops[i]?, ops[j]? with
  | some oi, some oj => decide (i ≤ j) || oi.apart ops oj || (B.getD i 0).testBit j
  | _, _ => false
def drawnOk (ops : Array Oper) (B : List Nat) : Bool :=
 waitsOk (rtab .any ops).2 B && baseOk (rtab .any ops).2 (List.range ops.size) && detOk ops B && Region.noSelect ops
theorem apart_symm {x y : Oper} (h : x.apart ops y = true) : ∀ d, (x.dst = some d → d ∉ y.looksAt ops ∧ y.dst ≠ some d) ∧ (y.dst = some d → d ∉ x.looksAt ops ∧ x.dst ≠ some d) := by
 obtain ⟨h1, h2, h3⟩ := Oper.apart_spec h
 exact fun d => ⟨fun hd => ⟨h1 d hd, h2 d hd⟩, fun hd => ⟨h3 d hd, fun hx => h2 d hx hd⟩⟩
theorem step_at {o : Oper} {A a : Act} {v : Value} {w : World} {K : Act → World → Prop} {Q : Exit → Act → World → Prop} (hx : execOp a.eval o = execOp A.eval o) (hz : a.tmps.size = A.tmps.size)
  (h : wpList P #[] (StepQ A o.dst v S) [{ o with guard := none }] A w) (hK : ∀ w', S w' → K (a.put o.dst v) w') : Oper.wp P o a w K Q := by
 have hput : ∀ u, A.put o.dst u = A.put o.dst v → a.put o.dst u = a.put o.dst v := by
  intro u hu
  cases hd : o.dst with
  | none => rfl
  | some t =>
   rw [hd] at hu
   by_cases ht : t < A.tmps.size
   ·have h1 := put_get A (some t) u t
    have h2 := put_get A (some t) v t
    rw [hu, h2] at h1
    simp only [if_pos ht, if_true, Option.some.injEq] at h1
    rw [h1]
   ·have h3 : ∀ z, a.put (some t) z = a := fun z => by
     simp only [Act.put]
     have hle : a.tmps.size ≤ t := by rw [hz]; exact Nat.le_of_not_lt ht
     rw [Array.setIfInBounds_eq_of_size_le hle]
    rw [h3, h3]
 have hlet : ¬ LetsOut (StepQ A o.dst v S) := fun ⟨_, _, h⟩ => h
 simp only [wpList, Region.wanted, if_true] at h
 rcases h with h | ⟨_, h⟩
 case inr => exact absurd h hlet
 unfold Oper.wp at *
 have hx' : execOp A.eval { o with guard := none } = execOp a.eval o := hx.symm
 rw [hx'] at h
 generalize (execOp a.eval o).run P w = r at *
 cases r with
 | ok n w' =>
  cases n <;> simp only [Oper.upon] at h ⊢
  case value u => obtain ⟨h1, h2⟩ := h; rw [hput u h1]; exact hK _ h2
  case skip => obtain ⟨h1, h2⟩ := h; rw [hput _ h1]; exact hK _ h2
  case defer d =>
   obtain ⟨h1, _⟩ := h
   have h3 := congrArg Act.defers h1
   have h4 : ∀ (x : Act) (d' : Option Tmp) (u : Value), (x.put d' u).defers = x.defers := fun x d' u => by cases d' <;> rfl
   rw [h4, h4] at h3
   exact absurd h3 (by simp)
  case enter f args =>
   refine Calls.mono h fun e w'' he => ?_
   cases e with
   | returned u => obtain ⟨h1, h2⟩ := he; show K (a.put o.dst u) w''; rw [hput u h1]; exact hK _ h2
   | panicked c => exact he.elim
   | outgrown => exact absurd he hlet
  case row row args => exact Rows.mono h fun u w'' he => by obtain ⟨h1, h2⟩ := he; rw [hput u h1]; exact hK _ h2
 | halt x w' =>
  cases x <;> simp only [Oper.upon] at h ⊢
  exact h.elim
theorem drawn {id : Nat} {a : Act} {w : World} {Q : Exit → Act → World → Prop} (B : List Nat) (hm : P.follows .mixedOrders = true) (hok : drawnOk ops B = true) (hS : S w.drew)
  (h : Chain P ops S (fun A => ∀ w', S w' → Q .normal A w') ops.toList a) : (Code.region id ops true).wp P Q a w := by
 simp only [drawnOk, Bool.and_eq_true] at hok
 obtain ⟨⟨⟨hw, hk⟩, hdet⟩, hsel⟩ := hok
 obtain ⟨vs, hvl, hst, hR⟩ := chain_vals _ _ h
 have hE : ∀ (i : Nat) (o : Oper), ops[i]? = some o → ∃ v, vs[i]? = some v ∧ ((ops.toList.map Oper.dst).zip vs)[i]? = some (Oper.dst o, v) := by
  intro i o ho
  have hi : i < ops.size := (Array.getElem?_eq_some_iff.1 ho).1
  have hv : i < vs.length := by rw [hvl]; simpa using hi
  have hoi : ops[i] = o := (Array.getElem?_eq_some_iff.1 ho).2
  refine ⟨vs[i], List.getElem?_eq_getElem hv, ?_⟩
  rw [List.getElem?_zip_eq_some]
  exact ⟨by simp [ho], List.getElem?_eq_getElem hv⟩
 have hEd : ∀ (j : Nat) (e : Option Tmp × Value), ((ops.toList.map Oper.dst).zip vs)[j]? = some e → ∃ o : Oper, ops[j]? = some o ∧ e.1 = o.dst := by
  intro j e he
  have h1 := (List.getElem?_zip_eq_some.1 he).1
  rw [List.getElem?_map, Option.map_eq_some_iff] at h1
  obtain ⟨o, ho, hd⟩ := h1
  exact ⟨o, by simpa using ho, hd.symm⟩
 obtain ⟨E, hEE⟩ : ∃ E, E = (ops.toList.map Oper.dst).zip vs := ⟨_, rfl⟩
 rw [← hEE] at hE hEd hst hR
 have hEl : E.length = ops.size := by rw [hEE]; simp [hvl]
 have hdet' : ∀ i j oi oj, ops[i]? = some oi → ops[j]? = some oj → j < i → oi.apart ops oj = true ∨ (B.getD i 0).testBit j = true := by
  intro i j oi oj hi hj hlt
  have hi' : i < ops.size := (Array.getElem?_eq_some_iff.1 hi).1
  have hj' : j < ops.size := (Array.getElem?_eq_some_iff.1 hj).1
  have h1 := List.all_eq_true.1 (List.all_eq_true.1 hdet i (List.mem_range.2 hi')) j (List.mem_range.2 hj')
  rw [hi, hj] at h1
  simp only [Bool.or_eq_true, decide_eq_true_eq] at h1
  rcases h1 with (h1 | h1) | h1
  ·omega
  ·exact .inl h1
  ·exact .inr h1
 have hlen : (rtab Region.Mode.any ops).2.length = ops.size := by simp [rtab]
 refine start_ (n := ops.size) (S := fun _ => True) (ds := []) (Array.replicate ops.size false) hm rfl rfl trivial (fun _ => ?_)
 refine inv_ (T := rtab .any ops) (B := B) (List.range ops.size) (fun b a' w' => a' = fsel b 0 E a ∧ S w') rfl hw hk ?_ ⟨(fsel_none E 0 a).symm, hS⟩ ?_ ?_
 ·rw [hlen]
  simp only [List.length_range, beq_self_eq_true, Bool.and_true, beq_iff_eq]
  apply List.ext_getElem
  ·simp [lof]
  ·intro i h1 h2
   simp only [lof, List.getElem_map, List.getElem_range, Array.toList_replicate, List.getElem_replicate]
   rw [if_pos]
   simpa [lof] using h1
 ·intro i hi b a' w' hI hb hon hoff
  obtain ⟨rfl, hSw⟩ := hI
  have hi' : i < ops.size := List.mem_range.1 hi
  have ho : ops[i]? = some ops[i] := Array.getElem?_eq_getElem hi'
  obtain ⟨v, hv, hev⟩ := hE i _ ho
  have hgood := hst i ops[i] v (by simp [hi']) hv
  rw [← fpre_eq] at hgood
  have hmem : ∀ j, j < ops.size → (List.range ops.size).contains j = true := fun j hj => by simp [hj]
  -- what the operation sees
  have hsee : ∀ t, (t ∈ ops[i].looksAt ops) → (fsel b 0 E a).tmps[t]? = (fpre E i a).tmps[t]? := by
   intro t ht
   refine fsel_slot E 0 a a rfl rfl (fun j e he het => ?_)
   obtain ⟨oj, hj, hd⟩ := hEd j e he
   have hj' : j < ops.size := (Array.getElem?_eq_some_iff.1 hj).1
   rw [hd] at het
   simp only [Nat.zero_add]
   by_cases hlt : j < i
   ·rw [decide_eq_true hlt]
    rcases hdet' i j _ _ ho hj hlt with hap | hbit
    ·exact absurd ht ((apart_symm hap t).2 het).1
    ·exact hon j (by rw [hmem j hj', hbit]; rfl)
   ·rw [decide_eq_false hlt]
    by_cases hji : j = i
    ·rw [hji, hb]
    ·rcases hdet' j i _ _ hj ho (by omega) with hap | hbit
     ·exact absurd ht ((apart_symm hap t).1 het).1
     ·exact hoff j (by rw [hmem j hj', hbit]; rfl)
  have hev2 : execOp (fsel b 0 E a).eval ops[i] = execOp (fpre E i a).eval ops[i] := by
   refine execOp_congr _ (fun cs bb => Region.noSelect_spec hsel i _ cs bb ho) (fun x hx => ?_)
   cases x with
   | tmp t =>
    have h1 := hsee t (List.mem_append_left _ (List.mem_filterMap.2 ⟨.tmp t, by simpa using hx, rfl⟩))
    simp only [Act.eval, Array.getD_eq_getD_getElem?, h1]
   | const => rfl
   | global => rfl
   | func => rfl
  have hwant : Region.wanted ops[i] (yielded ops (fsel b 0 E a).tmps) = Region.wanted ops[i] (yielded ops (fpre E i a).tmps) := by
   unfold Region.wanted
   cases hg : ops[i].guard with
   | none => rfl
   | some gw =>
    obtain ⟨g, want⟩ := gw
    have hy : yielded ops (fsel b 0 E a).tmps g = yielded ops (fpre E i a).tmps g := by
     unfold yielded
     cases ht : (ops[g]?).bind Oper.dst with
     | none => rfl
     | some t =>
      have h1 := hsee t (List.mem_append_right _ (by rw [hg]; simp only [ht]; simp))
      simp only [Option.bind_some, h1]
    simp only [hy]
  have hput : (fsel b 0 E a).put ops[i].dst v = fsel (up b i) 0 E a := by
   refine fsel_up E 0 i a (by omega) hev hb (fun j e t hj he hbj hd => ?_)
   obtain ⟨oj, hjo, hde⟩ := hEd j e he
   have hj' : j < ops.size := (Array.getElem?_eq_some_iff.1 hjo).1
   rw [hde]
   rcases hdet' j i _ _ hjo ho hj with hap | hbit
   ·exact ((apart_symm hap t).2 hd).2
   ·have := hoff j (by rw [hmem j hj', hbit]; rfl)
    rw [Nat.zero_add, this] at hbj
    cases hbj
  refine ⟨ops[i], ho, fun K hK => ?_⟩
  rw [hwant]
  rcases hgood with ⟨hw1, hstep⟩ | ⟨hw1, rfl⟩
  ·rw [if_pos hw1]
   exact step_at hev2 (by rw [fsel_size, fpre, fsel_size]) (hstep w' hSw) (fun w2 hw2 => hK.out _ _ ⟨hput, hw2⟩)
  ·rw [if_neg (by rw [hw1]; decide)]
   exact hK.out _ _ ⟨hput, hSw⟩
 ·rintro b a' w' hall ⟨rfl, hSw⟩
  have : fsel b 0 E a = E.foldl (fun a e => a.put e.1 e.2) a := by
   have h1 := fpre_eq E E.length a
   rw [List.take_length] at h1
   rw [← h1, fpre]
   refine fsel_congr E 0 a (fun j hj => ?_)
   rw [Nat.zero_add, decide_eq_true hj]
   exact hall j (by simp; omega)
  rw [this]
  exact hR w' hSw
variable {ds : List (Option Tmp)}
end
end Go.Proofs.YtenpjpldjmoefaaGreat

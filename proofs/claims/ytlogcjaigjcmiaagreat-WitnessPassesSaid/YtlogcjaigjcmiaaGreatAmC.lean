/-
  THE ABSTRACT MACHINE: how its values and blocks stand for the memory of a world ('VRel', 'Rep'), and what a step keeps ('Stp').
-/
import Derived.Test.YtlogcjaigjcmiaaGreatAmB
import Derived.Laws.Cells
import Derived.Laws.Tables
import Derived.Below
set_option linter.unusedVariables false
set_option linter.unusedSimpArgs false
namespace Go.Proofs.YtlogcjaigjcmiaaGreat.AM
open Go

/-- Where a block lies: the block's number in the world, the place of its first cell there, how many cells the world's block has. -/
abbrev Emb := Nat → Option (Nat × Nat × Nat)

inductive VRel (S : Nat → Prop) (m : Emb) (w : World) : AV → Value → Prop
  | dead {v} : VRel S m w .dead v
  | bool {b} : VRel S m w (.bool b) (.bool b)
  | int {k n} : VRel S m w (.int k n) (.int k n)
  | str {l s} (h : s.data.toList = l) : VRel S m w (.str l) (.string s)
  | nilp : VRel S m w .nilp (.pointer none)
  | ptr {id off b d z} (h : m id = some (b, d, z)) : VRel S m w (.ptr id off) (.pointer (some ⟨b, d + off, none⟩))
  | rop {es st i off b d} (f : Nat → Nat → Value) (hS : S b) (hc : ∀ i j, i < es.length → j < st → w.cell? ⟨b, d + (i * st + j), none⟩ = some (f i j))
      (hl : ∀ i, i < es.length → (es.getD i .dead).cells.length = st) (hr : ∀ i j, i < es.length → j < st → VRel S m w ((es.getD i .dead).cells.getD j .dead) (f i j)) :
      VRel S m w (.rop es st i off) (.pointer (some ⟨b, d + (i * st + off), none⟩))
  | nils : VRel S m w .nils (.slice none 0 0)
  | sl {id st off len cap ex b d z rc} (h : m id = some (b, d, z)) (hx : ex = true → rc = cap) (hc : cap ≤ rc) (hl : len ≤ cap) (hz : d + (off + rc * st) ≤ z) :
      VRel S m w (.sl id st off len cap ex) (.slice (some ⟨b, d + off, none⟩) len rc)
  | sle {id st off ex a} (h : ex = true → a.isSome = true) : VRel S m w (.sl id st off 0 0 ex) (.slice a 0 0)
  | ro {es st ex b d rc} (f : Nat → Nat → Value) (hS : S b) (hc : ∀ i j, i < es.length → j < st → w.cell? ⟨b, d + (i * st + j), none⟩ = some (f i j))
      (hl : ∀ i, i < es.length → (es.getD i .dead).cells.length = st) (hr : ∀ i j, i < es.length → j < st → VRel S m w ((es.getD i .dead).cells.getD j .dead) (f i j))
      (hx : ex = true → rc = es.length) (hn : es.length ≤ rc) : VRel S m w (.ro es st ex) (.slice (some ⟨b, d, none⟩) es.length rc)
  | ro0 {st ex a rc} (hx : ex = true → rc = 0) : VRel S m w (.ro [] st ex) (.slice a 0 rc)
  | nilm : VRel S m w .nilm (.map none)
  | map {id b z} (h : m id = some (b, 0, z)) : VRel S m w (.map id) (.map (some b))
  | nilf : VRel S m w .nilf .nilFunc
  | fn {f first cap fs cs} (hf : first.length = Array.size fs) (hfr : ∀ i, i < first.length → VRel S m w (first.getD i .dead) (fs.getD i undef))
      (hc : cap.length = Array.size cs) (hcr : ∀ i, i < cap.length → VRel S m w (cap.getD i .dead) (cs.getD i undef)) : VRel S m w (.fn f first cap) (.func f fs cs)
  | agg {cs vs} (hl : cs.length = Array.size vs) (hr : ∀ i, i < cs.length → VRel S m w (cs.getD i .dead) (vs.getD i undef)) : VRel S m w (.agg cs) (.agg vs)
  | tup {cs vs} (hl : cs.length = Array.size vs) (hr : ∀ i, i < cs.length → VRel S m w (cs.getD i .dead) (vs.getD i undef)) : VRel S m w (.tup cs) (.tuple vs)

/-- What a row of values needs to stand for: the blocks that nobody writes are as they were; known places stay. -/
structure Kp (S : Nat → Prop) (m : Emb) (w : World) (S' : Nat → Prop) (m' : Emb) (w' : World) : Prop where
  ks : ∀ b, S b → S' b
  kh : ∀ b, S b → w'.heap[b]? = w.heap[b]?
  km : ∀ id x, m id = some x → m' id = some x
theorem Kp.refl (S m w) : Kp S m w S m w := ⟨fun _ h => h, fun _ _ => rfl, fun _ _ h => h⟩

theorem VRel.keep {S m w S' m' w'} (k : Kp S m w S' m' w') {v x} (h : VRel S m w v x) : VRel S' m' w' v x := by
  have cell : ∀ b, S b → ∀ o, w'.cell? ⟨b, o, none⟩ = w.cell? ⟨b, o, none⟩ := fun b hb o => World.cell?_of_block (w := w) (w' := w') (a := ⟨b, o, none⟩) (k.kh b hb)
  induction h with
  | dead => exact .dead
  | bool => exact .bool
  | int => exact .int
  | str h => exact .str h
  | nilp => exact .nilp
  | ptr h => exact .ptr (k.km _ _ h)
  | rop f hS hc hl hr ih => exact .rop f (k.ks _ hS) (fun i j hi hj => (cell _ hS _).trans (hc i j hi hj)) hl ih
  | nils => exact .nils
  | sl h hx hc hl hz => exact .sl (k.km _ _ h) hx hc hl hz
  | sle h => exact .sle h
  | ro f hS hc hl hr hx hn ih => exact .ro f (k.ks _ hS) (fun i j hi hj => (cell _ hS _).trans (hc i j hi hj)) hl ih hx hn
  | ro0 hx => exact .ro0 hx
  | nilm => exact .nilm
  | map h => exact .map (k.km _ _ h)
  | nilf => exact .nilf
  | fn hf hfr hc hcr ih1 ih2 => exact .fn hf ih1 hc ih2
  | agg hl hr ih => exact .agg hl ih
  | tup hl hr ih => exact .tup hl ih

/-- Rows of values. -/
def LRel (S : Nat → Prop) (m : Emb) (w : World) (cs : List AV) (vs : List Value) : Prop :=
  cs.length = vs.length ∧ ∀ i, i < cs.length → VRel S m w (cs.getD i .dead) (vs.getD i undef)
theorem LRel.keep {S m w S' m' w'} (k : Kp S m w S' m' w') {v x} (h : LRel S m w v x) : LRel S' m' w' v x := ⟨h.1, fun i hi => (h.2 i hi).keep k⟩
theorem LRel.nil {S m w} : LRel S m w [] [] := ⟨rfl, fun i hi => absurd hi (Nat.not_lt_zero _)⟩
theorem LRel.cons {S m w v x vs xs} (h : VRel S m w v x) (hs : LRel S m w vs xs) : LRel S m w (v :: vs) (x :: xs) :=
  ⟨by simp [hs.1], fun i hi => by cases i with
    | zero => exact h
    | succ i => exact hs.2 i (by simpa using hi)⟩
theorem LRel.head {S m w v vs xs} (h : LRel S m w (v :: vs) xs) : ∃ x r, xs = x :: r ∧ VRel S m w v x ∧ LRel S m w vs r := by
  cases xs with
  | nil => have := h.1; simp at this
  | cons x r => exact ⟨x, r, rfl, h.2 0 (by simp), by have := h.1; simpa using this, fun i hi => h.2 (i + 1) (by simpa using hi)⟩
theorem LRel.nil_r {S m w xs} (h : LRel S m w [] xs) : xs = [] := by have := h.1; simp at this; exact List.eq_nil_of_length_eq_zero this.symm
theorem LRel.append {S m w a b x y} (h : LRel S m w a x) (h' : LRel S m w b y) : LRel S m w (a ++ b) (x ++ y) := by
  refine ⟨by simp [h.1, h'.1], fun i hi => ?_⟩
  by_cases hlt : i < a.length
  · have h1 := h.2 i hlt
    simp only [List.getD_eq_getElem?_getD] at h1 ⊢
    rw [List.getElem?_append_left hlt, List.getElem?_append_left (by rw [← h.1]; exact hlt)]; exact h1
  · have h1 := h'.2 (i - a.length) (by simp at hi; omega)
    simp only [List.getD_eq_getElem?_getD] at h1 ⊢
    rw [List.getElem?_append_right (by omega), List.getElem?_append_right (by rw [← h.1]; omega), ← h.1]; exact h1
theorem LRel.take {S m w a x} (n : Nat) (h : LRel S m w a x) : LRel S m w (a.take n) (x.take n) := by
  refine ⟨by simp [h.1], fun i hi => ?_⟩
  simp only [List.length_take] at hi
  have h1 := h.2 i (by omega)
  simp only [List.getD_eq_getElem?_getD, List.getElem?_take] at h1 ⊢
  rw [if_pos (by omega), if_pos (by omega)]; exact h1
theorem LRel.drop {S m w a x} (n : Nat) (h : LRel S m w a x) : LRel S m w (a.drop n) (x.drop n) := by
  refine ⟨by simp [h.1], fun i hi => ?_⟩
  simp only [List.length_drop] at hi
  have h1 := h.2 (n + i) (by omega)
  simp only [List.getD_eq_getElem?_getD, List.getElem?_drop] at h1 ⊢
  exact h1
theorem LRel.replicate {S m w v x} (n : Nat) (h : VRel S m w v x) : LRel S m w (List.replicate n v) (List.replicate n x) := by
  refine ⟨by simp, fun i hi => ?_⟩
  simp only [List.length_replicate] at hi
  simpa [List.getD_eq_getElem?_getD, List.getElem?_replicate, hi] using h
theorem LRel.set {S m w a x v y} (i : Nat) (h : LRel S m w a x) (hv : VRel S m w v y) : LRel S m w (a.set i v) (x.set i y) := by
  refine ⟨by simp [h.1], fun j hj => ?_⟩
  simp only [List.length_set] at hj
  have h1 := h.2 j hj
  simp only [List.getD_eq_getElem?_getD, List.getElem?_set] at h1 ⊢
  by_cases e : i = j
  · subst e
    rw [if_pos rfl, if_pos rfl, if_pos hj, if_pos (by rw [← h.1]; exact hj)]
    exact hv
  · rw [if_neg e, if_neg e]; exact h1
theorem LRel.get {S m w} {a : List AV} {x : List Value} {i : Nat} {v : AV} (h : LRel S m w a x) (hv : a[i]? = some v) : ∃ y, x[i]? = some y ∧ VRel S m w v y := by
  have hi : i < a.length := (List.getElem?_eq_some_iff.1 hv).1
  have h1 := h.2 i hi
  have hx : i < x.length := by rw [← h.1]; exact hi
  simp only [List.getD_eq_getElem?_getD, hv, List.getElem?_eq_getElem hx, Option.getD_some] at h1
  exact ⟨x[i], List.getElem?_eq_getElem hx, h1⟩
theorem LRel.agg {S m w cs} {vs : Array Value} (h : LRel S m w cs vs.toList) : VRel S m w (.agg cs) (.agg vs) :=
  .agg (by simpa using h.1) (fun i hi => by have := h.2 i hi; simpa [List.getD_eq_getElem?_getD, Array.getD_eq_getD_getElem?] using this)
theorem LRel.tup {S m w cs} {vs : Array Value} (h : LRel S m w cs vs.toList) : VRel S m w (.tup cs) (.tuple vs) :=
  .tup (by simpa using h.1) (fun i hi => by have := h.2 i hi; simpa [List.getD_eq_getElem?_getD, Array.getD_eq_getD_getElem?] using this)
theorem LRel.fn {S m w f a b} {vs us : Array Value} (h : LRel S m w a vs.toList) (h' : LRel S m w b us.toList) : VRel S m w (.fn f a b) (.func f vs us) :=
  .fn (by simpa using h.1) (fun i hi => by have := h.2 i hi; simpa [List.getD_eq_getElem?_getD, Array.getD_eq_getD_getElem?] using this)
    (by simpa using h'.1) (fun i hi => by have := h'.2 i hi; simpa [List.getD_eq_getElem?_getD, Array.getD_eq_getD_getElem?] using this)
theorem VRel.agg_inv {S m w cs x} (h : VRel S m w (.agg cs) x) : ∃ vs : Array Value, x = .agg vs ∧ LRel S m w cs vs.toList := by
  cases h with
  | agg hl hr => exact ⟨_, rfl, by simpa using hl, fun i hi => by have := hr i hi; simpa [List.getD_eq_getElem?_getD, Array.getD_eq_getD_getElem?] using this⟩
theorem VRel.tup_inv {S m w cs x} (h : VRel S m w (.tup cs) x) : ∃ vs : Array Value, x = .tuple vs ∧ LRel S m w cs vs.toList := by
  cases h with
  | tup hl hr => exact ⟨_, rfl, by simpa using hl, fun i hi => by have := hr i hi; simpa [List.getD_eq_getElem?_getD, Array.getD_eq_getD_getElem?] using this⟩
theorem VRel.fn_inv {S m w f a b x} (h : VRel S m w (.fn f a b) x) : ∃ vs us : Array Value, x = .func f vs us ∧ LRel S m w a vs.toList ∧ LRel S m w b us.toList := by
  cases h with
  | fn hf hfr hc hcr => exact ⟨_, _, rfl, ⟨by simpa using hf, fun i hi => by have := hfr i hi; simpa [List.getD_eq_getElem?_getD, Array.getD_eq_getD_getElem?] using this⟩, by simpa using hc, fun i hi => by have := hcr i hi; simpa [List.getD_eq_getElem?_getD, Array.getD_eq_getD_getElem?] using this⟩

/-- A value's cells. -/
theorem VRel.cells {S m w v x} (h : VRel S m w v x) (hd : v ≠ .dead) : LRel S m w v.cells x.cells.toList := by
  cases v with
  | agg cs => obtain ⟨vs, rfl, hl⟩ := h.agg_inv; exact hl
  | dead => exact absurd rfl hd
  | _ => cases h <;> exact LRel.cons (by constructor <;> assumption) LRel.nil
theorem VRel.oneCell {S m w v x} (h : VRel S m w v x) (ho : v.one = true) : x.oneCell' = true := by
  cases h <;> first | rfl | (simp [AV.one] at ho; done)
theorem VRel.cells_one {S m w v x} (h : VRel S m w v x) (ho : v.one = true) : x.cells = #[x] := by
  cases h <;> first | rfl | (simp [AV.one] at ho; done)
theorem cells_one {v : AV} (ho : v.one = true) : v.cells = [v] := by cases v <;> first | rfl | (simp [AV.one] at ho; done)

/-! The blocks. -/
def live (h : List Blk) (id : Nat) : Prop := ∃ bl, h[id]? = some bl ∧ bl ≠ .gone
def owns (h : List Blk) (m : Emb) (id b : Nat) : Prop := (∃ d z, m id = some (b, d, z)) ∧ live h id

def BRel (S : Nat → Prop) (m : Emb) (w : World) (id : Nat) : Blk → Prop
  | .gone => True
  | .cells cs => ∃ b d t fz, ∃ c : Array Value, m id = some (b, d, c.size) ∧ w.heap[b]? = some (.cells c t fz) ∧ d + cs.length ≤ c.size ∧
      (∀ j, d ≤ j → j < c.size → ¬ (fz.1 ≤ j ∧ j < fz.2)) ∧ LRel S m w cs ((c.toList.drop d).take cs.length) ∧ ¬ S b
  | .map es => ∃ b ck, ∃ en : Array MapEntry, m id = some (b, 0, 0) ∧ w.heap[b]? = some (.map en ck) ∧ LRel S m w (es.map (·.1)) (en.toList.map (·.key)) ∧ LRel S m w (es.map (·.2)) (en.toList.map (·.val)) ∧ ¬ S b

structure Rep (S : Nat → Prop) (m : Emb) (h : List Blk) (w : World) : Prop where
  sb : ∀ b, S b → b < w.heap.size
  dom : ∀ id, h.length ≤ id → m id = none
  blk : ∀ id bl, h[id]? = some bl → BRel S m w id bl
  inj : ∀ i j b, owns h m i b → owns h m j b → i = j

/-- A step: what was known stays; of what lay in the world nothing has turned, but for what the blocks own. -/
structure Stp (S : Nat → Prop) (m : Emb) (h : List Blk) (w : World) (S' : Nat → Prop) (m' : Emb) (h' : List Blk) (w' : World) : Prop where
  ts : ∀ b, S b → S' b
  tm : ∀ id x, m id = some x → m' id = some x
  os : w'.os = w.os
  tape : w'.tape = w.tape
  output : w'.output = w.output
  size : w.heap.size ≤ w'.heap.size
  len : h.length ≤ h'.length
  fr : ∀ b, b < w.heap.size → (∀ id, ¬ owns h m id b) → w'.heap[b]? = w.heap[b]?
  own : ∀ id b, owns h' m' id b → b < w.heap.size → ∃ id', owns h m id' b
  sn : ∀ b, S' b → S b ∨ w.heap.size ≤ b

theorem owns_not_S {S m h w} (r : Rep S m h w) {id b} (ho : owns h m id b) : ¬ S b := by
  obtain ⟨⟨d, z, hm⟩, bl, hb, hne⟩ := ho
  have := r.blk id bl hb
  cases bl with
  | gone => exact absurd rfl hne
  | cells cs => obtain ⟨b', d', t, fz, c, h1, _, _, _, _, h6⟩ := this; rw [hm] at h1; cases h1; exact h6
  | map es => obtain ⟨b', ck, en, h1, _, _, _, h6⟩ := this; rw [hm] at h1; cases h1; exact h6
theorem owns_lt {S m h w} (r : Rep S m h w) {id b} (ho : owns h m id b) : b < w.heap.size := by
  obtain ⟨⟨d, z, hm⟩, bl, hb, hne⟩ := ho
  have := r.blk id bl hb
  have lt : ∀ o, w.heap[b]? = some o → b < w.heap.size := fun o h => (Array.getElem?_eq_some_iff.1 h).1
  cases bl with
  | gone => exact absurd rfl hne
  | cells cs => obtain ⟨b', d', t, fz, c, h1, h2, _⟩ := this; rw [hm] at h1; cases h1; exact lt _ h2
  | map es => obtain ⟨b', ck, en, h1, h2, _⟩ := this; rw [hm] at h1; cases h1; exact lt _ h2
theorem Stp.refl (S m h w) : Stp S m h w S m h w :=
  ⟨fun _ h => h, fun _ _ h => h, rfl, rfl, rfl, Nat.le_refl _, Nat.le_refl _, fun _ _ _ => rfl, fun id b h _ => ⟨id, h⟩, fun _ h => .inl h⟩
theorem Stp.kp {S m h w S' m' h' w'} (r : Rep S m h w) (t : Stp S m h w S' m' h' w') : Kp S m w S' m' w' :=
  ⟨t.ts, fun b hb => t.fr b (r.sb b hb) fun id ho => owns_not_S r ho hb, t.tm⟩
theorem Stp.trans {S m h w S' m' h' w' S'' m'' h'' w''} (t : Stp S m h w S' m' h' w') (u : Stp S' m' h' w' S'' m'' h'' w'') : Stp S m h w S'' m'' h'' w'' where
  ts b hb := u.ts b (t.ts b hb)
  tm id x hx := u.tm id x (t.tm id x hx)
  os := u.os.trans t.os
  tape := u.tape.trans t.tape
  output := u.output.trans t.output
  size := Nat.le_trans t.size u.size
  len := Nat.le_trans t.len u.len
  fr b hb hn := (u.fr b (Nat.lt_of_lt_of_le hb t.size) fun id ho => by obtain ⟨id', h'⟩ := t.own id b ho hb; exact hn id' h').trans (t.fr b hb hn)
  own id b ho hb := by
    obtain ⟨id', h'⟩ := u.own id b ho (Nat.lt_of_lt_of_le hb t.size)
    exact t.own id' b h' hb
  sn b hb := by
    rcases u.sn b hb with h | h
    · exact t.sn b h
    · exact .inr (Nat.le_trans t.size h)
/-- Where no block is owned, nothing that lay there turns. -/
theorem Stp.below {S m w S' m' h' w'} (t : Stp S m [] w S' m' h' w') : RowKit.Below w.heap.size w w' :=
  ⟨t.os, t.tape, t.output, t.size, fun b hb => t.fr b hb fun id ho => by obtain ⟨_, bl, hb, _⟩ := ho; simp at hb⟩

/-- Slots. -/
def TRel (S : Nat → Prop) (m : Emb) (w : World) (t : List AV) (tmps : Array Value) : Prop := LRel S m w t tmps.toList
theorem TRel.keep {S m w S' m' w'} (k : Kp S m w S' m' w') {v x} (h : TRel S m w v x) : TRel S' m' w' v x := LRel.keep k h
theorem TRel.put {S m w t v x} {a : Act} (h : TRel S m w t a.tmps) (d : Option Nat) (hv : VRel S m w v x) : TRel S m w (AM.put t d v) (a.put d x).tmps := by
  cases d with
  | none => exact h
  | some d => show LRel S m w (t.set d v) (a.tmps.setIfInBounds d x).toList; rw [Array.toList_setIfInBounds]; exact LRel.set d h hv
theorem TRel.get {S m w t} {tmps : Array Value} (h : TRel S m w t tmps) (n : Nat) : VRel S m w ((t[n]?).getD .dead) (tmps.getD n undef) := by
  cases hn : t[n]? with
  | none => exact .dead
  | some v =>
    obtain ⟨y, h1, h2⟩ := LRel.get h hn
    rw [Array.getElem?_toList] at h1
    rw [Array.getD_eq_getD_getElem?, h1]
    exact h2

theorem ofV1_sound {S m w v a} (h : ofV1 v = some a) : VRel S m w a v := by
  unfold ofV1 at h
  split at h <;> first
    | (cases h; first | exact .bool | exact .int | exact .str rfl | exact .nilp | exact .nils | exact .nilm | exact .nilf)
    | (split at h
       · rename_i f fs cs hc
         cases h
         simp only [Bool.and_eq_true, Array.isEmpty_iff] at hc
         rw [hc.1, hc.2]
         exact LRel.fn LRel.nil LRel.nil
       · cases h)
    | cases h
theorem ofVL_sound {S m w} : ∀ {l : List Value} {a}, ofVL l = some a → LRel S m w a l
  | [], a, h => by cases h; exact LRel.nil
  | v :: r, a, h => by
    rw [ofVL] at h
    split at h
    · rename_i h1 h2; cases h; exact LRel.cons (ofV1_sound h1) (ofVL_sound h2)
    · cases h
theorem ofV_sound {S m w v a} (h : ofV v = some a) : VRel S m w a v := by
  unfold ofV at h
  split at h
  · rw [Option.map_eq_some_iff] at h
    obtain ⟨l, h1, rfl⟩ := h
    exact LRel.agg (ofVL_sound h1)
  · split at h
    · rename_i cs hc
      cases h
      rw [Array.isEmpty_iff] at hc
      rw [hc]
      exact LRel.tup LRel.nil
    · cases h
  · exact ofV1_sound h
theorem compO_sound {S m w t} {a : Act} (h : TRel S m w t a.tmps) {x : Operand} {y : AO} (hx : compO x = some y) : VRel S m w (evalO t y) (a.eval x) := by
  cases x with
  | tmp n => cases hx; exact TRel.get h n
  | const v =>
    simp only [compO, Option.map_eq_some_iff] at hx
    obtain ⟨c, h1, rfl⟩ := hx
    exact ofV_sound h1
  | global g => cases hx
  | func f => cases hx; exact LRel.fn LRel.nil LRel.nil
end Go.Proofs.YtlogcjaigjcmiaaGreat.AM

/-
  THE ABSTRACT MACHINE: memory that is made, and written.
-/
import Derived.Test.YtlogcjaigjcmiaaGreatAmJ
import Derived.Laws.CopyRow
set_option linter.unusedVariables false
set_option linter.unusedSimpArgs false
namespace Go.Proofs.YtlogcjaigjcmiaaGreat.AM
open Go

section
variable {P : Program} {S : Nat → Prop} {m : Emb} {h : List Blk} {w : World}

def upd (m : Emb) (id : Nat) (x : Nat × Nat × Nat) : Emb := fun i => if i = id then some x else m i
theorem upd_self {id x} : upd m id x id = some x := if_pos rfl
theorem upd_ne {i id x} (hne : i ≠ id) : upd m id x i = m i := if_neg hne
theorem upd_le {id x} (hd : m id = none) : ∀ i y, m i = some y → upd m id x i = some y := fun i y hy => by
  by_cases e : i = id
  · subst e; rw [hd] at hy; cases hy
  · rw [upd_ne e]; exact hy
/-- The same world, but for blocks: streams as they were. -/
structure Like (w w' : World) : Prop where
  os : w'.os = w.os
  tape : w'.tape = w.tape
  output : w'.output = w.output
theorem Like.refl (w : World) : Like w w := ⟨rfl, rfl, rfl⟩
theorem live_append {id bl} (hl : live (h ++ [bl]) id) : live h id ∨ (id = h.length ∧ bl ≠ .gone) := by
  obtain ⟨b, h1, h2⟩ := hl
  by_cases hlt : id < h.length
  · rw [List.getElem?_append_left hlt] at h1; exact .inl ⟨b, h1, h2⟩
  · rw [List.getElem?_append_right (by omega)] at h1
    by_cases e : id = h.length
    · subst e
      simp at h1
      exact .inr ⟨rfl, h1 ▸ h2⟩
    · rw [List.getElem?_eq_none (by simp; omega)] at h1; cases h1
theorem lt_of_get {α : Type} {l : List α} {i : Nat} {x : α} (hx : l[i]? = some x) : i < l.length := (List.getElem?_eq_some_iff.1 hx).1

theorem BRel.keep {S' m' w'} (r : Rep S m h w) {id bl} (hb : BRel S m w id bl) (k : Kp S m w S' m' w') (hblk : ∀ b, (∃ d z, m id = some (b, d, z)) → bl ≠ .gone → w'.heap[b]? = w.heap[b]? ∧ ¬ S' b) : BRel S' m' w' id bl := by
  cases bl with
  | gone => trivial
  | cells cs =>
    obtain ⟨b, d, t, fz, c, h1, h2, h3, h4, h5, h6⟩ := hb
    have := hblk b ⟨_, _, h1⟩ (by simp)
    exact ⟨b, d, t, fz, c, k.km _ _ h1, this.1.trans h2, h3, h4, h5.keep k, this.2⟩
  | map es =>
    obtain ⟨b, ck, en, h1, h2, h3, h4, h5⟩ := hb
    have := hblk b ⟨_, _, h1⟩ (by simp)
    exact ⟨b, ck, en, k.km _ _ h1, this.1.trans h2, h3.keep k, h4.keep k, this.2⟩

/-- A new block. -/
theorem rep_new (r : Rep S m h w) {w' : World} (lk : Like w w') {o : Obj} (hw : w'.heap = w.heap.push o) (z : Nat) {bl : Blk} (hne : bl ≠ .gone)
    (hb : ∀ S' m' w', m' h.length = some (w.heap.size, 0, z) → w'.heap[w.heap.size]? = some o → (∀ v x, VRel S m w v x → VRel S' m' w' v x) → ¬ S' w.heap.size → BRel S' m' w' h.length bl) :
    let m' := upd m h.length (w.heap.size, 0, z)
    Rep S m' (h ++ [bl]) w' ∧ Stp S m h w S m' (h ++ [bl]) w' := by
  intro m'
  have hdom : m h.length = none := r.dom _ (Nat.le_refl _)
  have hold : ∀ b, b < w.heap.size → w'.heap[b]? = w.heap[b]? := fun b hlt => by rw [hw, Array.getElem?_push, if_neg (by omega)]
  have hk : Kp S m w S m' w' := ⟨fun _ h => h, fun b hS => hold b (r.sb b hS), upd_le hdom⟩
  have hnS : ¬ S w.heap.size := fun hS => absurd (r.sb _ hS) (Nat.lt_irrefl _)
  have hsz : w'.heap.size = w.heap.size + 1 := by rw [hw]; simp
  have hown : ∀ id b, owns (h ++ [bl]) m' id b → (id = h.length ∧ b = w.heap.size) ∨ owns h m id b := by
    rintro id b ⟨⟨d, z', hm⟩, hl⟩
    by_cases e : id = h.length
    · subst e
      have : m' h.length = some (w.heap.size, 0, z) := upd_self
      rw [this] at hm
      cases hm
      exact .inl ⟨rfl, rfl⟩
    · rcases live_append hl with hl | ⟨e', _⟩
      · exact .inr ⟨⟨d, z', by rw [show m' id = m id from upd_ne e] at hm; exact hm⟩, hl⟩
      · exact absurd e' e
  refine ⟨⟨?_, ?_, ?_, ?_⟩, ⟨fun _ h => h, upd_le hdom, lk.os, lk.tape, lk.output, by omega, by simp, ?_, ?_, fun _ h => .inl h⟩⟩
  · intro b hS; have := r.sb b hS; omega
  · intro id hid
    have : id ≠ h.length := by simp at hid; omega
    rw [show m' id = m id from upd_ne this]
    exact r.dom id (by simp at hid; omega)
  · intro id b' hb'
    by_cases hlt : id < h.length
    · rw [List.getElem?_append_left hlt] at hb'
      refine (r.blk id b' hb').keep r hk fun b hm hg => ?_
      have ho : owns h m id b := ⟨hm, b', hb', hg⟩
      exact ⟨hold b (owns_lt r ho), owns_not_S r ho⟩
    · have e : id = h.length := by have := lt_of_get hb'; simp at this; omega
      subst e
      simp at hb'
      subst hb'
      exact hb S m' w' upd_self (by rw [hw]; simp) (fun v x hv => hv.keep hk) hnS
  · intro i j b hi hj
    rcases hown i b hi with ⟨rfl, rfl⟩ | hi
    · rcases hown j _ hj with ⟨rfl, _⟩ | hj
      · rfl
      · exact absurd (owns_lt r hj) (Nat.lt_irrefl _)
    · rcases hown j b hj with ⟨rfl, rfl⟩ | hj
      · exact absurd (owns_lt r hi) (Nat.lt_irrefl _)
      · exact r.inj i j b hi hj
  · intro b hlt _; exact hold b hlt
  · intro id b ho hlt
    rcases hown id b ho with ⟨rfl, rfl⟩ | ho
    · omega
    · exact ⟨id, ho⟩
/-- A new row of cells. -/
theorem rep_cells (r : Rep S m h w) {w' : World} (lk : Like w w') {c : Array Value} {t fz} (hw : w'.heap = w.heap.push (.cells c t fz)) {cs : List AV} (hl : LRel S m w cs (c.toList.take cs.length)) (hle : cs.length ≤ c.size) (hfz : ∀ j, j < c.size → ¬ (fz.1 ≤ j ∧ j < fz.2)) :
    Rep S (upd m h.length (w.heap.size, 0, c.size)) (h ++ [.cells cs]) w' ∧ Stp S m h w S (upd m h.length (w.heap.size, 0, c.size)) (h ++ [.cells cs]) w' :=
  rep_new r lk hw c.size (by simp) fun S' m' w' h1 h2 h3 h4 => ⟨_, 0, t, fz, c, h1, h2, by omega, fun j _ hj => hfz j hj, ⟨by simpa using hl.1, fun i hi => h3 _ _ (by simpa using hl.2 i hi)⟩, h4⟩

/-- A block that takes another one's place in the world, written. -/
theorem rep_set (r : Rep S m h w) {w' : World} (lk : Like w w') {id : Nat} {bl bl' : Blk} (hbl : h[id]? = some bl) (hg : bl ≠ .gone) {b : Nat} (hm : ∃ d z, m id = some (b, d, z)) (hw : ∀ k, k ≠ b → w'.heap[k]? = w.heap[k]?) (hsz : w'.heap.size = w.heap.size)
    (hb : ∀ S' m' w'', (∀ x, m id = some x → m' id = some x) → w''.heap[b]? = w'.heap[b]? → (∀ v x, VRel S m w v x → VRel S' m' w'' v x) → ¬ S' b → BRel S' m' w'' id bl') :
    Rep S m (h.set id bl') w' ∧ Stp S m h w S m (h.set id bl') w' := by
  have ho : owns h m id b := ⟨hm, bl, hbl, hg⟩
  have hid := lt_of_get hbl
  have hnS := owns_not_S r ho
  have hk : Kp S m w S m w' := ⟨fun _ h => h, fun k hS => hw k (fun e => hnS (e ▸ hS)), fun _ _ h => h⟩
  have hown : ∀ i k, owns (h.set id bl') m i k → owns h m i k := by
    rintro i k ⟨h1, b', h2, h3⟩
    by_cases e : id = i
    · subst e; exact ⟨h1, bl, hbl, hg⟩
    · rw [List.getElem?_set_ne e] at h2; exact ⟨h1, b', h2, h3⟩
  refine ⟨⟨?_, ?_, ?_, ?_⟩, ⟨fun _ h => h, fun _ _ h => h, lk.os, lk.tape, lk.output, by omega, by simp, ?_, ?_, fun _ h => .inl h⟩⟩
  · intro k hS; rw [hsz]; exact r.sb k hS
  · intro i hi; exact r.dom i (by simpa using hi)
  · intro i b' hb'
    by_cases e : id = i
    · subst e
      rw [List.getElem?_set_self hid] at hb'
      cases hb'
      exact hb S m w' (fun _ h => h) rfl (fun v x hv => hv.keep hk) hnS
    · rw [List.getElem?_set_ne e] at hb'
      refine (r.blk i b' hb').keep r hk fun k hmk hgk => ?_
      have hok : owns h m i k := ⟨hmk, b', hb', hgk⟩
      have : k ≠ b := fun e' => e (r.inj _ _ _ ho (e' ▸ hok))
      exact ⟨hw k this, owns_not_S r hok⟩
  · intro i j k hi hj; exact r.inj i j k (hown _ _ hi) (hown _ _ hj)
  · intro k hk' hn; exact hw k (fun e => hn id (e ▸ ho))
  · intro i k hi _; exact ⟨i, hown _ _ hi⟩
/-- A block is forgotten. -/
theorem rep_gone (r : Rep S m h w) {id : Nat} (hid : id < h.length) : Rep S m (h.set id .gone) w ∧ Stp S m h w S m (h.set id .gone) w := by
  have hown : ∀ i k, owns (h.set id .gone) m i k → owns h m i k := by
    rintro i k ⟨h1, b', h2, h3⟩
    by_cases e : id = i
    · subst e
      rw [List.getElem?_set_self hid] at h2
      cases h2
      exact absurd rfl h3
    · rw [List.getElem?_set_ne e] at h2; exact ⟨h1, b', h2, h3⟩
  refine ⟨⟨r.sb, fun i hi => r.dom i (by simpa using hi), ?_, fun i j k hi hj => r.inj i j k (hown _ _ hi) (hown _ _ hj)⟩, ⟨fun _ h => h, fun _ _ h => h, rfl, rfl, rfl, Nat.le_refl _, by simp, fun _ _ _ => rfl, fun i k hi _ => ⟨i, hown _ _ hi⟩, fun _ h => .inl h⟩⟩
  intro i b' hb'
  by_cases e : id = i
  · subst e
    rw [List.getElem?_set_self hid] at hb'
    cases hb'
    trivial
  · rw [List.getElem?_set_ne e] at hb'; exact r.blk i b' hb'
/-- A block's place, seen from another cell on, taken by a new number; the elder number is forgotten. -/
theorem rep_move (r : Rep S m h w) {w' : World} (lk : Like w w') {id : Nat} {cs : List AV} (hbl : h[id]? = some (.cells cs)) {b d z : Nat} (hm : m id = some (b, d, z)) (hw : ∀ k, k ≠ b → w'.heap[k]? = w.heap[k]?) (hsz : w'.heap.size = w.heap.size) (d' : Nat) {bl' : Blk}
    (hb : ∀ S' m' w'', m' h.length = some (b, d', z) → w''.heap[b]? = w'.heap[b]? → (∀ v x, VRel S m w v x → VRel S' m' w'' v x) → ¬ S' b → BRel S' m' w'' h.length bl') :
    Rep S (upd m h.length (b, d', z)) (h.set id .gone ++ [bl']) w' ∧ Stp S m h w S (upd m h.length (b, d', z)) (h.set id .gone ++ [bl']) w' := by
  have ho : owns h m id b := ⟨⟨_, _, hm⟩, _, hbl, by simp⟩
  have hid := lt_of_get hbl
  have hnS := owns_not_S r ho
  have hdom : m h.length = none := r.dom _ (Nat.le_refl _)
  have hk : Kp S m w S (upd m h.length (b, d', z)) w' := ⟨fun _ h => h, fun k hS => hw k (fun e => hnS (e ▸ hS)), upd_le hdom⟩
  have hown : ∀ i k, owns (h.set id .gone ++ [bl']) (upd m h.length (b, d', z)) i k → (i = h.length ∧ k = b) ∨ (owns h m i k ∧ i ≠ id) := by
    rintro i k ⟨⟨d2, z2, h1⟩, hl⟩
    by_cases e : i = h.length
    · subst e
      rw [upd_self] at h1
      cases h1
      exact .inl ⟨rfl, rfl⟩
    · rcases live_append hl with hl | ⟨e', _⟩
      · rw [upd_ne e] at h1
        obtain ⟨b', h2, h3⟩ := hl
        by_cases e2 : id = i
        · subst e2
          rw [List.getElem?_set_self hid] at h2
          cases h2
          exact absurd rfl h3
        · rw [List.getElem?_set_ne e2] at h2
          exact .inr ⟨⟨⟨_, _, h1⟩, b', h2, h3⟩, fun e3 => e2 e3.symm⟩
      · simp at e'; exact absurd e' e
  refine ⟨⟨?_, ?_, ?_, ?_⟩, ⟨fun _ h => h, upd_le hdom, lk.os, lk.tape, lk.output, by omega, by simp, ?_, ?_, fun _ h => .inl h⟩⟩
  · intro k hS; rw [hsz]; exact r.sb k hS
  · intro i hi
    have : i ≠ h.length := by simp at hi; omega
    rw [upd_ne this]; exact r.dom i (by simp at hi; omega)
  · intro i b' hb'
    by_cases e : i = h.length
    · subst e
      rw [List.getElem?_append_right (by simp)] at hb'
      simp at hb'
      subst hb'
      exact hb S _ w' upd_self rfl (fun v x hv => hv.keep hk) hnS
    · have hlt : i < (h.set id Blk.gone).length := by have := lt_of_get hb'; simp at this ⊢; omega
      rw [List.getElem?_append_left hlt] at hb'
      by_cases e2 : id = i
      · subst e2
        rw [List.getElem?_set_self hid] at hb'
        cases hb'
        trivial
      · rw [List.getElem?_set_ne e2] at hb'
        refine (r.blk i b' hb').keep r hk fun k hmk hgk => ?_
        have hok : owns h m i k := ⟨hmk, b', hb', hgk⟩
        have : k ≠ b := fun e' => e2 (r.inj _ _ _ ho (e' ▸ hok))
        exact ⟨hw k this, owns_not_S r hok⟩
  · intro i j k hi hj
    rcases hown i k hi with ⟨e1, e2⟩ | ⟨hi', hni⟩
    · rcases hown j k hj with ⟨e3, _⟩ | ⟨hj', hnj⟩
      · rw [e1, e3]
      · exact absurd (r.inj _ _ _ (e2 ▸ hj') ho) hnj
    · rcases hown j k hj with ⟨_, e4⟩ | ⟨hj', hnj⟩
      · exact absurd (r.inj _ _ _ (e4 ▸ hi') ho) hni
      · exact r.inj i j k hi' hj'
  · intro k hk' hn; exact hw k (fun e => hn id (e ▸ ho))
  · intro i k hi _
    rcases hown i k hi with ⟨_, rfl⟩ | ⟨hi, _⟩
    · exact ⟨id, ho⟩
    · exact ⟨i, hi⟩

/-- Cells stored into a row, one behind the other. -/
theorem run_storeCells_fz (g o : Nat) (t : TypeId) (fz : Nat × Nat) : ∀ (vs : List Value) (i : Nat) (cur : Array Value) (w : World), w.heap[g]? = some (.cells cur t fz) → o + i + vs.length ≤ cur.size → (∀ j, o + i ≤ j → j < o + i + vs.length → ¬ (fz.1 ≤ j ∧ j < fz.2)) → (∀ v ∈ vs, v.oneCell' = true) →
    (storeCells ⟨g, o, none⟩ vs i).run P w = .ok () (w.setRow g (cur.toList.take (o + i) ++ (vs ++ cur.toList.drop (o + i + vs.length))).toArray)
  | [], i, cur, w, hg, _, _, _ => by
    simp only [storeCells, List.nil_append, List.length_nil, Nat.add_zero, List.take_append_drop, Array.toArray_toList]
    rw [setRow_self w g cur t fz hg]
    rfl
  | v :: rest, i, cur, w, hg, hl, hz, h1 => by
    have hi : o + i < cur.size := by simp at hl; omega
    have hcell : w.cell? ⟨g, o + i, none⟩ = some cur[o + i] := by simp [World.cell?, hg, hi]
    have hfro : w.frozen? ⟨g, o + i, none⟩ = false := by
      simp only [World.frozen?, hg]
      have := hz (o + i) (Nat.le_refl _) (by simp)
      simpa using this
    have hst : (store ((⟨g, o, none⟩ : Addr).add i) v).run P w = .ok () (w.setRow g (cur.setIfInBounds (o + i) v)) := by
      rw [add_mk, run_store P w _ v _ (h1 v (by simp)), hcell]
      simp [hfro, setCell_eq_setRow w g (o + i) cur t fz v hg]
    have ih := run_storeCells_fz g o t fz rest (i + 1) (cur.setIfInBounds (o + i) v) (w.setRow g (cur.setIfInBounds (o + i) v)) (setRow_heap w g cur _ t _ hg) (by simp at hl ⊢; omega)
      (fun j h2 h3 => hz j (by omega) (by simp; omega)) (fun x hx => h1 x (by simp [hx]))
    simp only [storeCells, Sem.run_bind, hst, Result.andThen_ok, ih, setRow_setRow]
    congr 3
    have e := list_seg_step cur.toList (o + i) v rest (by simp at hl ⊢; omega)
    simpa [Array.toList_setIfInBounds, Nat.add_assoc] using e
theorem like_setRow {g : Nat} {c : Array Value} : Like w (w.setRow g c) := ⟨rfl, rfl, rfl⟩
theorem seg_eq (C xs : List Value) (d off n : Nat) (h1 : d + n ≤ C.length) (h2 : off + xs.length ≤ n) :
    ((C.take (d + off) ++ (xs ++ C.drop (d + off + xs.length))).drop d).take n = ((C.drop d).take n).take off ++ (xs ++ ((C.drop d).take n).drop (off + xs.length)) := by
  have hd : d ≤ C.length := by omega
  have e1 : C.take (d + off) = C.take d ++ (C.drop d).take off := List.take_add
  have e2 : C.drop (d + off + xs.length) = (C.drop d).drop (off + xs.length) := by rw [List.drop_drop]; congr 1; omega
  have hE : (C.drop d).length = C.length - d := by simp
  rw [e1, e2]
  generalize C.drop d = E at hE
  rw [List.append_assoc, List.drop_left' (by simp; omega)]
  rw [List.take_append, List.take_append, List.take_take, List.take_take, List.take_of_length_le (l := xs) (by simp; omega)]
  rw [List.drop_take]
  congr 1
  · congr 1; omega
  · congr 2
    simp only [List.length_take]
    omega
/-- Cells stored through a pointer. -/
theorem store_sound (r : Rep S m h w) {id off : Nat} {vs : List AV} {xs : List Value} {h' : List Blk} {b d z : Nat} (hw : wrCells h id off vs = some h') (hm : m id = some (b, d, z)) (hL : LRel S m w vs xs) :
    ∃ w', (storeCells ⟨b, d + off, none⟩ xs).run P w = .ok () w' ∧ Rep S m h' w' ∧ Stp S m h w S m h' w' := by
  unfold wrCells at hw
  split at hw <;> first | (cases hw; done) | skip
  rename_i cs hcs
  split at hw <;> first | (cases hw; done) | skip
  rename_i hcond
  cases hw
  simp only [Bool.and_eq_true, decide_eq_true_eq] at hcond
  obtain ⟨hle, hone⟩ := hcond
  obtain ⟨b', d', t, fz, c, h1, h2, h3, h4, h5, h6⟩ := r.blk _ _ hcs
  rw [hm] at h1
  cases h1
  have hxl : xs.length = vs.length := hL.1.symm
  have hrun := run_storeCells_fz (P := P) b (d + off) t fz xs 0 c w h2 (by omega) (fun j g1 g2 => h4 j (by omega) (by omega)) (by
    intro x hx
    obtain ⟨i, hi, rfl⟩ := List.mem_iff_getElem.1 hx
    have h7 := hL.2 i (by omega)
    have h8 : vs[i]? = some vs[i] := List.getElem?_eq_getElem (by omega)
    have h9 : (vs[i]'(by omega)).one = true := List.all_eq_true.1 hone _ (List.getElem_mem _)
    simp only [List.getD_eq_getElem?_getD, h8, List.getElem?_eq_getElem hi, Option.getD_some] at h7
    exact h7.oneCell h9)
  simp only [Nat.add_zero] at hrun
  refine ⟨_, hrun, rep_set r like_setRow hcs (by simp) ⟨_, _, hm⟩ (fun k hk => setRow_other _ _ _ _ hk) (setRow_size _ _ _) fun S' m' w'' g1 g2 g3 g4 => ?_⟩
  have hsz : (c.toList.take (d + off) ++ (xs ++ c.toList.drop (d + off + xs.length))).toArray.size = c.size := by simp; omega
  refine ⟨b, d, t, fz, _, by rw [hsz]; exact g1 _ hm, by rw [g2]; exact setRow_heap w b c _ t fz h2, ?_, ?_, ?_, g4⟩
  · rw [hsz, splice_len hle]; exact h3
  · rw [hsz]; exact h4
  · have hL2 : LRel S m w (splice cs off vs) (((c.toList.drop d).take cs.length).take off ++ (xs ++ ((c.toList.drop d).take cs.length).drop (off + xs.length))) := splice_rel h5 hL
    have e : (((c.toList.take (d + off) ++ (xs ++ c.toList.drop (d + off + xs.length))).toArray.toList.drop d).take (splice cs off vs).length) = (((c.toList.drop d).take cs.length).take off ++ (xs ++ ((c.toList.drop d).take cs.length).drop (off + xs.length))) := by
      rw [splice_len hle]
      exact seg_eq _ _ _ _ _ (by simpa using h3) (by omega)
    rw [e]
    exact ⟨hL2.1, fun i hi => g3 _ _ (hL2.2 i hi)⟩
end
end Go.Proofs.YtlogcjaigjcmiaaGreat.AM

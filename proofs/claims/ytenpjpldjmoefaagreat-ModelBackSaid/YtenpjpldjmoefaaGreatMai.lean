/-
  'gauger's law ModelBack holds of every input: it returns true, and each argument reads behind the call as it read before.
  This text: part 9 of 22 of the proof (AmW).
-/
import Derived.Test.YtenpjpldjmoefaaGreatMae
import Derived.ChangeArms
import Derived.DataReads
import Derived.DataElems
set_option linter.unusedVariables false
set_option linter.unusedSimpArgs false
namespace Go.Proofs.YtenpjpldjmoefaaGreat.AM
open Go Go.RowKit
def Lies (w : World) : Nat → Prop := fun b => b < w.heap.size
def ARd {α : Type} (P : Program) (T : TypeId) (en : α → AV) (Q : α → Prop) : Prop :=
 ∀ {H : Type} {enc : TypeId × Value → H} {w : World} {base : Nat} {spare : Nat → Bool} {held : Bool} {fuel : Nat} {cs : List Value} {x : DataW H × List MemPlace}, DataW.trod enc P w base spare held fuel T cs = some x → ∃ a, LRel (Lies w) (fun _ => none) w (en a).cells cs ∧ Q a
theorem LRel.one {S m w v x} (h : VRel S m w v x) (ho : v.one = true) : LRel S m w v.cells [x] := by rw [cells_one ho]; exact LRel.cons h LRel.nil
theorem ard_int {P : Program} {T : TypeId} {k : IntKind} (h : P.underlying T = some (.int k)) : ARd P T (AV.int k) (fun n => (Lit.int k n).wf = true) := by
 intro H enc w base spare held fuel cs x hx
 obtain ⟨n, rfl, _, hw⟩ := DataW.trod_int h hx
 exact ⟨n, LRel.one .int rfl, hw⟩
theorem ard_string {P : Program} {T : TypeId} (h : P.underlying T = some .string) : ARd P T AV.str (fun s => s.length ≤ maxLen) := by
 intro H enc w base spare held fuel cs x hx
 obtain ⟨s, rfl, _, hw⟩ := DataW.trod_string h hx
 exact ⟨s.data.toList, LRel.one (.str rfl) rfl, by simpa [ByteArray.size_data] using hw⟩
theorem ard_list {α : Type} {R : Nat → α → Prop} : ∀ m : Nat, (∀ i, i < m → ∃ a, R i a) → ∃ l : List α, l.length = m ∧ ∀ i a, l[i]? = some a → R i a
 | 0, _ => ⟨[], rfl, fun i a h => by simp at h⟩
 | m + 1, h => by
  obtain ⟨l, hl, hR⟩ := ard_list m (fun i hi => h i (by omega))
  obtain ⟨a, ha⟩ := h m (by omega)
  refine ⟨l ++ [a], by simp [hl], fun i b hb => ?_⟩
  rcases Nat.lt_or_ge i m with h1 | h1
  ·rw [List.getElem?_append_left (by omega)] at hb
   exact hR i b hb
  ·rw [List.getElem?_append_right (by omega)] at hb
   have : i = m := by
    rcases Nat.lt_or_ge (i - l.length) 1 with h2 | h2
    ·omega
    ·rw [List.getElem?_eq_none (by simpa using h2)] at hb
     cases hb
   subst this
   rw [hl, Nat.sub_self] at hb
   injection hb with hb
   subst hb
   exact ha
theorem ard_slice {α : Type} {P : Program} {T e : TypeId} {en : α → AV} {st : Nat} {Q : α → Prop} (h : P.underlying T = some (.slice e)) (hst : P.cellsOf e = st) (h0 : 0 < st) (hr : ARd P e en Q) : ARd P T (fun l : List α => AV.ro (l.map en) st false) (fun l => l.length ≤ maxLen ∧ ∀ a ∈ l, Q a) := by
 intro H enc w base spare held fuel cs x hx
 rcases DataW.trod_slice h hx with ⟨rfl, _⟩ | ⟨a, len, cap, elems, rest, n, rfl, rfl, _, _, hl, hcap, he, hel, _, _⟩
 ·exact ⟨[], LRel.one (.ro0 (by simp)) rfl, Nat.zero_le _, fun a ha => by cases ha⟩
 ·have hj : ∀ i, i < len → ∃ a', Q a' ∧ ∃ c : List Value, c.length = st ∧ LRel (Lies w) (fun _ => none) w (en a').cells c ∧ ∀ j u, c[j]? = some u → w.cell? (a.add (i * st + j)) = some u := by
   intro i hi
   have h1 := hel i hi
   rw [List.getElem?_eq_getElem (by omega)] at h1
   obtain ⟨c, hc1, hc2⟩ := Option.bind_eq_some_iff.1 h1
   obtain ⟨a', hk, hq⟩ := hr hc2
   rw [hst] at hc1
   obtain ⟨_, h3, h4⟩ := World.cells?_some hc1
   refine ⟨a', hq, c, h3, hk, fun j u hu => ?_⟩
   have hjl : j < st := by
    rw [← h3]
    exact (List.getElem?_eq_some_iff.1 hu).1
   have h5 := h4 j hjl
   rw [hu] at h5
   rw [← h5, Addr.add_add]
  obtain ⟨l, hll, hR⟩ := ard_list len hj
  refine ⟨l, LRel.one ?_ rfl, by rw [hll]; exact Nat.le_trans hl hcap, fun b hb => ?_⟩
  ·cases hlen : l with
   | nil => rw [hlen] at hll; simp at hll; subst hll; exact .ro0 (by simp)
   | cons y ys =>
    rw [← hlen]
    have hpos : 0 < len := by rw [← hll, hlen]; simp
    obtain ⟨_, c0, h1, h2, h3⟩ := hR 0 y (by rw [hlen]; rfl)
    have hc0 := h3 0 _ (List.getElem?_eq_getElem (by omega))
    -- where the row lies
    obtain ⟨b, off, spot⟩ := a
    have hsp : spot = none := by
     simp only [Nat.zero_mul, Nat.add_zero] at hc0
     rw [show Addr.add ⟨b, off, spot⟩ 0 = ⟨b, off, spot⟩ by simp [Addr.add]] at hc0
     unfold World.cell? at hc0
     split at hc0
     ·cases spot
      ·rfl
      ·simp at hc0
     ·cases hc0
    subst hsp
    have hb : b < w.heap.size := by
     simp only [Nat.zero_mul, Nat.add_zero] at hc0
     rw [show Addr.add ⟨b, off, none⟩ 0 = ⟨b, off, none⟩ by simp [Addr.add]] at hc0
     unfold World.cell? at hc0
     split at hc0
     ·rename_i hbb; exact (Array.getElem?_eq_some_iff.1 hbb).1
     ·cases hc0
    have hel' : ∀ i, i < (l.map en).length → ∃ y c, l[i]? = some y ∧ (l.map en).getD i .dead = en y ∧ c.length = st ∧ LRel (Lies w) (fun _ => none) w (en y).cells c ∧ ∀ j u, c[j]? = some u → w.cell? ⟨b, off + (i * st + j), none⟩ = some u := by
     intro i hi
     simp only [List.length_map] at hi
     obtain ⟨_, c, h1, h2, h3⟩ := hR i _ (List.getElem?_eq_getElem hi)
     exact ⟨l[i], c, List.getElem?_eq_getElem hi, by simp [List.getD_eq_getElem?_getD, List.getElem?_eq_getElem hi], h1, h2, fun j u hu => by rw [← add_mk]; exact h3 j u hu⟩
    have hlm : (l.map en).length = len := by simp [hll]
    rw [← hlm]
    refine .ro (fun i j => (w.cell? ⟨b, off + (i * st + j), none⟩).getD undef) hb ?_ ?_ ?_ (by simp) (by rw [hlm]; exact hl)
    ·intro i j hi hj
     obtain ⟨y, c, g1, g2, g3, g4, g5⟩ := hel' i hi
     rw [g5 j _ (List.getElem?_eq_getElem (by omega))]; rfl
    ·intro i hi
     obtain ⟨y, c, g1, g2, g3, g4, g5⟩ := hel' i hi
     rw [g2, g4.1]; exact g3
    ·intro i j hi hj
     obtain ⟨y, c, g1, g2, g3, g4, g5⟩ := hel' i hi
     have h7 := g4.2 j (by rw [g4.1]; omega)
     rw [g2, g5 j _ (List.getElem?_eq_getElem (by omega))]
     simpa [List.getD_eq_getElem?_getD, List.getElem?_eq_getElem (show j < c.length by omega)] using h7
  ·obtain ⟨i, hi, rfl⟩ := List.getElem_of_mem hb
   exact (hR i _ (List.getElem?_eq_getElem hi)).1
def ARdF {α : Type} (P : Program) (fs : List Field) (off : Nat) (sz : Nat) (en : α → List AV) (Q : α → Prop) : Prop :=
 ∀ {H : Type} {enc : TypeId × Value → H} {w : World} {base : Nat} {spare : Nat → Bool} {held : Bool} {fuel : Nat} {cs : List Value}, (∀ f ∈ fs, ∃ y, DataW.trod enc P w base spare held fuel f.type ((cs.drop f.offset).take (P.cellsOf f.type)) = some y) → cs.length = off + sz → ∃ a, LRel (Lies w) (fun _ => none) w (en a) (cs.drop off) ∧ Q a
theorem ardF_one {α : Type} {P : Program} {f : Field} {off sz : Nat} {en : α → AV} {Q : α → Prop} (ho : f.offset = off) (hc : P.cellsOf f.type = sz) (hr : ARd P f.type en Q) : ARdF P [f] off sz (fun a => (en a).cells) Q := by
 intro H enc w base spare held fuel cs h hl
 obtain ⟨y, hy⟩ := h f (List.mem_cons_self ..)
 rw [ho, hc, List.take_of_length_le (by rw [List.length_drop]; omega)] at hy
 exact hr hy
theorem ardF_cons {α β : Type} {P : Program} {f : Field} {fs : List Field} {off sz sz' : Nat} {en : α → AV} {en' : β → List AV} {Q : α → Prop} {Q' : β → Prop} (ho : f.offset = off) (hc : P.cellsOf f.type = sz) (hr : ARd P f.type en Q) (hs : ARdF P fs (off + sz) sz' en' Q') :
  ARdF P (f :: fs) off (sz + sz') (fun x : α × β => (en x.1).cells ++ en' x.2) (fun x => Q x.1 ∧ Q' x.2) := by
 intro H enc w base spare held fuel cs h hl
 obtain ⟨y, hy⟩ := h f (List.mem_cons_self ..)
 rw [ho, hc] at hy
 obtain ⟨a, ha, hq⟩ := hr hy
 obtain ⟨b, hb, hq'⟩ := hs (cs := cs) (fun f' hf' => h f' (List.mem_cons_of_mem _ hf')) (by omega)
 refine ⟨(a, b), ?_, hq, hq'⟩
 have e : cs.drop off = (cs.drop off).take sz ++ cs.drop (off + sz) := by
  rw [show cs.drop (off + sz) = (cs.drop off).drop sz from by rw [List.drop_drop]]
  exact (List.take_append_drop ..).symm
 rw [e]
 exact ha.append hb
theorem ard_struct {α β : Type} {P : Program} {T : TypeId} {fs : Array Field} {sz : Nat} {en : α → List AV} {Q : α → Prop} (mk : α → β) (en' : β → AV) (hen : ∀ a, en' (mk a) = .agg (en a)) (h : P.underlying T = some (.struct fs)) (hc : P.cellsOf T = sz) (hr : ARdF P fs.toList 0 sz en Q) : ARd P T en' (fun b => ∃ a, mk a = b ∧ Q a) := by
 intro H enc w base spare held fuel cs x hx
 obtain ⟨xs, n, rfl, rfl, hl, hxs, hf⟩ := DataW.trod_struct h hx
 obtain ⟨a, h1, h2⟩ := hr (enc := enc) (w := w) (base := base) (spare := spare) (held := held) (fuel := n) (cs := cs) (fun f hfm => by
  obtain ⟨i, hi, rfl⟩ := List.getElem_of_mem hfm
  have hi' : i < fs.size := by simpa using hi
  have h1 := hf i fs.toList[i] (by simp [hi'])
  rw [List.getElem?_eq_getElem (by omega)] at h1
  exact ⟨_, h1⟩) (by omega)
 rw [List.drop_zero] at h1
 exact ⟨mk a, by rw [hen]; exact h1, a, rfl, h2⟩
theorem ard_arg {α : Type} {P : Program} {T : TypeId} {en : α → AV} {Q : α → Prop} (hr : ARd P T en Q) {H : Type} {enc : TypeId × Value → H} {w : World} {base : Nat} {spare : Nat → Bool} {held : Bool} {v : Value} {x : DataW H} {ps : List MemPlace}
  (h : DataW.Trod enc P w base spare held T v x ps) : ∃ a, LRel (Lies w) (fun _ => none) w (en a).cells v.cells.toList ∧ Q a := by
 obtain ⟨fuel, hf⟩ := h
 exact hr hf
theorem ard_one {S m w v x} (h : LRel S m w v.cells [x]) (hv : v.one = true) : VRel S m w v x := by
 rw [cells_one hv] at h
 obtain ⟨y, r, h1, h2, _⟩ := h.head
 cases h1
 exact h2
end Go.Proofs.YtenpjpldjmoefaaGreat.AM

/-
  WHAT CAME IN, AS A KIND: a value that reads as data is of its kind (the print's Kd), whatever its depth; numbers are in range, strings and rows no longer than a length.
-/
import Derived.Test.YtkcckhlchjmkkaaProg
import Derived.Test.YtkcckhlchjmkkaaWWords
import Derived.Test.YtkcckhlchjmkkaaWEqStruct
import Derived.WalkKit
import Derived.WalkSpells
import Derived.KernelRfl
import Derived.Below
import Derived.RowKit3
import Derived.ChangeArms
import Derived.DataReads
import Derived.DataElems
set_option linter.unusedVariables false
set_option linter.unusedSimpArgs false
namespace Go.Proofs.Ytkcckhlchjmkkaa
open Go.RowKit Go.Proofs.YtkcckhlchjmkkaaW.PrintWords

/-- Cells that read as data of type T are of kind d; Q is told of what they hold. -/
def Rdr {α : Type} (P : Program) (T : TypeId) (d : Kd α) (Q : α → Prop) : Prop :=
  ∀ {H : Type} {enc : TypeId × Value → H} {w : World} {base : Nat} {spare : Nat → Bool} {held : Bool} {fuel : Nat} {cs : List Value} {x : DataW H × List MemPlace}, DataW.trod enc P w base spare held fuel T cs = some x → ∃ a, d.K w a cs ∧ Q a
theorem rdr_int {P : Program} {T : TypeId} {k : IntKind} (h : P.underlying T = some (.int k)) : Rdr P T (Kd.int k) (fun n => (Lit.int k n).wf = true) := by
  intro H enc w base spare held fuel cs x hx
  obtain ⟨n, rfl, _, hw⟩ := DataW.trod_int h hx
  exact ⟨n, rfl, hw⟩
theorem rdr_string {P : Program} {T : TypeId} (h : P.underlying T = some .string) : Rdr P T Kd.string (fun s => s.size ≤ maxLen) := by
  intro H enc w base spare held fuel cs x hx
  obtain ⟨n, rfl, _, hw⟩ := DataW.trod_string h hx
  exact ⟨n, rfl, hw⟩
theorem rdr_list {α : Type} {R : Nat → α → Prop} : ∀ m : Nat, (∀ i, i < m → ∃ a, R i a) → ∃ l : List α, l.length = m ∧ ∀ i a, l[i]? = some a → R i a
  | 0, _ => ⟨[], rfl, fun i a h => by simp at h⟩
  | m + 1, h => by
    obtain ⟨l, hl, hR⟩ := rdr_list m (fun i hi => h i (by omega))
    obtain ⟨a, ha⟩ := h m (by omega)
    refine ⟨l ++ [a], by simp [hl], fun i b hb => ?_⟩
    rcases Nat.lt_or_ge i m with h1 | h1
    · rw [List.getElem?_append_left (by omega)] at hb
      exact hR i b hb
    · rw [List.getElem?_append_right (by omega)] at hb
      have : i = m := by
        rcases Nat.lt_or_ge (i - l.length) 1 with h2 | h2
        · omega
        · rw [List.getElem?_eq_none (by simpa using h2)] at hb
          cases hb
      subst this
      rw [hl, Nat.sub_self] at hb
      injection hb with hb
      subst hb
      exact ha
theorem rdr_slice {α : Type} {P : Program} {T e : TypeId} {d : Kd α} {Q : α → Prop} (h : P.underlying T = some (.slice e)) (hc : P.cellsOf e = d.sz) (hr : Rdr P e d Q) : Rdr P T (Kd.slice e d) (fun l => l.length ≤ maxLen ∧ ∀ a ∈ l, Q a) := by
  intro H enc w base spare held fuel cs x hx
  rcases DataW.trod_slice h hx with ⟨rfl, _⟩ | ⟨a, len, cap, elems, rest, n, rfl, rfl, _, _, hl, hcap, he, hel, _, _⟩
  · exact ⟨[], ⟨none, 0, rfl, Nat.le_refl _, rfl, Nat.zero_le _, fun h => absurd h (Nat.lt_irrefl 0)⟩, Nat.zero_le _, fun a ha => by cases ha⟩
  · have hj : ∀ i, i < len → ∃ a', Q a' ∧ ∃ c, c.length = d.sz ∧ d.K w a' c ∧ ∀ j u, c[j]? = some u → w.cell? (a.add (i * d.sz + j)) = some u := by
      intro i hi
      have h1 := hel i hi
      rw [List.getElem?_eq_getElem (by omega)] at h1
      obtain ⟨c, hc1, hc2⟩ := Option.bind_eq_some_iff.1 h1
      obtain ⟨a', hk, hq⟩ := hr hc2
      refine ⟨a', hq, c, d.K_len hk, hk, fun j u hu => ?_⟩
      rw [hc] at hc1
      obtain ⟨_, h3, h4⟩ := World.cells?_some hc1
      have hjl : j < d.sz := by
        rw [← h3]
        exact (List.getElem?_eq_some_iff.1 hu).1
      have h5 := h4 j hjl
      rw [hu] at h5
      rw [← h5, Addr.add_add]
    obtain ⟨l, hll, hR⟩ := rdr_list len hj
    refine ⟨l, ⟨some a, cap, by rw [hll], by rw [hll]; exact hl, rfl, ?_, fun _ => ⟨a, rfl, fun j p hp => ?_⟩⟩, ?_, fun b hb => ?_⟩
    · rw [hll]
      exact Nat.le_trans hl hcap
    · obtain ⟨_, c, h1, h2, h3⟩ := hR j p hp
      exact ⟨c, h1, h2, h3⟩
    · rw [hll]
      exact Nat.le_trans hl hcap
    · obtain ⟨i, hi, rfl⟩ := List.getElem_of_mem hb
      exact (hR i _ (List.getElem?_eq_getElem hi)).1
theorem rdr_iso {α β : Type} {P : Program} {T : TypeId} {d : Kd α} {Q : α → Prop} {f : β → α} (g : α → β) (hf : ∀ a, f (g a) = a) (hr : Rdr P T d Q) : Rdr P T (Kd.iso d f) (fun b => Q (f b)) := by
  intro H enc w base spare held fuel cs x hx
  obtain ⟨a, hk, hq⟩ := hr hx
  exact ⟨g a, by show d.K w (f (g a)) cs; rw [hf]; exact hk, by show Q (f (g a)); rw [hf]; exact hq⟩
theorem rdr_mono {α : Type} {P : Program} {T : TypeId} {d : Kd α} {Q Q' : α → Prop} (h : ∀ a, Q a → Q' a) (hr : Rdr P T d Q) : Rdr P T d Q' := by
  intro H enc w base spare held fuel cs x hx
  obtain ⟨a, hk, hq⟩ := hr hx
  exact ⟨a, hk, h a hq⟩
/-- The fields from cell 'off' on. -/
def RdrF {α : Type} (P : Program) (fs : List Field) (off : Nat) (d : Kd α) (Q : α → Prop) : Prop :=
  ∀ {H : Type} {enc : TypeId × Value → H} {w : World} {base : Nat} {spare : Nat → Bool} {held : Bool} {fuel : Nat} {cs : List Value}, (∀ f ∈ fs, ∃ y, DataW.trod enc P w base spare held fuel f.type ((cs.drop f.offset).take (P.cellsOf f.type)) = some y) → cs.length = off + d.sz → ∃ a, d.K w a (cs.drop off) ∧ Q a
theorem rdrF_one {α : Type} {P : Program} {f : Field} {off : Nat} {d : Kd α} {Q : α → Prop} (ho : f.offset = off) (hc : P.cellsOf f.type = d.sz) (hr : Rdr P f.type d Q) : RdrF P [f] off d Q := by
  intro H enc w base spare held fuel cs h hl
  obtain ⟨y, hy⟩ := h f (List.mem_cons_self ..)
  rw [ho, hc, List.take_of_length_le (by rw [List.length_drop]; omega)] at hy
  exact hr hy
theorem rdrF_cons {α β : Type} {P : Program} {f : Field} {fs : List Field} {off : Nat} {d : Kd α} {d' : Kd β} {Q : α → Prop} {Q' : β → Prop} (ho : f.offset = off) (hc : P.cellsOf f.type = d.sz) (hr : Rdr P f.type d Q) (hs : RdrF P fs (off + d.sz) d' Q') :
    RdrF P (f :: fs) off (Kd.pair d d') (fun x => Q x.1 ∧ Q' x.2) := by
  intro H enc w base spare held fuel cs h hl
  have hl' : cs.length = off + (d.sz + d'.sz) := hl
  obtain ⟨y, hy⟩ := h f (List.mem_cons_self ..)
  rw [ho, hc] at hy
  obtain ⟨a, ha, hq⟩ := hr hy
  obtain ⟨b, hb, hq'⟩ := hs (cs := cs) (fun f' hf' => h f' (List.mem_cons_of_mem _ hf')) (by omega)
  refine ⟨(a, b), ⟨_, _, ?_, ha, hb⟩, hq, hq'⟩
  rw [show cs.drop (off + d.sz) = (cs.drop off).drop d.sz from by rw [List.drop_drop]]
  exact (List.take_append_drop ..).symm
theorem rdr_struct {α : Type} {P : Program} {T : TypeId} {fs : Array Field} {d : Kd α} {Q : α → Prop} (h : P.underlying T = some (.struct fs)) (hc : P.cellsOf T = d.sz) (hr : RdrF P fs.toList 0 d Q) : Rdr P T d Q := by
  intro H enc w base spare held fuel cs x hx
  obtain ⟨xs, n, rfl, rfl, hl, hxs, hf⟩ := DataW.trod_struct h hx
  have := hr (enc := enc) (w := w) (base := base) (spare := spare) (held := held) (fuel := n) (cs := cs) (fun f hfm => by
    obtain ⟨i, hi, rfl⟩ := List.getElem_of_mem hfm
    have hi' : i < fs.size := by simpa using hi
    have h1 := hf i fs.toList[i] (by simp [hi'])
    rw [List.getElem?_eq_getElem (by omega)] at h1
    exact ⟨_, h1⟩) (by omega)
  rw [List.drop_zero] at this
  exact this
/-- A slice that came in. -/
theorem rdr_arg {α : Type} {P : Program} {T e : TypeId} {d : Kd α} {Q : α → Prop} (hr : Rdr P T (Kd.slice e d) (fun l => l.length ≤ maxLen ∧ ∀ a ∈ l, Q a)) {H : Type} {enc : TypeId × Value → H} {w : World} {base : Nat} {spare : Nat → Bool} {held : Bool} {A : Option Addr} {len cap : Nat} {x : DataW H} {ps : List MemPlace}
    (h : DataW.Trod enc P w base spare held T (.slice A len cap) x ps) : ∃ l : List α, len = l.length ∧ l.length ≤ cap ∧ l.length ≤ maxLen ∧ d.C w A l.length l ∧ ∀ a ∈ l, Q a := by
  obtain ⟨fuel, hf⟩ := h
  obtain ⟨l, ⟨A', c', he, hlc, hC⟩, hm, hQ⟩ := hr hf
  have he' : [Value.slice A len cap] = [Value.slice A' l.length c'] := he
  injection he' with he' _
  injection he' with h1 h2 h3
  subst h1 h3
  exact ⟨l, h2, hlc, hm, hC, hQ⟩
end Go.Proofs.Ytkcckhlchjmkkaa

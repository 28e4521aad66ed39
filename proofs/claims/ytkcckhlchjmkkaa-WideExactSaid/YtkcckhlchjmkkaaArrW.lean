/-
  ARRAYS [128]bool: their cells as a list of bools; a whole array stored, loaded; one element read, set.
-/
import Derived.Test.YtkcckhlchjmkkaaUtil
import Derived.Test.YtkcckhlchjmkkaaTab
import Derived.Laws.Rows
import Derived.Laws.Tables
import Derived.Laws.CopyRow
import Derived.Below
import Derived.WalkKit
import Derived.KernelRfl
set_option linter.unusedVariables false
set_option linter.unusedSimpArgs false
namespace Go.Proofs.Ytkcckhlchjmkkaa
open Go.RowKit Go.Proofs.YtkcckhlchjmkkaaW.PrintWords

def bA (l : List Bool) : Array Value := (l.map Value.bool).toArray
theorem bA_size (l : List Bool) : (bA l).size = l.length := by simp [bA]
theorem bA_get (l : List Bool) (i : Nat) (h : i < l.length) : (bA l)[i]? = some (.bool (l.getD i false)) := by
  simp [bA, List.getD_eq_getElem?_getD, List.getElem?_eq_getElem h]
theorem bA_set (l : List Bool) (i : Nat) (b : Bool) : (bA l).setIfInBounds i (.bool b) = bA (l.set i b) := by
  simp [bA, List.map_set]
theorem bA_one (l : List Bool) : ∀ v ∈ (bA l).toList, v.oneCell' = true := by
  intro v hv
  simp [bA] at hv
  rcases hv with ⟨_, rfl⟩ | ⟨_, rfl⟩ <;> rfl
theorem zero128 : Try.zeroCells26 = bA (List.replicate 128 false) := by kernel_rfl

def nof : Nat → Bool := fun _ => false
theorem zero128' : Try.zeroCells26 = bA (tab nof) := zero128.trans (congrArg bA tab_false.symm)
theorem bA_ne {l : List Bool} (h : l.length = 128) : ¬ bA l = #[] := fun e => by
  have := bA_size l
  rw [e, h] at this
  simp at this

/-- A block of an array. -/
def Blk (w : World) (g : Nat) (f : Nat → Bool) : Prop := w.heap[g]? = some (.cells (bA (tab f)) 26 (0, 0))
section
variable {w w1 : World} {g g' : Nat} {f f' : Nat → Bool}
theorem Blk.cell (h : Blk w g f) (i : Nat) (hi : i < 128) : w.cell? ⟨g, i, none⟩ = some (.bool (f i)) := by
  rw [cell_of_row w g i _ _ _ h, bA_get (tab f) i (by rw [tab_len]; exact hi), tab_getD f i hi]
theorem Blk.frozen (h : Blk w g f) (i : Nat) : w.frozen? ⟨g, i, none⟩ = false := frozen_of_row w g i _ _ h
theorem Blk.set (h : Blk w g f) (i : Nat) (b : Bool) : Blk (w.setCell ⟨g, i, none⟩ (.bool b)) g (fun j => if j = i then b else f j) := by
  unfold Blk
  rw [heap_setCell_same w g i _ _ _ h, bA_set, tab_set]
theorem Blk.congr (h : Blk w g f) (he : ∀ j, j < 128 → f j = f' j) : Blk w g f' := by
  unfold Blk
  rw [← tab_congr he]
  exact h
theorem Blk.far (h : Blk w g f) (a : Addr) (v : Value) (hn : g ≠ a.block) : Blk (w.setCell a v) g f := by
  unfold Blk
  rw [heap_setCell_other w a g v hn]; exact h
theorem Blk.below (h : Blk w g f) (hb : Below w.heap.size w w1) : Blk w1 g f := blk_below h hb
theorem Blk.alloc (h : Blk w g f) (o : Obj) : Blk (w.alloc o) g f := blk_alloc h o
theorem Blk.drew (h : Blk w g f) : Blk w.drew g f := h
theorem Blk.new (w : World) (f : Nat → Bool) : Blk (w.alloc (.cells (bA (tab f)) 26)) w.heap.size f := heap_alloc_new w _
theorem Blk.new_at (w : World) (f : Nat → Bool) {n : Nat} (hn : w.heap.size = n) : Blk (w.alloc (.cells (bA (tab f)) 26)) n f := hn ▸ heap_alloc_new w _
theorem Blk.setRow (h : Blk w g f) (f' : Nat → Bool) : Blk (w.setRow g (bA (tab f'))) g f' := setRow_heap w g _ _ _ _ h
theorem Blk.setRow_far (h : Blk w g f) (hn : g ≠ g') (cs : Array Value) : Blk (w.setRow g' cs) g f := by
  unfold Blk
  rw [setRow_other w g' g cs hn]; exact h
theorem Blk.lt (h : Blk w g f) : g < w.heap.size := (Array.getElem?_eq_some_iff.1 h).1
/-- A whole array is stored. -/
theorem Blk.store (h : Blk w g f) (f' : Nat → Bool) : (storeCells ⟨g, 0, none⟩ (bA (tab f')).toList).run Try.prog w = .ok () (w.setRow g (bA (tab f'))) := by
  have := run_storeCells_from (P := Try.prog) g 26 (bA (tab f')).toList 0 (bA (tab f)) w h (by rw [bA_size, tab_len]; simp [bA, tab_len]) (bA_one (tab f'))
  rw [this]
  simp
end
theorem below_setRow {w W : World} {g : Nat} (h : Below w.heap.size w W) (hg : w.heap.size ≤ g) (cs : Array Value) : Below w.heap.size w (W.setRow g cs) :=
  ⟨h.os, h.tape, h.output, by rw [size_setRow]; exact h.size, fun i hi => by rw [setRow_other W g i cs (by omega)]; exact h.block i hi⟩
theorem cell_setRow_far {w : World} {g : Nat} {a : Addr} {v : Value} (h : w.cell? a = some v) (hn : a.block ≠ g) (cs : Array Value) : (w.setRow g cs).cell? a = some v := by
  rw [cell_setRow_other w g cs a hn]; exact h
theorem info128 : (Try.prog.info? 26).map (·.size) = some 128 := by kernel_rfl
/-- A result that is an array. -/
theorem res128 {fn : Func} {p : Tmp} (h : fn.results = #[.cell p 26]) {a : Act} {w : World} {g : Nat} {f : Nat → Bool} (hp : a.tmps.getD p undef = .pointer (some ⟨g, 0, none⟩)) (hb : Blk w g f) (hd : a.defers = []) {R : Ending → World → Prop} (hr : R (.returned (.agg (bA (tab f)))) w) : bodyPost Try.prog fn R Exit.ret a w :=
  bodyPost_ret (results_cell_row h a.tmps w g 26 (bA (tab f)) (0, 0) _ hp hb Try.underlying26 rfl (by rw [bA_size, tab_len]; exact info128)) hd hr
end Go.Proofs.Ytkcckhlchjmkkaa

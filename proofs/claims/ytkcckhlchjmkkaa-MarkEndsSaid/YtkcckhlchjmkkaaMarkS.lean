/-
  LAYER 22: the state of mark.Read's own memory: its story's block, the row of who committed, the map of who is open.
-/
import Derived.Test.YtkcckhlchjmkkaaMarkQ
set_option linter.unusedVariables false
set_option linter.unusedSimpArgs false
namespace Go.Proofs.Ytkcckhlchjmkkaa
open Go.RowKit Go.Maps Go.Proofs.YtkcckhlchjmkkaaW.PrintWords Go.Proofs.YtkcckhlchjmkkaaW.PrintMore Go.Proofs.Ytkcckhlchjmkkaa.PMark

/-- The own row's block is no map. -/
theorem own_no_map {W : World} {base e s n b nm : Nat} {v : Value} {xs : List Value} {l : List Opn} (h : W.ownsRow base e s v n xs) (hm : OM W b nm l) : some b ≠ v.ownBlock := by
  intro he
  obtain ⟨cs, hc⟩ := own_typed h b he.symm
  obtain ⟨es, clock, hb, _⟩ := hm
  rw [hc] at hb
  simp at hb
/-- A block of cells is no map's. -/
theorem cells_no_map {W : World} {g b nm : Nat} {cs : Array Value} {t : TypeId} {l : List Opn} (h : W.heap[g]? = some (.cells cs t (0, 0))) (hm : OM W b nm l) : b ≠ g := by
  rintro rfl
  obtain ⟨es, clock, hb, _⟩ := hm
  rw [h] at hb
  simp at hb
/-- w0: where the call began; g2 the result's block, g4 the story's, gm the map's. -/
structure St (w0 : World) (g4 gm : Nat) (start next : Int) (ov cv : Value) (comm : List Int) (n : Nat) (l : List Opn) (W : World) : Prop where
  map : OM W gm n l
  blk : W.heap[g4]? = some (.cells #[.int .i64 start, ov, .int .i64 next, cv] 63 (0, 0))
  row : W.ownsRow w0.heap.size 3 1 cv comm.length (nums .i64 comm)
  res : W.heap[w0.heap.size]? = some (.cells #[.int .i64 0, .slice none 0 0, .int .i64 0, .slice none 0 0] 63 (0, 0))
  bel : Below w0.heap.size w0 W
  lt4 : w0.heap.size < g4
  ltm : g4 < gm
section
variable {w0 W : World} {g4 gm n : Nat} {start next : Int} {ov cv : Value} {comm : List Int} {l : List Opn}
theorem St.alloc (h : St w0 g4 gm start next ov cv comm n l W) (o : Obj) : St w0 g4 gm start next ov cv comm n l (W.alloc o) :=
  ⟨h.map.alloc o, blk_alloc h.blk o, own_alloc h.row o, blk_alloc h.res o, below_alloc h.bel o, h.lt4, h.ltm⟩
theorem St.set2 (h : St w0 g4 gm start next ov cv comm n l W) (v : Int) : St w0 g4 gm start v ov cv comm n l (W.setCell ⟨g4, 2, none⟩ (.int .i64 v)) :=
  ⟨h.map.setCell (a := ⟨g4, 2, none⟩) (cells_no_map h.blk h.map) _, blk_set h.blk 2 _, own_setCell h.row (p := ⟨g4, 2, none⟩) (own_ne h.row h.blk (by decide)) _, blk_far h.res (p := ⟨g4, 2, none⟩) (by have := h.lt4; simp; omega) _, below_set h.bel (Nat.le_of_lt h.lt4), h.lt4, h.ltm⟩
/-- Behind an append onto the row of who committed: stored in the story. -/
theorem St.push (h : St w0 g4 gm start next ov cv comm n l W) {w1 : World} {v1 : Value} {comm' : List Int} (ho : w1.ownsRow w0.heap.size 3 1 v1 comm'.length (nums .i64 comm')) (hg : W.grownBy w1 cv.ownBlock) (hb : Below w0.heap.size w0 w1) : St w0 g4 gm start next ov v1 comm' n l (w1.setCell ⟨g4, 3, none⟩ v1) := by
  have k4 := blk_grown h.blk hg (own_ne h.row h.blk (by decide))
  have km : OM w1 gm n l := h.map.kept hg (own_no_map h.row h.map)
  exact ⟨km.setCell (a := ⟨g4, 3, none⟩) (cells_no_map k4 km) _, blk_set k4 3 _, own_setCell ho (p := ⟨g4, 3, none⟩) (own_ne ho k4 (by decide)) _, blk_far (blk_grown h.res hg (own_ne h.row h.res (by decide))) (p := ⟨g4, 3, none⟩) (by have := h.lt4; simp; omega) _, below_set hb (Nat.le_of_lt h.lt4), h.lt4, h.ltm⟩
/-- Behind a call that turned the map alone. -/
theorem St.turned (h : St w0 g4 gm start next ov cv comm n l W) {w1 : World} {n' : Nat} {l' : List Opn} (hm : OM w1 gm n' l') (hg : W.grownBy w1 (some gm)) : St w0 g4 gm start next ov cv comm n' l' w1 :=
  ⟨hm, blk_grown h.blk hg (by have := h.ltm; simp; omega), own_other h.row hg (Or.inr (fun e => own_no_map h.row h.map e.symm)), blk_grown h.res hg (by have := h.ltm; have := h.lt4; simp; omega), h.bel.grown hg h.bel.size (fun k hk => by injection hk with hk; have := h.ltm; have := h.lt4; omega), h.lt4, h.ltm⟩
theorem St.below (h : St w0 g4 gm start next ov cv comm n l W) {w1 : World} (hb : Below W.heap.size W w1) : St w0 g4 gm start next ov cv comm n l w1 :=
  ⟨h.map.kept (grown_of_below hb none) (by simp), blk_below h.blk hb, pw_own_below h.row hb, blk_below h.res hb, below_step h.bel hb, h.lt4, h.ltm⟩
theorem St.mono (h : St w0 g4 gm start next ov cv comm n l W) {n' : Nat} (hn : n ≤ n') : St w0 g4 gm start next ov cv comm n' l W := { h with map := h.map.mono hn }
theorem St.lt (h : St w0 g4 gm start next ov cv comm n l W) : g4 < W.heap.size := blk_lt h.blk
theorem St.c1 (h : St w0 g4 gm start next ov cv comm n l W) : W.cell? ⟨g4, 1, none⟩ = some ov := (blk_cell h.blk 1).trans rfl
theorem St.c2 (h : St w0 g4 gm start next ov cv comm n l W) : W.cell? ⟨g4, 2, none⟩ = some (.int .i64 next) := (blk_cell h.blk 2).trans rfl
theorem St.c3 (h : St w0 g4 gm start next ov cv comm n l W) : W.cell? ⟨g4, 3, none⟩ = some cv := (blk_cell h.blk 3).trans rfl
theorem St.fz (h : St w0 g4 gm start next ov cv comm n l W) (i : Nat) : W.frozen? ⟨g4, i, none⟩ = false := blk_frozen h.blk i
/-- .. and the row of who is open, as it is built; the sorted keys beside it. -/
structure St3 (w0 : World) (g4 gm : Nat) (start next : Int) (ov cv : Value) (comm : List Int) (n : Nat) (l : List Opn) (kv : Value) (ks : List Int) (os : List Opn) (W : World) : Prop where
  st : St w0 g4 gm start next ov cv comm n l W
  keys : W.ownsRow w0.heap.size 3 1 kv ks.length (nums .i64 ks)
  orow : kOpn.R 55 W w0.heap.size (fun _ => True) ov os
theorem St3.push {kv : Value} {ks : List Int} {os : List Opn} (h : St3 w0 g4 gm start next ov cv comm n l kv ks os W) {w1 : World} {v1 : Value} {os' : List Opn} (ho : kOpn.R 55 w1 w0.heap.size (fun _ => True) v1 os') (hg : W.grownBy w1 ov.ownBlock) (hb : Below w0.heap.size w0 w1) :
    St3 w0 g4 gm start next v1 cv comm n l kv ks os' (w1.setCell ⟨g4, 1, none⟩ v1) := by
  obtain ⟨inner, hin⟩ := Kd.R_own h.orow
  have n4 : some g4 ≠ ov.ownBlock := Kd.R_ne h.orow h.st.blk (by decide)
  have k4 := blk_grown h.st.blk hg n4
  have km : OM w1 gm n l := h.st.map.kept hg (own_no_map hin h.st.map)
  have kr := own_other h.st.row hg (own_type_ne h.st.row hin (by decide))
  have kk := own_other h.keys hg (own_type_ne h.keys hin (by decide))
  refine ⟨⟨km.setCell (a := ⟨g4, 1, none⟩) (cells_no_map k4 km) _, blk_set k4 1 _, own_setCell kr (p := ⟨g4, 1, none⟩) (own_ne kr k4 (by decide)) _, blk_far (blk_grown h.st.res hg (Kd.R_ne h.orow h.st.res (by decide))) (p := ⟨g4, 1, none⟩) (by have := h.st.lt4; simp; omega) _, below_set hb (Nat.le_of_lt h.st.lt4), h.st.lt4, h.st.ltm⟩, own_setCell kk (p := ⟨g4, 1, none⟩) (own_ne kk k4 (by decide)) _, ?_⟩
  exact Kd.R_set ho k4 (by decide) 1 _
/-- The result's block, filled. -/
theorem St3.fin {kv : Value} {ks : List Int} {os : List Opn} (h : St3 w0 g4 gm start next ov cv comm n l kv ks os W) (v0 v1 v2 v3 : Value) :
    ((((W.setCell ⟨w0.heap.size, 0, none⟩ v0).setCell ⟨w0.heap.size, 1, none⟩ v1).setCell ⟨w0.heap.size, 2, none⟩ v2).setCell ⟨w0.heap.size, 3, none⟩ v3).heap[w0.heap.size]? = some (.cells #[v0, v1, v2, v3] 63 (0, 0)) ∧
    kOpn.R 55 ((((W.setCell ⟨w0.heap.size, 0, none⟩ v0).setCell ⟨w0.heap.size, 1, none⟩ v1).setCell ⟨w0.heap.size, 2, none⟩ v2).setCell ⟨w0.heap.size, 3, none⟩ v3) w0.heap.size (fun _ => True) ov os ∧
    ((((W.setCell ⟨w0.heap.size, 0, none⟩ v0).setCell ⟨w0.heap.size, 1, none⟩ v1).setCell ⟨w0.heap.size, 2, none⟩ v2).setCell ⟨w0.heap.size, 3, none⟩ v3).ownsRow w0.heap.size 3 1 cv comm.length (nums .i64 comm) ∧
    Below w0.heap.size w0 ((((W.setCell ⟨w0.heap.size, 0, none⟩ v0).setCell ⟨w0.heap.size, 1, none⟩ v1).setCell ⟨w0.heap.size, 2, none⟩ v2).setCell ⟨w0.heap.size, 3, none⟩ v3) := by
  have b0 := h.st.res
  have b1 := blk_set b0 0 v0
  have b2 := blk_set b1 1 v1
  have b3 := blk_set b2 2 v2
  have b4 := blk_set b3 3 v3
  have o1 := Kd.R_set h.orow b0 (by decide) 0 v0
  have o2 := Kd.R_set o1 b1 (by decide) 1 v1
  have o3 := Kd.R_set o2 b2 (by decide) 2 v2
  have o4 := Kd.R_set o3 b3 (by decide) 3 v3
  have c1 := own_setCell h.st.row (p := ⟨w0.heap.size, 0, none⟩) (own_ne h.st.row b0 (by decide)) v0
  have c2 := own_setCell c1 (p := ⟨w0.heap.size, 1, none⟩) (own_ne c1 b1 (by decide)) v1
  have c3 := own_setCell c2 (p := ⟨w0.heap.size, 2, none⟩) (own_ne c2 b2 (by decide)) v2
  have c4 := own_setCell c3 (p := ⟨w0.heap.size, 3, none⟩) (own_ne c3 b3 (by decide)) v3
  refine ⟨?_, o4, c4, below_set (below_set (below_set (below_set h.st.bel (Nat.le_refl _)) (Nat.le_refl _)) (Nat.le_refl _)) (Nat.le_refl _)⟩
  simpa using b4
end
end Go.Proofs.Ytkcckhlchjmkkaa

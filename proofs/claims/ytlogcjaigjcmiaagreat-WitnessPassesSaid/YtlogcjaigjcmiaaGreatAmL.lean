/-
  THE ABSTRACT MACHINE: each operation that makes or writes memory (first part).
-/
import Derived.Test.YtlogcjaigjcmiaaGreatAmK
set_option linter.unusedVariables false
set_option linter.unusedSimpArgs false
namespace Go.Proofs.YtlogcjaigjcmiaaGreat.AM
open Go

section
variable {P : Program} {S : Nat → Prop} {m : Emb} {h : List Blk} {w : World} {ρ : Operand → Value} {ev : AO → AV}

/-- What an operation that makes or writes memory comes to. -/
def WGood (P : Program) (S : Nat → Prop) (m : Emb) (h : List Blk) (w : World) (ρ : Operand → Value) (o : Oper) (v : AV) (h' : List Blk) : Prop :=
  ∃ n x w' m', (execOp ρ o).run P w = .ok n w' ∧ (n = .value x ∨ (n = .skip ∧ x = undef)) ∧ VRel S m' w' v x ∧ Rep S m' h' w' ∧ Stp S m h w S m' h' w'
theorem WGood.of {o : Oper} {v : AV} {h' : List Blk} {s : Sem Value} {x : Value} {w' : World} {m' : Emb} (he : execOp ρ o = (do pure (.value (← s)))) (hs : s.run P w = .ok x w') (hv : VRel S m' w' v x) (hr : Rep S m' h' w' ∧ Stp S m h w S m' h' w') : WGood P S m h w ρ o v h' :=
  ⟨.value x, x, w', m', by rw [he]; simp [hs], .inl rfl, hv, hr.1, hr.2⟩
theorem elem?_sound {t n z b} (he : elem? P t = some (n, z, b)) : ∃ i v, P.info? t = some i ∧ i.zero = some v ∧ i.size = n ∧ i.bytes = b ∧ n = z.length ∧ 0 < n ∧ 0 < b ∧ z.all AV.one = true ∧ ∀ S m w, LRel S m w z v.cells.toList := by
  unfold elem? at he
  split at he
  · rename_i i z' hi hz
    split at he
    · rename_i hc
      cases he
      simp only [Bool.and_eq_true, decide_eq_true_eq] at hc
      obtain ⟨i', v, h1, h2, a, h3, rfl⟩ := zero?_sound hz
      rw [hi] at h1
      cases h1
      exact ⟨i, v, hi, h2, rfl, rfl, hc.1.1.1, hc.1.2, hc.2, hc.1.1.2, fun S m w => (ofV_sound h3).cells (ofV_ne_dead h3)⟩
    · cases he
  · cases he
theorem zero_run {t i v} (hi : P.info? t = some i) (hz : i.zero = some v) : (zeroValue t).run P w = .ok v w := by simp [zeroValue, info_run hi, hz]
theorem newRow_run (t : TypeId) (c : Array Value) : (newRow t c).run P w = .ok ⟨w.heap.size, 0, none⟩ (w.alloc (.cells c t)) := by simp only [newRow, Sem.run_bind, run_newObj, Result.andThen_ok, Sem.run_pure]; rfl
theorem like_alloc {o : Obj} : Like w (w.alloc o) := ⟨rfl, rfl, rfl⟩
/-- A fresh pointer to a row. -/
theorem new_ptr (r : Rep S m h w) (t : TypeId) {c : Array Value} {cs : List AV} (hl : LRel S m w cs (c.toList.take cs.length)) (hle : cs.length ≤ c.size) :
    VRel S (upd m h.length (w.heap.size, 0, c.size)) (w.alloc (.cells c t)) (.ptr h.length 0) (.pointer (some ⟨w.heap.size, 0, none⟩)) ∧
    Rep S (upd m h.length (w.heap.size, 0, c.size)) (h ++ [.cells cs]) (w.alloc (.cells c t)) ∧ Stp S m h w S (upd m h.length (w.heap.size, 0, c.size)) (h ++ [.cells cs]) (w.alloc (.cells c t)) :=
  ⟨.ptr (b := w.heap.size) (d := 0) upd_self, rep_cells r like_alloc rfl hl hle (fun j _ => by omega)⟩

theorem w_alloc (r : Rep S m h w) {o : Oper} {ao v t h' lo} (ho : o.op = .alloc t) (hc : compOp P o = some ao) (hv : wOp ev h ao = some (v, h', lo)) : WGood P S m h w ρ o v h' := by
  simp only [compOp, ho] at hc
  split at hc <;> first | (cases hc; done) | skip
  rename_i n z b he
  cases hc
  cases hv
  obtain ⟨i, zv, hi, hz, h1, h2, h3, h4, h5, h6, h7⟩ := elem?_sound he
  have hL := h7 S m w
  have hlen : z.length = zv.cells.size := by simpa using hL.1
  obtain ⟨a1, a2⟩ := new_ptr (cs := z) (c := zv.cells) r t (by rw [List.take_of_length_le (by simp; omega)]; exact hL) (by omega)
  refine WGood.of (s := Instr.alloc t true (.tuple #[])) (by simp only [execOp, ho]) ?_ a1 a2
  simp [Instr.alloc, zero_run hi hz, newVar, newRow_run]
theorem w_box (hE : ∀ x y, compO x = some y → VRel S m w (ev y) (ρ x)) (r : Rep S m h w) {o : Oper} {ao v t x h' lo} (ho : o.op = .box t x) (hc : compOp P o = some ao) (hv : wOp ev h ao = some (v, h', lo)) : WGood P S m h w ρ o v h' := by
  simp only [compOp, ho] at hc
  split at hc <;> first | (cases hc; done) | skip
  rename_i n y hn hx
  split at hc <;> first | (cases hc; done) | skip
  cases hc
  cases hv
  have hxx := hE _ _ hx
  have hL : LRel S m w (ev y).cells ((ρ x).cells.toList.take (ev y).cells.length) ∧ (ev y).cells.length ≤ (ρ x).cells.size := by
    by_cases hd : ev y = .dead
    · rw [hd]; exact ⟨LRel.nil, Nat.zero_le _⟩
    · have := hxx.cells hd
      have hl := this.1
      simp only [Array.length_toList] at hl
      rw [List.take_of_length_le (by simp; omega)]
      exact ⟨this, by omega⟩
  obtain ⟨a1, a2⟩ := new_ptr r t hL.1 hL.2
  refine WGood.of (s := Instr.box t (ρ x)) (by simp only [execOp, ho]) ?_ a1 a2
  simp [Instr.box, newVar, newRow_run]
theorem w_store (hE : ∀ x y, compO x = some y → VRel S m w (ev y) (ρ x)) (r : Rep S m h w) {o : Oper} {ao v t a x h' lo} (ho : o.op = .store t a x) (hc : compOp P o = some ao) (hv : wOp ev h ao = some (v, h', lo)) : WGood P S m h w ρ o v h' := by
  simp only [compOp, ho] at hc
  split at hc <;> first | (cases hc; done) | skip
  rename_i n a' x' hn ha hx
  split at hc <;> first | (cases hc; done) | skip
  rename_i hn0
  cases hc
  simp only [wOp] at hv
  split at hv <;> first | (cases hv; done) | skip
  rename_i id off he
  split at hv <;> first | (cases hv; done) | skip
  rename_i hlen
  rw [Option.map_eq_some_iff] at hv
  obtain ⟨h2, hw, hv⟩ := hv
  cases hv
  have haa := hE _ _ ha
  have hxx := hE _ _ hx
  rw [he] at haa
  have hnd : ev x' ≠ .dead := by intro hd; rw [hd] at hlen; simp [AV.cells] at hlen; omega
  have hL := hxx.cells hnd
  generalize hav : ρ a = av at haa
  cases haa with
  | ptr hm =>
    obtain ⟨w', h3, h4, h5⟩ := store_sound (P := P) r hw hm hL
    have hsz : (ρ x).cells.size = n := by have := hL.1; simp at this; omega
    refine ⟨.skip, undef, w', m, ?_, .inr ⟨rfl, rfl⟩, LRel.tup LRel.nil, h4, h5⟩
    have : execOp ρ o = (do Instr.storeAt t (ρ a) (ρ x); pure .skip) := by simp only [execOp, ho]
    rw [this, hav]
    simp [Instr.storeAt, Instr.sureAddr, storeVar, size_run hn, hsz, h3]
theorem rep_flat {zero : Array Value} {st : Nat} (hz : zero.size = st) : ∀ k, ((Array.range (k * st)).map fun i => zero[i % zero.size]!).toList = (List.replicate k zero.toList).flatten
  | 0 => by simp
  | k + 1 => by
    have ih := rep_flat hz k
    rw [Array.toList_map, Array.toList_range] at ih ⊢
    rw [show (k + 1) * st = st + k * st by rw [Nat.succ_mul]; omega, List.range_add, List.map_append, List.map_map, List.replicate_succ, List.flatten_cons]
    congr 1
    · apply List.ext_getElem?
      intro i
      rw [List.getElem?_map]
      by_cases hi : i < st
      · rw [List.getElem?_range hi]
        simp only [Option.map_some, hz, Nat.mod_eq_of_lt hi]
        rw [Array.getElem?_toList, Array.getElem!_eq_getD, Array.getD_eq_getD_getElem?, Array.getElem?_eq_getElem (by omega)]
        rfl
      · rw [List.getElem?_eq_none (by simp; omega), List.getElem?_eq_none (by simp; omega)]
        rfl
    · rw [← ih]
      apply List.map_congr_left
      intro i _
      simp only [Function.comp_apply, hz, Nat.add_mod_left]
theorem LRel.flat {S m w v} {x : List Value} (hv : LRel S m w v x) : ∀ k, LRel S m w (List.replicate k v).flatten (List.replicate k x).flatten
  | 0 => LRel.nil
  | k + 1 => by rw [List.replicate_succ, List.replicate_succ, List.flatten_cons, List.flatten_cons]; exact hv.append (LRel.flat hv k)
theorem flat_len {α : Type} (l : List α) : ∀ k, (List.replicate k l).flatten.length = k * l.length
  | 0 => by simp
  | k + 1 => by rw [List.replicate_succ, List.flatten_cons, List.length_append, flat_len l k, Nat.succ_mul]; omega
/-- A fresh slice. -/
theorem new_sl (r : Rep S m h w) (t : TypeId) {w' : World} {c : Array Value} {cs : List AV} {st len cap rc : Nat} {ex : Bool} (lk : Like w w') (hw : w'.heap = w.heap.push (.cells c t)) (hl : LRel S m w cs (c.toList.take cs.length)) (hle : cs.length ≤ c.size) (hx : ex = true → rc = cap) (hc : cap ≤ rc) (hlc : len ≤ cap) (hz : rc * st ≤ c.size) :
    VRel S (upd m h.length (w.heap.size, 0, c.size)) w' (.sl h.length st 0 len cap ex) (.slice (some ⟨w.heap.size, 0, none⟩) len rc) ∧
    Rep S (upd m h.length (w.heap.size, 0, c.size)) (h ++ [.cells cs]) w' ∧ Stp S m h w S (upd m h.length (w.heap.size, 0, c.size)) (h ++ [.cells cs]) w' :=
  ⟨.sl (b := w.heap.size) (d := 0) upd_self hx hc hlc (by omega), rep_cells r lk hw hl hle (fun j _ => by omega)⟩
theorem w_mksl (hE : ∀ x y, compO x = some y → VRel S m w (ev y) (ρ x)) (r : Rep S m h w) {o : Oper} {ao v t a x h' lo} (ho : o.op = .makeSlice t a x) (hc : compOp P o = some ao) (hv : wOp ev h ao = some (v, h', lo)) : WGood P S m h w ρ o v h' := by
  simp only [compOp, ho] at hc
  split at hc <;> first | (cases hc; done) | skip
  rename_i e ht
  split at hc <;> first | (cases hc; done) | skip
  rename_i n z b l' c' he hl hcc
  cases hc
  obtain ⟨i, zv, hi, hz, h1, h2, h3, h4, h5, h6, h7⟩ := elem?_sound he
  simp only [wOp] at hv
  split at hv <;> first | (cases hv; done) | skip
  rename_i k1 l k2 c hl2 hc2
  split at hv <;> first | (cases hv; done) | skip
  rename_i hcond
  cases hv
  simp only [Bool.and_eq_true, decide_eq_true_eq] at hcond
  obtain ⟨⟨⟨hl0, hlc⟩, hby⟩, hmax⟩ := hcond
  have hL := h7 S m w
  have hll := hE _ _ hl
  have hxx := hE _ _ hcc
  rw [hl2] at hll
  rw [hc2] at hxx
  have hzs : zv.cells.size = n := by have := hL.1; simp at this; omega
  have hwl : IntKind.i64.wrap l = l := by simp only [IntKind.wrap, IntKind.bits, IntKind.signed]; simp only [Bool.true_and]; split <;> rename_i hh <;> simp at hh <;> omega
  have hwc : IntKind.i64.wrap c = c := by simp only [IntKind.wrap, IntKind.bits, IntKind.signed]; simp only [Bool.true_and]; split <;> rename_i hh <;> simp at hh <;> omega
  have hcl := flat_len z c.toNat
  have hLf : LRel S m w (List.replicate c.toNat z).flatten (List.replicate c.toNat zv.cells.toList).flatten := hL.flat _
  obtain ⟨arr, harr, harr2⟩ : ∃ arr : Array Value, arr.toList = (List.replicate c.toNat zv.cells.toList).flatten ∧ (Instr.makeSlice t (ρ a) (ρ x)).run P w = .ok (.slice (some ⟨w.heap.size, 0, none⟩) l.toNat c.toNat) (w.alloc (.cells arr e)) := by
    refine ⟨((Array.range (c.toNat * n)).map fun i => (if c.toNat * n = 0 then #[] else zv.cells)[i % (if c.toNat * n = 0 then #[] else zv.cells).size]!), ?_, ?_⟩
    · by_cases h0 : c.toNat * n = 0
      · have hc0 : c.toNat = 0 := by rcases Nat.mul_eq_zero.1 h0 with h | h <;> omega
        rw [hc0]; simp
      · rw [if_neg h0]; exact rep_flat hzs _
    · rw [vint hll, vint hxx]
      have c1 : ¬ (c < 0) := by omega
      have c2 : ¬ (i.bytes * c > 2 ^ 48) := by rw [h2]; omega
      have c3 : ¬ (l < 0) := by omega
      have c4 : ¬ (l > c) := by omega
      simp only [Instr.makeSlice, Sem.run_bind, und_run ht, Result.andThen_ok, asInt, asIntOf, Sem.run_pure, info_run hi, hwl, hwc]
      rw [if_neg (by simp [c1, c2, c3, c4]; omega)]
      simp only [Sem.run_bind, run_askRoom, Result.andThen_ok, sizeOf, info_run hi, Sem.run_pure, h1]
      by_cases h0 : c.toNat * n = 0
      · rw [if_pos h0, if_pos h0]
        simp only [Sem.run_bind, Sem.run_pure, Result.andThen_ok, newRow_run]
      · rw [if_neg h0, if_neg h0]
        simp only [Sem.run_bind, zero_run hi hz, Sem.run_pure, Result.andThen_ok, newRow_run]
  have hsz : arr.size = c.toNat * n := by rw [← Array.length_toList, harr, flat_len]; simp [hzs]
  have hcs : (List.replicate c.toNat z).flatten.length = c.toNat * n := by rw [hcl, h3]
  obtain ⟨a1, a2⟩ := new_sl (st := z.length) (len := l.toNat) (cap := c.toNat) (rc := c.toNat) (ex := true) (c := arr) (cs := (List.replicate c.toNat z).flatten) r e like_alloc rfl (by rw [harr, List.take_of_length_le (by rw [flat_len, hcs]; simp [hzs])]; exact hLf) (by omega) (fun _ => rfl) (Nat.le_refl _) (by omega) (by rw [hsz, h3]; exact Nat.le_refl _)
  exact WGood.of (s := Instr.makeSlice t (ρ a) (ρ x)) (by simp only [execOp, ho]) harr2 a1 a2
theorem w_buildSl (hE : ∀ x y, compO x = some y → VRel S m w (ev y) (ρ x)) (r : Rep S m h w) {o : Oper} {ao v t len ps h' lo} (ho : o.op = .buildSlice t len ps) (hc : compOp P o = some ao) (hv : wOp ev h ao = some (v, h', lo)) : WGood P S m h w ρ o v h' := by
  simp only [compOp, ho] at hc
  split at hc <;> first | (cases hc; done) | skip
  rename_i e ht
  split at hc <;> first | (cases hc; done) | skip
  rename_i n z b he
  rw [Option.map_eq_some_iff] at hc
  obtain ⟨l, hl, rfl⟩ := hc
  obtain ⟨i, zv, hi, hz, h1, h2, h3, h4, h5, h6, h7⟩ := elem?_sound he
  simp only [wOp] at hv
  split at hv <;> first | (cases hv; done) | skip
  rename_i hcond
  cases hv
  simp only [Bool.and_eq_true, decide_eq_true_eq] at hcond
  obtain ⟨⟨hall, hfill⟩, hmax⟩ := hcond
  have hL := h7 S m w
  have hzs : zv.cells.size = n := by have := hL.1; simp at this; omega
  have hcl := flat_len z len
  obtain ⟨hlen, hget⟩ := compL_get hl
  obtain ⟨arr, harr, harr2⟩ : ∃ arr : Array Value, arr.toList = (List.replicate len zv.cells.toList).flatten ∧ arr = ((Array.range (len * n)).map fun i => (if len * n = 0 then #[] else zv.cells)[i % (if len * n = 0 then #[] else zv.cells).size]!) := by
    refine ⟨_, ?_, rfl⟩
    by_cases h0 : len * n = 0
    · have hc0 : len = 0 := by rcases Nat.mul_eq_zero.1 h0 with h | h <;> omega
      rw [hc0]; simp
    · rw [if_neg h0]; exact rep_flat hzs _
  have hLf : LRel S m w (List.replicate len z).flatten arr.toList := by rw [harr]; exact hL.flat _
  obtain ⟨c, g1, g2⟩ := fill_sound (S := S) (m := m) (w := w) (fun j => some (j * n, n)) (l.map fun x => (x.1 * z.length, (ev x.2).cells)) (ps.toList.map fun x => (x.1, ρ x.2)) _ arr hfill hLf (by simp [hlen])
    (by
      intro k p q hp hq
      rw [List.getElem?_map, Option.map_eq_some_iff] at hp hq
      obtain ⟨⟨j, x⟩, hp1, rfl⟩ := hp
      obtain ⟨⟨j', y⟩, hq1, rfl⟩ := hq
      obtain ⟨y', hy1, hy2⟩ := hget k _ hq1
      rw [hp1] at hy2
      cases hy2
      simp only [Option.map_eq_some_iff] at hy1
      obtain ⟨x', hx1, hx2⟩ := hy1
      cases hx2
      have hk := (List.all_eq_true.1 hall) (j, x) (List.mem_of_getElem? hp1)
      simp only [beq_iff_eq] at hk
      have hx := hE _ _ hx1
      have hnd : ev x ≠ .dead := by intro hd; rw [hd] at hk; simp [AV.cells] at hk; omega
      exact ⟨n, by simp [h3], by show (ev x).cells.length = n; omega, hx.cells hnd⟩)
  have hgl := g2.1
  have hfl : ∀ (ps : List (Nat × List AV)) (z : List AV), goodFill z.length ps = true → (fillL z ps).length = z.length := by
    intro ps
    induction ps with
    | nil => intro z _; rfl
    | cons p r ih =>
      intro z hg
      obtain ⟨off, vs⟩ := p
      simp only [goodFill, Bool.and_eq_true, decide_eq_true_eq] at hg
      rw [fillL, ih _ (by rw [splice_len hg.1]; exact hg.2), splice_len hg.1]
  have hcs : (fillL (List.replicate len z).flatten (l.map fun x => (x.1 * z.length, (ev x.2).cells))).length = len * n := by rw [hfl _ _ hfill, hcl, h3]
  rw [hcs] at hgl
  simp only [Array.length_toList] at hgl
  obtain ⟨a1, a2⟩ := new_sl (st := z.length) (len := len) (cap := len) (rc := len) (ex := true) (c := c) (cs := fillL (List.replicate len z).flatten (l.map fun x => (x.1 * z.length, (ev x.2).cells))) r e like_alloc rfl (by rw [List.take_of_length_le (by rw [hcs]; simp; omega)]; exact g2) (by omega) (fun _ => rfl) (Nat.le_refl _) (Nat.le_refl _) (by rw [← h3]; omega)
  refine WGood.of (s := Instr.buildSlice t len (ps.map fun (i, x) => (i, ρ x))) (by simp only [execOp, ho]) ?_ a1 a2
  have c1 : ¬ (len * n > 2 ^ 24) := by rw [← h3] at hmax; omega
  simp only [Instr.buildSlice, Sem.run_bind, und_run ht, Result.andThen_ok, sizeOf, info_run hi, Sem.run_pure, h1]
  rw [if_neg c1]
  have key : ∀ q : Array Value, q = (if len * n = 0 then #[] else zv.cells) → (Instr.fill (fun i => some (i * n, n)) ((Array.range (len * n)).map fun i => q[i % q.size]!) (ps.map fun x => (x.1, ρ x.2)).toList) = some c := by
    intro q hq
    subst hq
    rw [← harr2, Array.toList_map]
    exact g1
  by_cases h0 : len * n = 0
  · rw [if_pos h0]
    simp only [Sem.run_bind, Sem.run_pure, Result.andThen_ok]
    rw [key #[] (by rw [if_pos h0])]
    simp [newRow_run]
  · rw [if_neg h0]
    simp only [Sem.run_bind, zero_run hi hz, Sem.run_pure, Result.andThen_ok]
    rw [key zv.cells (by rw [if_neg h0])]
    simp [newRow_run]
end
end Go.Proofs.YtlogcjaigjcmiaaGreat.AM

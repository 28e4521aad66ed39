/-
  THE ABSTRACT MACHINE: each operation that makes or writes memory (second part), and all of them at once: 'wOp_sound'.
-/
import Derived.Test.YtlogcjaigjcmiaaGreatAmL
import Derived.Laws.Append
set_option linter.unusedVariables false
set_option linter.unusedSimpArgs false
namespace Go.Proofs.YtlogcjaigjcmiaaGreat.AM
open Go

section
variable {P : Program} {S : Nat → Prop} {m : Emb} {h : List Blk} {w : World} {ρ : Operand → Value} {ev : AO → AV}

theorem w_mkmap (r : Rep S m h w) {o : Oper} {ao v t n h' lo} (ho : o.op = .makeMap t n) (hc : compOp P o = some ao) (hv : wOp ev h ao = some (v, h', lo)) : WGood P S m h w ρ o v h' := by
  cases n <;> simp only [compOp, ho] at hc <;> cases hc
  cases hv
  obtain ⟨a1, a2⟩ := rep_new (bl := .map []) r (w' := w.alloc (.map #[] 0)) like_alloc rfl 0 (by simp) fun S' m' w' h1 h2 h3 h4 => ⟨_, 0, #[], h1, h2, LRel.nil, LRel.nil, h4⟩
  refine WGood.of (s := Instr.makeMap t none) (by simp only [execOp, ho]; rfl) (x := .map (some w.heap.size)) ?_ (.map (z := 0) upd_self) ⟨a1, a2⟩
  simp only [Instr.makeMap, newObj, Sem.run_bind, Sem.run_pure, Result.andThen_ok]
  rfl
theorem push_modify (a : Array Obj) (x : Obj) (f : Obj → Obj) : (a.push x).modify a.size f = a.push (f x) := by
  apply Array.ext_getElem?
  intro i
  rw [Array.getElem?_modify, Array.getElem?_push, Array.getElem?_push]
  by_cases e : i = a.size
  · subst e; simp
  · rw [if_neg (fun h => e h.symm), if_neg e, if_neg e]
theorem w_s2b (hE : ∀ x y, compO x = some y → VRel S m w (ev y) (ρ x)) (r : Rep S m h w) {o : Oper} {ao v s d x h' lo} (ho : o.op = .convert s d x) (hc : compOp P o = some ao) (hv : wOp ev h ao = some (v, h', lo)) : WGood P S m h w ρ o v h' := by
  simp only [compOp, ho] at hc
  split at hc
  · cases hc; simp [wOp] at hv
  · cases hc; simp [wOp] at hv
  · rename_i e y hs hd hx
    split at hc <;> first | (cases hc; done) | skip
    rename_i he
    cases hc
    have hxx := hE _ _ hx
    simp only [wOp] at hv
    split at hv <;> first | (cases hv; done) | skip
    rename_i l hl
    cases hv
    rw [hl] at hxx
    obtain ⟨q, h1, rfl⟩ := vstr hxx
    have hsz : q.data.toList.length = q.size := by simp [ByteArray.size_data]
    obtain ⟨cap, hcapd⟩ : ∃ cap, cap = (Question.appendCap q.size 0 e).cut (w.tape w.drawn (.appendCap q.size 0 e)) := ⟨_, rfl⟩
    have hcap : q.size ≤ cap := by rw [hcapd]; simp only [Question.cut]; omega
    obtain ⟨c, hcd⟩ : ∃ c : Array Value, c = (q.data.map fun b => .int .u8 b.toNat) ++ Array.replicate (cap - q.size) (.int .u8 0) := ⟨_, rfl⟩
    have hcs : c.size = cap := by
      have : q.data.size = q.size := rfl
      simp [hcd]; omega
    have hL : LRel S m w (q.data.toList.map fun b => AV.int .u8 b.toNat) (c.toList.take (q.data.toList.map fun b => AV.int .u8 b.toNat).length) := by
      have e1 : c.toList.take (q.data.toList.map fun b => AV.int .u8 b.toNat).length = q.data.toList.map fun b => Value.int .u8 b.toNat := by
        simp only [hcd, Array.toList_append, Array.toList_map, List.length_map]
        rw [List.take_left' (by simp)]
      rw [e1]
      refine ⟨by simp, fun i hi => ?_⟩
      simp only [List.length_map] at hi
      simp only [List.getD_eq_getElem?_getD, List.getElem?_map, List.getElem?_eq_getElem hi, Option.map_some, Option.getD_some]
      exact .int
    have hw : (w.drew.alloc (.cells c e (c.size, c.size + 1))).heap = w.heap.push (.cells c e (c.size, c.size + 1)) := rfl
    obtain ⟨a1, a2⟩ := rep_cells (cs := q.data.toList.map fun b => AV.int .u8 b.toNat) (w' := w.drew.alloc (.cells c e (c.size, c.size + 1))) (c := c) (t := e) (fz := (c.size, c.size + 1)) r ⟨rfl, rfl, rfl⟩ hw hL (by simp; omega) (fun j hj => by omega)
    refine WGood.of (s := convert s d (ρ x)) (by simp only [execOp, ho]) (x := .slice (some ⟨w.heap.size, 0, none⟩) q.size cap) ?_ (by rw [hsz]; exact .sl (b := w.heap.size) (d := 0) upd_self (by simp) hcap (Nat.le_refl _) (by omega)) ⟨a1, a2⟩
    rw [h1]
    have hfreeze : ({ w.drew with heap := w.drew.heap.push (.cells c e) } : World).freeze ⟨w.heap.size, c.size, none⟩ 1 = w.drew.alloc (.cells c e (c.size, c.size + 1)) := by
      have hm := push_modify w.heap (.cells c e) (fun
        | .cells c' elem (lo, hi) => .cells c' elem (if lo == hi then (c.size, c.size + 1) else (min lo c.size, max hi (c.size + 1)))
        | o => o)
      unfold World.freeze
      rw [if_neg Nat.one_ne_zero]
      exact congrArg (fun (hp : Array Obj) => ({ w.drew with heap := hp } : World)) hm
    simp only [convert, Sem.run_bind, und_run hs, und_run hd, und_run he, Result.andThen_ok, Conv.stringToBytes, run_choose]
    rw [if_neg (by simp [Question.forced])]
    simp only [Result.andThen_ok, newRow, run_newObj, Sem.run_bind, Sem.run_pure, markStringish, run_shape]
    have hshape' : World.shape? { heap := w.heap.push (Obj.cells c e), tape := w.tape, drawn := w.drawn + 1, os := w.os, output := w.output } w.heap.size = some (e, c.size) := by unfold World.shape?; simp
    rw [← hcapd, ← hcd]
    simp only [hshape', run_freeze, Result.andThen_ok, Sem.run_pure]
    exact congrArg (Result.ok _) hfreeze
  · split at hc <;> first | (cases hc; done) | skip
    cases hc; simp [wOp] at hv
  · cases hc
theorem setObj_run {b : Nat} {en : Array MapEntry} {ck : Nat} {o : Obj} (hb : w.heap[b]? = some (.map en ck)) : (setObj b o).run P w = .ok () { w with heap := w.heap.setIfInBounds b o } := by simp [setObj, Sem.run, hb]
/-- A map's block, written. -/
theorem rep_map (r : Rep S m h w) {id : Nat} {es es' : List (AV × AV)} (hes : h[id]? = some (.map es)) {b ck : Nat} {en en' : Array MapEntry} {ck'} (hm : m id = some (b, 0, 0)) (hb : w.heap[b]? = some (.map en ck))
    (h1 : LRel S m w (es'.map (·.1)) (en'.toList.map (·.key))) (h2 : LRel S m w (es'.map (·.2)) (en'.toList.map (·.val))) :
    Rep S m (h.set id (.map es')) { w with heap := w.heap.setIfInBounds b (.map en' ck') } ∧ Stp S m h w S m (h.set id (.map es')) { w with heap := w.heap.setIfInBounds b (.map en' ck') } := by
  have hlt : b < w.heap.size := (Array.getElem?_eq_some_iff.1 hb).1
  refine rep_set (bl' := .map es') (w' := { w with heap := w.heap.setIfInBounds b (.map en' ck') }) r ⟨rfl, rfl, rfl⟩ hes (by simp) ⟨_, _, hm⟩ (fun k hk => by simp [Array.getElem?_setIfInBounds, Ne.symm hk]) (by simp) fun S' m' w'' g1 g2 g3 g4 => ?_
  exact ⟨b, ck', en', g1 _ hm, by rw [g2]; simp [Array.getElem?_setIfInBounds, hlt], ⟨h1.1, fun i hi => g3 _ _ (h1.2 i hi)⟩, ⟨h2.1, fun i hi => g3 _ _ (h2.2 i hi)⟩, g4⟩
theorem keyStays {kk : Nat} {k k' : AV} {x y : Value} (he : eq1 kk k k' = some true) (hx : VRel S m w k x) (hy : VRel S m w k' y) : (Instr.keyThatStays y x).run P w = .ok x w := by
  unfold Instr.keyThatStays
  have : Instr.sameBits 10000 y x = true := by
    unfold eq1 at he
    split at he
    · simp only [Option.some.injEq, beq_iff_eq] at he; subst he; rw [vbool hx, vbool hy]; simp [Instr.sameBits]
    · split at he
      · rename_i hk; subst hk; simp only [Option.some.injEq, beq_iff_eq] at he; subst he; rw [vint hx, vint hy]; simp [Instr.sameBits]
      · cases he
    · simp only [Option.some.injEq, bytesEq_eq, beq_iff_eq] at he
      obtain ⟨s, rfl, h1⟩ := vstr hx
      obtain ⟨s', rfl, h2⟩ := vstr hy
      have : s' = s := by
        cases s; cases s'
        congr 1
        apply Array.ext'
        rw [h1, h2, he]
      subst this
      simp only [Instr.sameBits, beq_toListBytes, beq_self_eq_true]
    · cases he
  rw [if_pos this]
  rfl
theorem w_mapUpd (hE : ∀ x y, compO x = some y → VRel S m w (ev y) (ρ x)) (r : Rep S m h w) {o : Oper} {ao v t x k u h' lo} (ho : o.op = .mapUpdate t x k u ∨ o.op = .insert t x k u) (hc : compOp P o = some ao) (hv : wOp ev h ao = some (v, h', lo)) : WGood P S m h w ρ o v h' := by
  have exe : execOp ρ o = (do Instr.mapUpdate t (ρ x) (ρ k) (ρ u); pure .skip) := by rcases ho with ho | ho <;> simp only [execOp, ho]
  have hc' : (match P.underlying t, compO x, compO k, compO u with
    | some (.map kt _), some m, some k, some v => (scalar? P kt).map fun kk => AOp.mapUpd kk m k v
    | _, _, _, _ => none) = some ao := by rcases ho with ho | ho <;> (simp only [compOp, ho] at hc; exact hc)
  split at hc' <;> first | (cases hc'; done) | skip
  rename_i kt e x' k' u' ht hx hk hu
  rw [Option.map_eq_some_iff] at hc'
  obtain ⟨kk, hkk, rfl⟩ := hc'
  have hxx := hE _ _ hx
  have hkx := hE _ _ hk
  have hux := hE _ _ hu
  simp only [wOp] at hv
  split at hv <;> first | (cases hv; done) | skip
  rename_i id hid
  split at hv <;> first | (cases hv; done) | skip
  rename_i es hes
  split at hv <;> first | (cases hv; done) | skip
  rename_i hkey
  rw [Option.map_eq_some_iff] at hv
  obtain ⟨res, hres, hv⟩ := hv
  rw [hid] at hxx
  obtain ⟨b, ck, en, g1, g2, g3, g4, g5⟩ := r.blk _ _ hes
  have hxv : ρ x = .map (some b) := by
    generalize ρ x = xv at hxx
    cases hxx with
    | map g => rw [g1] at g; cases g; rfl
  have hobj : (getObj b).run P w = .ok (.map en ck) w := by simp [getObj, Sem.run, g2]
  have hd : ∃ d, P.underlying kt = some d := by unfold scalar? at hkk; split at hkk <;> first | exact ⟨_, by assumption⟩ | cases hkk
  obtain ⟨d, hd⟩ := hd
  have hck : (Instr.checkKey false 10000 kt (ρ k)).run P w = .ok () w := checkKey_run hkk hkey hkx
  have hfk := findK_sound hd hkk hkx hkey es en.toList 0 res hres g3 g4
  cases res with
  | none =>
    cases hv
    have hf : (Instr.findKey kt (ρ k) en.toList).run P w = .ok none w := by simp [Instr.findKey, und_run hd, hfk]
    obtain ⟨a1, a2⟩ := rep_map (es' := es ++ [(ev k', ev u')]) (en' := en.push { key := ρ k, val := ρ u, born := ck }) (ck' := ck + 1) r hes g1 g2 (by simpa using g3.append (LRel.cons hkx LRel.nil)) (by simpa using g4.append (LRel.cons hux LRel.nil))
    refine ⟨.skip, undef, _, m, ?_, .inr ⟨rfl, rfl⟩, LRel.tup LRel.nil, a1, a2⟩
    rw [exe, hxv]
    simp only [Instr.mapUpdate, Sem.run_bind, und_run ht, Result.andThen_ok, hobj, hck, hf, setObj_run g2, Sem.run_pure]
  | some jv =>
    obtain ⟨j, va⟩ := jv
    cases hv
    obtain ⟨_, e', ev', k1, k2, k3, k4, k5⟩ := hfk
    rw [Nat.sub_zero] at k1 k2
    have hf : (Instr.findKey kt (ρ k) en.toList).run P w = .ok (some (j, e'.val)) w := by simp [Instr.findKey, und_run hd, k4]
    have hke : ((en[j]?).map (·.key)).getD (ρ k) = e'.key := by rw [← Array.getElem?_toList, k1]; rfl
    have hev' : VRel S m w ev' e'.key := by
      have := g3.2 j (by simpa using lt_of_get k2)
      simpa [List.getD_eq_getElem?_getD, k1, k2] using this
    have hst := keyStays (P := P) k3 hkx hev'
    have e1 : (en.modify j fun e => { e with key := ρ k, val := ρ u }).toList.map (·.key) = (en.toList.map (·.key)).set j (ρ k) := by
      rw [Array.toList_modify, List.modify_eq_set, List.map_set]
    have e2 : (en.modify j fun e => { e with key := ρ k, val := ρ u }).toList.map (·.val) = (en.toList.map (·.val)).set j (ρ u) := by
      rw [Array.toList_modify, List.modify_eq_set, List.map_set]
    obtain ⟨a1, a2⟩ := rep_map (es' := es.set j (ev k', ev u')) (en' := en.modify j fun e => { e with key := ρ k, val := ρ u }) (ck' := ck) r hes g1 g2 (by rw [e1, List.map_set]; exact g3.set j hkx) (by rw [e2, List.map_set]; exact g4.set j hux)
    refine ⟨.skip, undef, _, m, ?_, .inr ⟨rfl, rfl⟩, LRel.tup LRel.nil, a1, a2⟩
    rw [exe, hxv]
    simp only [Instr.mapUpdate, Sem.run_bind, und_run ht, Result.andThen_ok, hobj, hck, hf, hke, hst, setObj_run g2, Sem.run_pure]
theorem map_erase {α β : Type} (f : α → β) (l : List α) (i : Nat) : (l.eraseIdx i).map f = (l.map f).eraseIdx i := by
  rw [List.eraseIdx_eq_take_drop_succ, List.eraseIdx_eq_take_drop_succ, List.map_append, List.map_take, List.map_drop]
theorem lrel_erase {a : List AV} {x : List Value} (hL : LRel S m w a x) (i : Nat) : LRel S m w (a.eraseIdx i) (x.eraseIdx i) := by
  rw [List.eraseIdx_eq_take_drop_succ, List.eraseIdx_eq_take_drop_succ]
  exact (hL.take i).append (hL.drop (i + 1))
theorem w_del (hE : ∀ x y, compO x = some y → VRel S m w (ev y) (ρ x)) (r : Rep S m h w) {o : Oper} {ao v args ats h' lo} (ho : o.op = .call { callee := .builtin .delete, args, argTypes := ats }) (hc : compOp P o = some ao) (hv : wOp ev h ao = some (v, h', lo)) : WGood P S m h w ρ o v h' := by
  simp only [compOp, ho] at hc
  split at hc
  case h_4 t ts x' k' hb0 hat hl =>
    split at hc <;> first | (cases hc; done) | skip
    rename_i kt e ht
    rw [Option.map_eq_some_iff] at hc
    obtain ⟨kk, hkk, rfl⟩ := hc
    have hL := compL_sound (l := args.toList) hE hl
    have exe : execOp ρ o = (do pure (.value (← Builtin.delete_ ats o.type (args.map ρ)))) := by rw [exe_builtin ho]; rfl
    obtain ⟨xv, r1, h1, hxx, h3⟩ := hL.head
    obtain ⟨kv, r2, h4, hkx, h5⟩ := h3.head
    have hat0 : ats[0]? = some t := by rw [← Array.getElem?_toList, hat]; rfl
    have harg0 : (args.map ρ)[0]? = some xv := by rw [← Array.getElem?_toList, Array.toList_map, h1]; rfl
    have harg1 : (args.map ρ)[1]? = some kv := by rw [← Array.getElem?_toList, Array.toList_map, h1, h4]; rfl
    have hd : ∃ d, P.underlying kt = some d := by unfold scalar? at hkk; split at hkk <;> first | exact ⟨_, by assumption⟩ | cases hkk
    obtain ⟨d, hd⟩ := hd
    simp only [wOp] at hv
    split at hv <;> first | (cases hv; done) | skip
    rename_i hkey
    have hck : ∀ b, (Instr.checkKey b 10000 kt kv).run P w = .ok () w := fun b => checkKey_run hkk hkey hkx
    split at hv <;> first | (cases hv; done) | skip
    · rename_i hid
      cases hv
      rw [hid] at hxx
      cases hxx
      refine WGood.of exe (x := .tuple #[]) ?_ (LRel.tup LRel.nil) ⟨r, Stp.refl ..⟩
      unfold Builtin.delete_
      simp only [hat0, harg0, harg1, Sem.run_bind, und_run ht, Result.andThen_ok, hck, Sem.run_pure]
    · rename_i id hid
      split at hv <;> first | (cases hv; done) | skip
      rename_i es hes
      rw [Option.map_eq_some_iff] at hv
      obtain ⟨res, hres, hv⟩ := hv
      rw [hid] at hxx
      obtain ⟨b, ck, en, g1, g2, g3, g4, g5⟩ := r.blk _ _ hes
      cases hxx with
      | map g =>
      rw [g1] at g; cases g
      have hobj : (getObj b).run P w = .ok (.map en ck) w := by simp [getObj, Sem.run, g2]
      have hfk := findK_sound hd hkk hkx hkey es en.toList 0 res hres g3 g4
      cases res with
      | none =>
        cases hv
        have hf : (Instr.findKey kt kv en.toList).run P w = .ok none w := by simp [Instr.findKey, und_run hd, hfk]
        have hlt : b < w.heap.size := (Array.getElem?_eq_some_iff.1 g2).1
        have hsame : w.heap.setIfInBounds b (.map en ck) = w.heap := by
          apply Array.ext_getElem?
          intro i
          rw [Array.getElem?_setIfInBounds]
          split
          · rename_i e; subst e; rw [g2]
          · rfl
        refine WGood.of exe (x := .tuple #[]) (w' := w) ?_ (LRel.tup LRel.nil) ⟨r, Stp.refl ..⟩
        unfold Builtin.delete_
        simp only [hat0, harg0, harg1, Sem.run_bind, und_run ht, Result.andThen_ok, hck, hobj, hf, setObj_run g2, Sem.run_pure, hsame]
      | some jv =>
        obtain ⟨j, va⟩ := jv
        cases hv
        obtain ⟨_, e', ev', k1, k2, k3, k4, k5⟩ := hfk
        rw [Nat.sub_zero] at k1 k2
        have hf : (Instr.findKey kt kv en.toList).run P w = .ok (some (j, e'.val)) w := by simp [Instr.findKey, und_run hd, k4]
        have el : (en.eraseIdxIfInBounds j).toList = en.toList.eraseIdx j := by
          unfold Array.eraseIdxIfInBounds
          have := lt_of_get k1
          rw [dif_pos (by simpa using this)]
          simp
        obtain ⟨a1, a2⟩ := rep_map (es' := es.eraseIdx j) (en' := en.eraseIdxIfInBounds j) (ck' := ck) r hes g1 g2 (by rw [el, map_erase, map_erase]; exact lrel_erase g3 j) (by rw [el, map_erase, map_erase]; exact lrel_erase g4 j)
        refine WGood.of exe (x := .tuple #[]) ?_ (LRel.tup LRel.nil) ⟨a1, a2⟩
        unfold Builtin.delete_
        simp only [hat0, harg0, harg1, Sem.run_bind, und_run ht, Result.andThen_ok, hck, hobj, hf, setObj_run g2, Sem.run_pure]
  all_goals first | contradiction | (cases hc; done)
end
end Go.Proofs.YtlogcjaigjcmiaaGreat.AM

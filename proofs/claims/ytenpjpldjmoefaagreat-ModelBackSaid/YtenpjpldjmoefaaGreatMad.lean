/-
  'gauger's law ModelBack holds of every input: it returns true, and each argument reads behind the call as it read before.
  This text: part 4 of 22 of the proof (AmM, AmN, AmO, AmP, AmQ, AmR, AmS).
-/
import Derived.Test.YtenpjpldjmoefaaGreatMac
import Derived.Laws.Append
import Derived.Calls
import Derived.Test.YtenpjpldjmoefaaGreatMaa
set_option linter.unusedVariables false
set_option linter.unusedSimpArgs false
namespace Go.Proofs.YtenpjpldjmoefaaGreat.AM
open Go
section
variable {P : Program} {S : Nat → Prop} {m : Emb} {h : List Blk} {w : World} {ρ : Operand → Value} {ev : AO → AV}
theorem w_mkmap (r : Rep S m h w) {o : Oper} {ao v t n h' lo} (ho : o.op = .makeMap t n) (hc : compOp P o = some ao) (hv : wOp ev h ao = some (v, h', lo)) : WGood P S m h w ρ o v h' := by
 cases n <;> simp only [compOp, ho] at hc <;> cases hc
 cases hv
 obtain ⟨a1, a2⟩ := rep_new (bl := .map []) r (w' := w.alloc (.map #[] 0)) like_alloc rfl 0 (by simp) fun S' m' w' h1 h2 h3 h4 => ⟨_, 0, #[], h1, h2, LRel.nil, LRel.nil, h4, by simp [BornOk]⟩
 refine WGood.of (s := Instr.makeMap t none) (by simp only [execOp, ho]; rfl) (x := .map (some w.heap.size)) ?_ (.map (z := 0) upd_self) ⟨a1, a2⟩
 simp only [Instr.makeMap, newObj, Sem.run_bind, Sem.run_pure, Result.andThen_ok]
 rfl
theorem push_modify (a : Array Obj) (x : Obj) (f : Obj → Obj) : (a.push x).modify a.size f = a.push (f x) := by
 apply Array.ext_getElem?
 intro i
 rw [Array.getElem?_modify, Array.getElem?_push, Array.getElem?_push]
 by_cases e : i = a.size
 ·subst e; simp
 ·rw [if_neg (fun h => e h.symm), if_neg e, if_neg e]
theorem w_s2b (hE : ∀ x y, compO x = some y → VRel S m w (ev y) (ρ x)) (r : Rep S m h w) {o : Oper} {ao v s d x h' lo} (ho : o.op = .convert s d x) (hc : compOp P o = some ao) (hv : wOp ev h ao = some (v, h', lo)) : WGood P S m h w ρ o v h' := by
 simp only [compOp, ho] at hc
 split at hc
 ·cases hc; simp [wOp] at hv
 ·cases hc; simp [wOp] at hv
 ·rename_i e y hs hd hx
  split at hc <;> first | (cases hc; done) | skip
  rename_i he
  cases hc
  have hxx := hE _ _ hx
  simp only [wOp] at hv
  split at hv <;> first | (cases hv; done) | skip
  rename_i l hl
  cases hv
  rw [hl] at hxx
  obtain ⟨q, h1, rfl⟩ := vstr hxx
  have hsz : q.data.toList.length = q.size := by simp [ByteArray.size_data]
  obtain ⟨cap, hcapd⟩ : ∃ cap, cap = (Question.appendCap q.size 0 e).cut (w.tape w.drawn (.appendCap q.size 0 e)) := ⟨_, rfl⟩
  have hcap : q.size ≤ cap := by rw [hcapd]; simp only [Question.cut]; omega
  obtain ⟨c, hcd⟩ : ∃ c : Array Value, c = (q.data.map fun b => .int .u8 b.toNat) ++ Array.replicate (cap - q.size) (.int .u8 0) := ⟨_, rfl⟩
  have hcs : c.size = cap := by
   have : q.data.size = q.size := rfl
   simp [hcd]; omega
  have hw : (w.drew.alloc (.cells c e (c.size, c.size + 1))).heap = w.heap.push (.cells c e (c.size, c.size + 1)) := rfl
  have hbw : ∀ b, b < w.heap.size → (w.drew.alloc (.cells c e (c.size, c.size + 1))).heap[b]? = w.heap[b]? := fun b hb => by rw [hw, Array.getElem?_push, if_neg (by omega)]
  have hkp : Kp S m w (fun b => S b ∨ b = w.heap.size) m (w.drew.alloc (.cells c e (c.size, c.size + 1))) := ⟨fun _ h => .inl h, fun b hb => hbw b (r.sb b hb), fun _ _ h => h⟩
  have a12 : Rep (fun b => S b ∨ b = w.heap.size) m h (w.drew.alloc (.cells c e (c.size, c.size + 1))) ∧ Stp S m h w (fun b => S b ∨ b = w.heap.size) m h (w.drew.alloc (.cells c e (c.size, c.size + 1))) := by
   refine ⟨⟨?_, r.dom, ?_, r.inj⟩, ⟨fun _ h => .inl h, fun _ _ h => h, rfl, rfl, rfl, by rw [hw]; simp, Nat.le_refl _, fun b hb _ => hbw b hb, fun id b ho _ => ⟨id, ho⟩, fun b hb => hb.imp id fun h => .inl (by omega)⟩⟩
   ·rintro b (hb | rfl)
    ·have := r.sb b hb; rw [hw]; simp; omega
    ·rw [hw]; simp
   ·intro id bl hb
    refine (r.blk id bl hb).keep r hkp fun b hm hg => ?_
    have ho : owns h m id b := ⟨hm, bl, hb, hg⟩
    refine ⟨hbw b (owns_lt r ho), ?_⟩
    rintro (hS | rfl)
    ·exact owns_not_S r ho hS
    ·have := owns_lt r ho; omega
  have hml : (q.data.toList.map fun b => AV.int .u8 b.toNat).length = q.size := by rw [List.length_map]; exact hsz
  have hel : ∀ i (hi2 : i < q.data.size), (q.data.toList.map fun b => AV.int .u8 b.toNat).getD i .dead = .int .u8 (q.data[i]).toNat := fun i hi2 => by
   rw [List.getD_eq_getElem?_getD, List.getElem?_map, Array.getElem?_toList, Array.getElem?_eq_getElem hi2]
   rfl
  have hrel : VRel (fun b => S b ∨ b = w.heap.size) m (w.drew.alloc (.cells c e (c.size, c.size + 1))) (.ro (q.data.toList.map fun b => AV.int .u8 b.toNat) 1 false) (.slice (some ⟨w.heap.size, 0, none⟩) q.size cap) := by
   have := VRel.ro (S := fun b => S b ∨ b = w.heap.size) (m := m) (w := w.drew.alloc (.cells c e (c.size, c.size + 1))) (es := q.data.toList.map fun b => AV.int .u8 b.toNat) (st := 1) (ex := false) (b := w.heap.size) (d := 0) (rc := cap) (fun i _ => (c[i]?).getD undef) (.inr rfl) (fun i j hi hj => by
    rw [hml] at hi
    have hj0 : j = 0 := by omega
    subst hj0
    have hic : i < c.size := by omega
    simp [World.cell?, hw, hic]) (fun i hi => by
    rw [hel i (by simpa using hi)]
    rfl) (fun i j hi hj => by
    have hj0 : j = 0 := by omega
    subst hj0
    rw [List.length_map] at hi
    have hi2 : i < q.data.size := by simpa using hi
    have e1 : c[i]? = some (.int .u8 (q.data[i]).toNat) := by
     rw [hcd, Array.getElem?_append_left (by simp; exact hi2), Array.getElem?_map, Array.getElem?_eq_getElem hi2]
     rfl
    simp only [e1, Option.getD_some]
    rw [hel i hi2]
    exact .int) (fun h => by cases h) (by rw [hml]; exact hcap)
   rw [hml] at this
   exact this
  refine WGood.of (s := convert s d (ρ x)) (by simp only [execOp, ho]) (x := .slice (some ⟨w.heap.size, 0, none⟩) q.size cap) ?_ hrel a12
  rw [h1]
  have hfreeze : ({ w.drew with heap := w.drew.heap.push (.cells c e) } : World).freeze ⟨w.heap.size, c.size, none⟩ 1 = w.drew.alloc (.cells c e (c.size, c.size + 1)) := by
   have hm := push_modify w.heap (.cells c e) (fun
    | .cells c' elem (lo, hi) => .cells c' elem (if lo == hi then (c.size, c.size + 1) else (min lo c.size, max hi (c.size + 1)))
    | o => o)
   unfold World.freeze
   rw [if_neg Nat.one_ne_zero]
   exact congrArg (fun (hp : Array Obj) => ({ w.drew with heap := hp } : World)) hm
  simp only [convert, Sem.run_bind, und_run hs, und_run hd, und_run he, Result.andThen_ok, Conv.stringToBytes, run_choose]
  rw [if_neg (by simp [Question.forced])]
  simp only [Result.andThen_ok, newRow, run_newObj, Sem.run_bind, Sem.run_pure, markStringish, run_shape]
  have hshape' : World.shape? { heap := w.heap.push (Obj.cells c e), tape := w.tape, drawn := w.drawn + 1, os := w.os, output := w.output } w.heap.size = some (e, c.size) := by unfold World.shape?; simp
  rw [← hcapd, ← hcd]
  simp only [hshape', run_freeze, Result.andThen_ok, Sem.run_pure]
  exact congrArg (Result.ok _) hfreeze
 ·split at hc <;> first | (cases hc; done) | skip
  cases hc; simp [wOp] at hv
 ·cases hc
theorem setObj_run {b : Nat} {en : Array MapEntry} {ck : Nat} {o : Obj} (hb : w.heap[b]? = some (.map en ck)) : (setObj b o).run P w = .ok () { w with heap := w.heap.setIfInBounds b o } := by simp [setObj, Sem.run, hb]
theorem born_push {en : Array MapEntry} {ck : Nat} {k u : Value} (h : BornOk en ck) : BornOk (en.push { key := k, val := u, born := ck }) (ck + 1) := by
 obtain ⟨h1, h2⟩ := h
 refine ⟨?_, fun x hx => ?_⟩
 ·rw [Array.toList_push, List.map_append, List.nodup_append]
  refine ⟨h1, by simp, fun a ha b hb => ?_⟩
  obtain ⟨x, hx, rfl⟩ := List.mem_map.1 ha
  simp at hb
  subst hb
  have := h2 x hx
  omega
 ·rw [Array.toList_push] at hx
  rcases List.mem_append.1 hx with hx | hx
  ·have := h2 x hx; omega
  ·simp at hx; subst hx; simp
theorem born_modify {en : Array MapEntry} {ck j : Nat} {k u : Value} (h : BornOk en ck) : BornOk (en.modify j fun e => { e with key := k, val := u }) ck := by
 have e1 : (en.modify j fun e => { e with key := k, val := u }).toList.map (·.born) = en.toList.map (·.born) := by
  apply List.ext_getElem?
  intro i
  rw [Array.toList_modify, List.getElem?_map, List.getElem?_map, List.getElem?_modify]
  cases en.toList[i]? with
  | none => rfl
  | some x => simp; split <;> rfl
 obtain ⟨h1, h2⟩ := h
 refine ⟨by rw [e1]; exact h1, fun x hx => ?_⟩
 have hx' : x.born ∈ (en.modify j fun e => { e with key := k, val := u }).toList.map (·.born) := List.mem_map.2 ⟨x, hx, rfl⟩
 rw [e1] at hx'
 obtain ⟨y, hy, e⟩ := List.mem_map.1 hx'
 rw [← e]
 exact h2 y hy
theorem born_erase {en en' : Array MapEntry} {ck j : Nat} (el : en'.toList = en.toList.eraseIdx j) (h : BornOk en ck) : BornOk en' ck := by
 obtain ⟨h1, h2⟩ := h
 refine ⟨?_, fun x hx => h2 x ?_⟩
 ·rw [el]
  exact (h1.sublist ((List.eraseIdx_sublist en.toList j).map _))
 ·rw [el] at hx
  exact (List.eraseIdx_sublist en.toList j).subset hx
theorem rep_map (r : Rep S m h w) {id : Nat} {es es' : List (AV × AV)} (hes : h[id]? = some (.map es)) {b ck : Nat} {en en' : Array MapEntry} {ck'} (hm : m id = some (b, 0, 0)) (hb : w.heap[b]? = some (.map en ck))
  (h1 : LRel S m w (es'.map (·.1)) (en'.toList.map (·.key))) (h2 : LRel S m w (es'.map (·.2)) (en'.toList.map (·.val))) (hbo : BornOk en' ck') :
  Rep S m (h.set id (.map es')) { w with heap := w.heap.setIfInBounds b (.map en' ck') } ∧ Stp S m h w S m (h.set id (.map es')) { w with heap := w.heap.setIfInBounds b (.map en' ck') } := by
 have hlt : b < w.heap.size := (Array.getElem?_eq_some_iff.1 hb).1
 refine rep_set (bl' := .map es') (w' := { w with heap := w.heap.setIfInBounds b (.map en' ck') }) r ⟨rfl, rfl, rfl⟩ hes (by simp) ⟨_, _, hm⟩ (fun k hk => by simp [Array.getElem?_setIfInBounds, Ne.symm hk]) (by simp) fun S' m' w'' g1 g2 g3 g4 => ?_
 exact ⟨b, ck', en', g1 _ hm, by rw [g2]; simp [Array.getElem?_setIfInBounds, hlt], ⟨h1.1, fun i hi => g3 _ _ (h1.2 i hi)⟩, ⟨h2.1, fun i hi => g3 _ _ (h2.2 i hi)⟩, g4, hbo⟩
theorem keyStays {kk : Nat} {k k' : AV} {x y : Value} (he : eq1 kk k k' = some true) (hx : VRel S m w k x) (hy : VRel S m w k' y) : (Instr.keyThatStays y x).run P w = .ok x w := by
 unfold Instr.keyThatStays
 have : Instr.sameBits 10000 y x = true := by
  unfold eq1 at he
  split at he
  ·simp only [Option.some.injEq, beq_iff_eq] at he; subst he; rw [vbool hx, vbool hy]; simp [Instr.sameBits]
  ·split at he
   ·rename_i hk; subst hk; simp only [Option.some.injEq, beq_iff_eq] at he; subst he; rw [vint hx, vint hy]; simp [Instr.sameBits]
   ·cases he
  ·simp only [Option.some.injEq, bytesEq_eq, beq_iff_eq] at he
   obtain ⟨s, rfl, h1⟩ := vstr hx
   obtain ⟨s', rfl, h2⟩ := vstr hy
   have : s' = s := by
    cases s; cases s'
    congr 1
    apply Array.ext'
    rw [h1, h2, he]
   subst this
   simp only [Instr.sameBits, beq_toListBytes, beq_self_eq_true]
  ·cases he
 rw [if_pos this]
 rfl
theorem w_mapUpd (hE : ∀ x y, compO x = some y → VRel S m w (ev y) (ρ x)) (r : Rep S m h w) {o : Oper} {ao v t x k u h' lo} (ho : o.op = .mapUpdate t x k u ∨ o.op = .insert t x k u) (hc : compOp P o = some ao) (hv : wOp ev h ao = some (v, h', lo)) : WGood P S m h w ρ o v h' := by
 have exe : execOp ρ o = (do Instr.mapUpdate t (ρ x) (ρ k) (ρ u); pure .skip) := by rcases ho with ho | ho <;> simp only [execOp, ho]
 have hc' : (match P.underlying t, compO x, compO k, compO u with
  | some (.map kt _), some m, some k, some v => (scalar? P kt).map fun kk => AOp.mapUpd kk m k v
  | _, _, _, _ => none) = some ao := by rcases ho with ho | ho <;> (simp only [compOp, ho] at hc; exact hc)
 split at hc' <;> first | (cases hc'; done) | skip
 rename_i kt e x' k' u' ht hx hk hu
 rw [Option.map_eq_some_iff] at hc'
 obtain ⟨kk, hkk, rfl⟩ := hc'
 have hxx := hE _ _ hx
 have hkx := hE _ _ hk
 have hux := hE _ _ hu
 simp only [wOp] at hv
 split at hv <;> first | (cases hv; done) | skip
 rename_i id hid
 split at hv <;> first | (cases hv; done) | skip
 rename_i es hes
 split at hv <;> first | (cases hv; done) | skip
 rename_i hkey
 rw [Option.map_eq_some_iff] at hv
 obtain ⟨res, hres, hv⟩ := hv
 rw [hid] at hxx
 obtain ⟨b, ck, en, g1, g2, g3, g4, g5⟩ := r.blk _ _ hes
 have hxv : ρ x = .map (some b) := by
  generalize ρ x = xv at hxx
  cases hxx with
  | map g => rw [g1] at g; cases g; rfl
 have hobj : (getObj b).run P w = .ok (.map en ck) w := by simp [getObj, Sem.run, g2]
 have hd : ∃ d, P.underlying kt = some d := by unfold scalar? at hkk; split at hkk <;> first | exact ⟨_, by assumption⟩ | cases hkk
 obtain ⟨d, hd⟩ := hd
 have hck : (Instr.checkKey false 10000 kt (ρ k)).run P w = .ok () w := checkKey_run hkk hkey hkx
 have hfk := findK_sound hd hkk hkx hkey es en.toList 0 res hres g3 g4
 cases res with
 | none =>
  cases hv
  have hf : (Instr.findKey kt (ρ k) en.toList).run P w = .ok none w := by simp [Instr.findKey, und_run hd, hfk]
  obtain ⟨a1, a2⟩ := rep_map (es' := es ++ [(ev k', ev u')]) (en' := en.push { key := ρ k, val := ρ u, born := ck }) (ck' := ck + 1) r hes g1 g2 (by simpa using g3.append (LRel.cons hkx LRel.nil)) (by simpa using g4.append (LRel.cons hux LRel.nil)) (born_push g5.2)
  refine ⟨.skip, undef, _, m, S, ?_, .inr ⟨rfl, rfl⟩, LRel.tup LRel.nil, a1, a2⟩
  rw [exe, hxv]
  simp only [Instr.mapUpdate, Sem.run_bind, und_run ht, Result.andThen_ok, hobj, hck, hf, setObj_run g2, Sem.run_pure]
 | some jv =>
  obtain ⟨j, va⟩ := jv
  cases hv
  obtain ⟨_, e', ev', k1, k2, k3, k4, k5⟩ := hfk
  rw [Nat.sub_zero] at k1 k2
  have hf : (Instr.findKey kt (ρ k) en.toList).run P w = .ok (some (j, e'.val)) w := by simp [Instr.findKey, und_run hd, k4]
  have hke : ((en[j]?).map (·.key)).getD (ρ k) = e'.key := by rw [← Array.getElem?_toList, k1]; rfl
  have hev' : VRel S m w ev' e'.key := by
   have := g3.2 j (by simpa using lt_of_get k2)
   simpa [List.getD_eq_getElem?_getD, k1, k2] using this
  have hst := keyStays (P := P) k3 hkx hev'
  have e1 : (en.modify j fun e => { e with key := ρ k, val := ρ u }).toList.map (·.key) = (en.toList.map (·.key)).set j (ρ k) := by
   rw [Array.toList_modify, List.modify_eq_set, List.map_set]
  have e2 : (en.modify j fun e => { e with key := ρ k, val := ρ u }).toList.map (·.val) = (en.toList.map (·.val)).set j (ρ u) := by
   rw [Array.toList_modify, List.modify_eq_set, List.map_set]
  obtain ⟨a1, a2⟩ := rep_map (es' := es.set j (ev k', ev u')) (en' := en.modify j fun e => { e with key := ρ k, val := ρ u }) (ck' := ck) r hes g1 g2 (by rw [e1, List.map_set]; exact g3.set j hkx) (by rw [e2, List.map_set]; exact g4.set j hux) (born_modify g5.2)
  refine ⟨.skip, undef, _, m, S, ?_, .inr ⟨rfl, rfl⟩, LRel.tup LRel.nil, a1, a2⟩
  rw [exe, hxv]
  simp only [Instr.mapUpdate, Sem.run_bind, und_run ht, Result.andThen_ok, hobj, hck, hf, hke, hst, setObj_run g2, Sem.run_pure]
theorem map_erase {α β : Type} (f : α → β) (l : List α) (i : Nat) : (l.eraseIdx i).map f = (l.map f).eraseIdx i := by
 rw [List.eraseIdx_eq_take_drop_succ, List.eraseIdx_eq_take_drop_succ, List.map_append, List.map_take, List.map_drop]
theorem lrel_erase {a : List AV} {x : List Value} (hL : LRel S m w a x) (i : Nat) : LRel S m w (a.eraseIdx i) (x.eraseIdx i) := by
 rw [List.eraseIdx_eq_take_drop_succ, List.eraseIdx_eq_take_drop_succ]
 exact (hL.take i).append (hL.drop (i + 1))
theorem w_del (hE : ∀ x y, compO x = some y → VRel S m w (ev y) (ρ x)) (r : Rep S m h w) {o : Oper} {ao v args ats h' lo} (ho : o.op = .call { callee := .builtin .delete, args, argTypes := ats }) (hc : compOp P o = some ao) (hv : wOp ev h ao = some (v, h', lo)) : WGood P S m h w ρ o v h' := by
 simp only [compOp, ho] at hc
 split at hc
 case h_4 t ts x' k' hb0 hat hl =>
  split at hc <;> first | (cases hc; done) | skip
  rename_i kt e ht
  rw [Option.map_eq_some_iff] at hc
  obtain ⟨kk, hkk, rfl⟩ := hc
  have hL := compL_sound (l := args.toList) hE hl
  have exe : execOp ρ o = (do pure (.value (← Builtin.delete_ ats o.type (args.map ρ)))) := by rw [exe_builtin ho]; rfl
  obtain ⟨xv, r1, h1, hxx, h3⟩ := hL.head
  obtain ⟨kv, r2, h4, hkx, h5⟩ := h3.head
  have hat0 : ats[0]? = some t := by rw [← Array.getElem?_toList, hat]; rfl
  have harg0 : (args.map ρ)[0]? = some xv := by rw [← Array.getElem?_toList, Array.toList_map, h1]; rfl
  have harg1 : (args.map ρ)[1]? = some kv := by rw [← Array.getElem?_toList, Array.toList_map, h1, h4]; rfl
  have hd : ∃ d, P.underlying kt = some d := by unfold scalar? at hkk; split at hkk <;> first | exact ⟨_, by assumption⟩ | cases hkk
  obtain ⟨d, hd⟩ := hd
  simp only [wOp] at hv
  split at hv <;> first | (cases hv; done) | skip
  rename_i hkey
  have hck : ∀ b, (Instr.checkKey b 10000 kt kv).run P w = .ok () w := fun b => checkKey_run hkk hkey hkx
  split at hv <;> first | (cases hv; done) | skip
  ·rename_i hid
   cases hv
   rw [hid] at hxx
   cases hxx
   refine WGood.of exe (x := .tuple #[]) ?_ (LRel.tup LRel.nil) ⟨r, Stp.refl ..⟩
   unfold Builtin.delete_
   simp only [hat0, harg0, harg1, Sem.run_bind, und_run ht, Result.andThen_ok, hck, Sem.run_pure]
  ·rename_i id hid
   split at hv <;> first | (cases hv; done) | skip
   rename_i es hes
   rw [Option.map_eq_some_iff] at hv
   obtain ⟨res, hres, hv⟩ := hv
   rw [hid] at hxx
   obtain ⟨b, ck, en, g1, g2, g3, g4, g5⟩ := r.blk _ _ hes
   cases hxx with
   | map g =>
   rw [g1] at g; cases g
   have hobj : (getObj b).run P w = .ok (.map en ck) w := by simp [getObj, Sem.run, g2]
   have hfk := findK_sound hd hkk hkx hkey es en.toList 0 res hres g3 g4
   cases res with
   | none =>
    cases hv
    have hf : (Instr.findKey kt kv en.toList).run P w = .ok none w := by simp [Instr.findKey, und_run hd, hfk]
    have hlt : b < w.heap.size := (Array.getElem?_eq_some_iff.1 g2).1
    have hsame : w.heap.setIfInBounds b (.map en ck) = w.heap := by
     apply Array.ext_getElem?
     intro i
     rw [Array.getElem?_setIfInBounds]
     split
     ·rename_i e; subst e; rw [g2]
     ·rfl
    refine WGood.of exe (x := .tuple #[]) (w' := w) ?_ (LRel.tup LRel.nil) ⟨r, Stp.refl ..⟩
    unfold Builtin.delete_
    simp only [hat0, harg0, harg1, Sem.run_bind, und_run ht, Result.andThen_ok, hck, hobj, hf, setObj_run g2, Sem.run_pure, hsame]
   | some jv =>
    obtain ⟨j, va⟩ := jv
    cases hv
    obtain ⟨_, e', ev', k1, k2, k3, k4, k5⟩ := hfk
    rw [Nat.sub_zero] at k1 k2
    have hf : (Instr.findKey kt kv en.toList).run P w = .ok (some (j, e'.val)) w := by simp [Instr.findKey, und_run hd, k4]
    have el : (en.eraseIdxIfInBounds j).toList = en.toList.eraseIdx j := by
     unfold Array.eraseIdxIfInBounds
     have := lt_of_get k1
     rw [dif_pos (by simpa using this)]
     simp
    obtain ⟨a1, a2⟩ := rep_map (es' := es.eraseIdx j) (en' := en.eraseIdxIfInBounds j) (ck' := ck) r hes g1 g2 (by rw [el, map_erase, map_erase]; exact lrel_erase g3 j) (by rw [el, map_erase, map_erase]; exact lrel_erase g4 j) (born_erase el g5.2)
    refine WGood.of exe (x := .tuple #[]) ?_ (LRel.tup LRel.nil) ⟨a1, a2⟩
    unfold Builtin.delete_
    simp only [hat0, harg0, harg1, Sem.run_bind, und_run ht, Result.andThen_ok, hck, hobj, hf, setObj_run g2, Sem.run_pure]
 all_goals first | contradiction | (cases hc; done)
end
open Go
section
variable {P : Program} {S : Nat → Prop} {m : Emb} {h : List Blk} {w : World} {ρ : Operand → Value} {ev : AO → AV}
theorem first_sound (r : Rep S m h w) {st : Nat} {a : AV} {cs : List AV} {x : Value} (he : elems h st a = some cs) (hx : VRel S m w a x) (hst : 0 < st) :
  ∃ vs n, LRel S m w cs vs ∧ lenOf a = some n ∧ vs.length = n * st ∧ (Builtin.lenOf x).run P w = .ok n w ∧ ∀ k, k ≤ n → (Builtin.firstCells st k x).run P w = .ok (vs.take (k * st)).toArray w := by
 obtain ⟨vs, h1, h2, h3, h4⟩ := elems_sound r he hx hst
 refine ⟨vs, vs.length / st, h1, h2, (Nat.div_mul_cancel (Nat.dvd_of_mod_eq_zero h3)).symm, ?_⟩
 rcases h4 with ⟨ad, n, c, rfl, h5, h6⟩ | ⟨c, rfl, rfl⟩ | ⟨s, rfl, rfl, rfl⟩
 ·have hn : vs.length / st = n := by rw [← h5]; exact Nat.mul_div_cancel _ hst
  rw [hn]
  refine ⟨rfl, fun k hk => ?_⟩
  have hl : (vs.take (k * st)).length = k * st := by
   have : k * st ≤ n * st := Nat.mul_le_mul_right _ hk
   simp; omega
  have := run_loadCells_list (P := P) w ad (vs.take (k * st)) (fun j u hj => h6 j u (by
   rw [List.getElem?_take] at hj
   split at hj
   ·exact hj
   ·cases hj))
  rw [hl] at this
  exact this
 ·simp only [List.length_nil, Nat.zero_div]
  refine ⟨rfl, fun k hk => ?_⟩
  simp [Builtin.firstCells]
 ·have hn : (s.data.toList.map fun b => Value.int .u8 b.toNat).length / 1 = s.size := by simp [ByteArray.size_data]
  rw [hn]
  refine ⟨rfl, fun k hk => ?_⟩
  simp only [Builtin.firstCells, Sem.run_pure, Nat.mul_one]
  congr 1
  apply Array.ext'
  simp [ByteArray.data_extract, Array.toList_extract, List.extract, List.map_take]
theorem zeroCells_size (z : Array Value) (n : Nat) : (Builtin.zeroCells z n).size = n * z.size := by simp [Builtin.zeroCells]
theorem append_run {ats : Array TypeId} {ty t u e : TypeId} {sv xv : Value} {base : Option Addr} {sLen sCap n st : Nat} {i : TypeInfo} {zv : Value} {new : List Value} (ht0 : ats[0]? = some t) (hu0 : ats[1]? = some u) (ht : P.underlying t = some (.slice e))
  (hu : (∃ d, P.underlying u = some (.slice d)) ∨ P.underlying u = some .string) (hi : P.info? e = some i) (hsz : i.size = st) (hby : 0 < i.bytes) (hz : i.zero = some zv) (hsv : sv = .slice base sLen sCap) (hn : (Builtin.lenOf xv).run P w = .ok n w) (hnew : (Builtin.firstCells st n xv).run P w = .ok new.toArray w) :
  (sLen + n ≤ sCap → ∀ w', (∀ a, base = some a → (storeCells (a.add (sLen * st)) new).run P w = .ok () w') → (base = none → w' = w) → (Builtin.append_ ats ty #[sv, xv]).run P w = .ok (.slice base (sLen + n) sCap) w') ∧
  (sCap < sLen + n → (sLen + n) * i.bytes ≤ 140737488355328 → ∀ old : List Value, (Builtin.firstCells st sLen sv).run P w.drew = .ok old.toArray w.drew → (Builtin.firstCells st n xv).run P w.drew = .ok new.toArray w.drew → ∃ nc, sLen + n ≤ nc ∧
   (Builtin.append_ ats ty #[sv, xv]).run P w = .ok (.slice (some ⟨w.heap.size, 0, none⟩) (sLen + n) nc) (w.drew.alloc (.cells (old.toArray ++ new.toArray ++ Builtin.zeroCells zv.cells (nc - (sLen + n))) e))) := by
 subst hsv
 have hsr : (sizeOf e).run P w = .ok st w := by simp [sizeOf, info_run hi, hsz]
 have hzu : (underlying u).run P w = .ok (match P.underlying u with | some d => d | none => .invalid) w := by
  rcases hu with ⟨d, hu⟩ | hu <;> simp [und_run hu, hu]
 have a0 : (#[Value.slice base sLen sCap, xv] : Array Value)[0]? = some (.slice base sLen sCap) := rfl
 have a1 : (#[Value.slice base sLen sCap, xv] : Array Value)[1]? = some xv := rfl
 constructor
 ·intro hle w' hw' hw0
  unfold Builtin.append_
  simp only [ht0, hu0, a0, a1, Sem.run_bind, und_run ht, Result.andThen_ok, hsr]
  rcases hu with ⟨d, hu⟩ | hu
  all_goals
   simp only [Sem.run_bind, und_run hu, Result.andThen_ok, Sem.run_pure, Bool.false_eq_true, if_false, hn]
   rw [if_pos hle]
   simp only [Sem.run_bind, Bool.not_false, if_true, hnew, Result.andThen_ok]
   cases base with
   | none => rw [hw0 rfl]; rfl
   | some a => simp only [Sem.run_bind, hw' a rfl, Result.andThen_ok, Sem.run_pure]
 ·intro hlt hfit old hold hnew'
  have hq : (Question.appendCap (sLen + n) sCap e).forced = false := rfl
  refine ⟨(Question.appendCap (sLen + n) sCap e).cut (w.tape w.drawn (.appendCap (sLen + n) sCap e)), by simp only [Question.cut]; omega, ?_⟩
  have c1 : ¬ (Builtin.nextslicecap (sLen + n) sCap * i.bytes > 2 ^ 48) := by
   have := growslice_fits (bytes := i.bytes) hlt hfit
   omega
  have hzr : ∀ W : World, (zeroValue e).run P W = .ok zv W := fun W => zero_run hi hz
  have hty : ∀ W : World, (typeInfo e).run P W = .ok i W := fun W => info_run hi
  unfold Builtin.append_
  simp only [ht0, hu0, a0, a1, Sem.run_bind, und_run ht, Result.andThen_ok, hsr]
  rcases hu with ⟨d, hu⟩ | hu
  all_goals
   simp only [Sem.run_bind, und_run hu, Result.andThen_ok, Sem.run_pure, Bool.false_eq_true, if_false, hn]
   rw [if_neg (by omega)]
   simp only [Sem.run_bind, hty, Result.andThen_ok, false_or]
   rw [if_neg (by omega)]
   simp only [Sem.run_bind, hty, Result.andThen_ok]
   rw [if_neg c1]
   simp only [Sem.run_bind, run_choose, hq, Bool.false_eq_true, if_false, Result.andThen_ok, hty, run_askRoom]
   have ho : (Builtin.firstCells st sLen (.slice base sLen sCap)).run P { w with drawn := w.drawn + 1 } = .ok old.toArray { w with drawn := w.drawn + 1 } := hold
   have hw2 : (Builtin.firstCells st n xv).run P { w with drawn := w.drawn + 1 } = .ok new.toArray { w with drawn := w.drawn + 1 } := hnew'
   simp only [ho, Bool.not_false, if_true, hw2, Result.andThen_ok, hzr, newRow_run, Sem.run_pure]
   rfl
end
open Go
section
variable {P : Program} {S : Nat → Prop} {m : Emb} {h : List Blk} {w : World} {ρ : Operand → Value} {ev : AO → AV}
theorem drew_keep (r : Rep S m h w) : Rep S m h w.drew ∧ Stp S m h w S m h w.drew := by
 have hk : Kp S m w S m w.drew := ⟨fun _ h => h, fun _ _ => rfl, fun _ _ h => h⟩
 exact ⟨⟨r.sb, r.dom, fun id bl hb => (r.blk id bl hb).keep r hk fun b hm hg => ⟨rfl, owns_not_S r ⟨hm, bl, hb, hg⟩⟩, r.inj⟩, ⟨fun _ h => h, fun _ _ h => h, rfl, rfl, rfl, Nat.le_refl _, Nat.le_refl _, fun _ _ _ => rfl, fun id b ho _ => ⟨id, ho⟩, fun _ h => .inl h⟩⟩
theorem vdrew {v x} (hv : VRel S m w v x) : VRel S m w.drew v x := hv.keep (⟨fun _ h => h, fun _ _ => rfl, fun _ _ h => h⟩ : Kp S m w S m w.drew)
theorem vundrew {v x} (hv : VRel S m w.drew v x) : VRel S m w v x := hv.keep (⟨fun _ h => h, fun _ _ => rfl, fun _ _ h => h⟩ : Kp S m w.drew S m w)
theorem w_append (hE : ∀ x y, compO x = some y → VRel S m w (ev y) (ρ x)) (r : Rep S m h w) {o : Oper} {ao v args ats h' lo} (ho : o.op = .call { callee := .builtin .append, args, argTypes := ats }) (hc : compOp P o = some ao) (hv : wOp ev h ao = some (v, h', lo)) : WGood P S m h w ρ o v h' := by
 simp only [compOp, ho] at hc
 split at hc
 case h_2 t u us s x hb0 hat hl =>
  have hL := compL_sound (l := args.toList) hE hl
  have hty : ∃ e st z b, P.underlying t = some (.slice e) ∧ ((∃ d, P.underlying u = some (.slice d)) ∨ P.underlying u = some .string) ∧ elem? P e = some (st, z, b) ∧ ao = .append st b s x := by
   split at hc <;> first | (cases hc; done) | skip
   ·rename_i e d ht hu
    split at hc <;> first | (cases hc; done) | skip
    rename_i st z b he
    cases hc
    exact ⟨e, st, z, b, ht, .inl ⟨d, hu⟩, he, rfl⟩
   ·rename_i e ht hu
    split at hc <;> first | (cases hc; done) | skip
    rename_i st z b he
    cases hc
    exact ⟨e, st, z, b, ht, .inr hu, he, rfl⟩
  obtain ⟨e, st, z, by_, ht, hu, he, rfl⟩ := hty
  obtain ⟨i, zv, hi, hz, hsz, hby, h3, h4, h5, h6, h7⟩ := elem?_sound he
  have exe : execOp ρ o = (do pure (.value (← Builtin.append_ ats o.type (args.map ρ)))) := by rw [exe_builtin ho]; rfl
  obtain ⟨sv, r1, h1, hss, h8⟩ := hL.head
  obtain ⟨xv, r2, h9, hxx, h10⟩ := h8.head
  have hr2 := LRel.nil_r h10
  subst hr2
  subst h9
  have hargs : args.map ρ = #[sv, xv] := by apply Array.ext'; rw [Array.toList_map, h1]
  rw [hargs] at exe
  have hat0 : ats[0]? = some t := by rw [← Array.getElem?_toList, hat]; rfl
  have hat1 : ats[1]? = some u := by rw [← Array.getElem?_toList, hat]; rfl
  have hzc : zv.cells.size = st := by have := (h7 S m w).1; simp at this; omega
  simp only [wOp] at hv
  split at hv <;> first | (cases hv; done) | skip
  rename_i n xs hlen hel
  obtain ⟨new, n', hnl, hln, hnlen, hlo, hfirst⟩ := first_sound (P := P) r hel hxx h4
  rw [hlen] at hln
  cases hln
  have hnew := hfirst n (Nat.le_refl _)
  rw [List.take_of_length_le (by omega)] at hnew
  have hxx' := vdrew hxx
  obtain ⟨new', n2, hnl', hln', hnlen', hlo', hfirst'⟩ := first_sound (P := P) (drew_keep r).1 hel hxx' h4
  rw [hlen] at hln'
  cases hln'
  -- the same cells are read behind a draw
  have hnew2 : (Builtin.firstCells st n xv).run P w.drew = .ok new.toArray w.drew := by
   have key : ∀ (W W' : World) (a : Value) (k : Nat) (c : Array Value), W'.heap = W.heap → (Builtin.firstCells st k a).run P W = .ok c W → (Builtin.firstCells st k a).run P W' = .ok c W' := by
    intro W W' a k c hh hrun
    cases a <;> simp only [Builtin.firstCells] at hrun ⊢ <;> first | (cases hrun; done) | skip
    ·cases hrun; rfl
    ·rename_i ad len cp
     cases ad with
     | none => cases hrun; rfl
     | some p =>
      simp only at hrun ⊢
      have hcell : ∀ q, W'.cell? q = W.cell? q := fun q => by simp [World.cell?, hh]
      have hfar : ∀ q b, W'.farLoad P q b = W.farLoad P q b := fun q b => by simp [World.farLoad, World.noCell, World.viewLoad, World.seen, hh]
      have gen : ∀ (nn i : Nat) (acc : Array Value) (c : Array Value), (loadCellsFrom p i nn acc).run P W = .ok c W → (loadCellsFrom p i nn acc).run P W' = .ok c W' := by
       intro nn
       induction nn with
       | zero => intro i acc c hr; cases hr; rfl
       | succ nn ih =>
        intro i acc c hr
        simp only [loadCellsFrom, Sem.run_bind, run_load, hcell, hfar] at hr ⊢
        cases hc : W.cell? (p.add i) with
        | some q => rw [hc] at hr; simp only [Result.andThen_ok] at hr ⊢; exact ih _ _ _ hr
        | none =>
         rw [hc] at hr
         cases hf : W.farLoad P (p.add i) (Mode.plain == Mode.atomic) with
         | ok q => rw [hf] at hr; simp only [Result.andThen_ok] at hr ⊢; exact ih _ _ _ hr
         | error x => rw [hf] at hr; cases hr
      exact gen _ _ _ _ hrun
   exact key w w.drew xv n _ rfl hnew
  -- what is there
  have grow : ∀ (base : Option Addr) (sLen sCap : Nat) (os : List AV) (old : List Value), sv = .slice base sLen sCap → sCap < sLen + n → (sLen + n) * by_ ≤ 140737488355328 → LRel S m w os old → old.length = sLen * st → (Builtin.firstCells st sLen sv).run P w.drew = .ok old.toArray w.drew →
    ∀ hh, Rep S m hh w → Stp S m h w S m hh w → hh.length = h.length → WGood P S m h w ρ o (.sl h.length st 0 (sLen + n) (sLen + n) false) (hh ++ [.cells (os ++ xs)]) := by
   intro base sLen sCap os old g1 g2 g3 g4 g5 g6 hh g7 g8 g9
   obtain ⟨nc, g10, g11⟩ := (append_run (P := P) (w := w) (ty := o.type) hat0 hat1 ht hu hi hsz (by omega) hz g1 hlo hnew).2 g2 (by rw [hby]; exact g3) old g6 hnew2
   have hLL : LRel S m w (os ++ xs) (old ++ new) := g4.append hnl
   have hos : (os ++ xs).length = (sLen + n) * st := by rw [hLL.1, List.length_append, g5, hnlen, Nat.add_mul]
   have hcs : (old.toArray ++ new.toArray ++ Builtin.zeroCells zv.cells (nc - (sLen + n))).size = nc * st := by
    simp only [Array.size_append, List.size_toArray, zeroCells_size, hzc, g5, hnlen]
    rw [← Nat.add_mul, ← Nat.add_mul]
    congr 1; omega
   obtain ⟨a1, a2, a3⟩ := new_sl (st := st) (len := sLen + n) (cap := sLen + n) (rc := nc) (ex := false) (c := old.toArray ++ new.toArray ++ Builtin.zeroCells zv.cells (nc - (sLen + n))) (cs := os ++ xs) (w' := w.drew.alloc (.cells (old.toArray ++ new.toArray ++ Builtin.zeroCells zv.cells (nc - (sLen + n))) e)) g7 e ⟨rfl, rfl, rfl⟩ rfl
    (by
     have e1 : (old.toArray ++ new.toArray ++ Builtin.zeroCells zv.cells (nc - (sLen + n))).toList.take (os ++ xs).length = old ++ new := by
      simp only [Array.toList_append]
      rw [hLL.1]
      exact List.take_left' rfl
     rw [e1]; exact hLL)
    (by rw [hcs, hos]; exact Nat.mul_le_mul_right _ g10) (by simp) g10 (Nat.le_refl _) (by rw [hcs]; exact Nat.le_refl _)
   rw [g9] at a1 a2 a3
   exact WGood.of exe g11 a1 ⟨a2, g8.trans a3⟩
  split at hv
  ·-- nothing comes
   rename_i hn0
   subst hn0
   have hnil : new = [] := List.eq_nil_of_length_eq_zero (by simpa using hnlen)
   subst hnil
   have key : ∀ base sLen sCap, sv = .slice base sLen sCap → sLen ≤ sCap → (Builtin.append_ ats o.type #[sv, xv]).run P w = .ok sv w := by
    intro base sLen sCap g1 g2
    have := (append_run (P := P) (w := w) (ty := o.type) hat0 hat1 ht hu hi hsz (by omega) hz g1 hlo hnew).1 (by omega) w (fun a _ => rfl) (fun _ => rfl)
    rw [this, g1]; rfl
   split at hv <;> first | (cases hv; done) | skip
   all_goals
    rename_i hs
    cases hv
    rw [hs] at hss ⊢
    refine WGood.of exe ?_ hss ⟨r, Stp.refl ..⟩
    cases hss
    all_goals exact key _ _ _ rfl (by omega)
  ·rename_i hn0
   split at hv <;> first | (cases hv; done) | skip
   ·-- nil
    rename_i hs
    split at hv <;> first | (cases hv; done) | skip
    rename_i hcond
    cases hv
    simp only [Bool.and_eq_true, decide_eq_true_eq] at hcond
    rw [hs] at hss
    cases hss
    have := grow none 0 0 [] [] rfl (by omega) (by rw [Nat.zero_add]; exact hcond.1) LRel.nil (by simp) rfl h r (Stp.refl ..) rfl
    simpa using this
   ·-- what nobody writes, full
    rename_i es st' hs
    split at hv <;> first | (cases hv; done) | skip
    rename_i hcond
    cases hv
    simp only [Bool.and_eq_true, decide_eq_true_eq] at hcond
    obtain ⟨⟨hst, hfit⟩, hone⟩ := hcond
    subst hst
    rw [hs] at hss
    have hes : elems h st (.ro es st true) = some (es.flatMap AV.cells) := by simp [elems]
    obtain ⟨old, k, o1, o2, o3, o4, o5⟩ := first_sound (P := P) (drew_keep r).1 hes (vdrew hss) h4
    simp only [lenOf, Option.some.injEq] at o2
    subst o2
    have hold : LRel S m w (es.flatMap AV.cells) old := by
     exact ⟨o1.1, fun i hi => vundrew (o1.2 i hi)⟩
    have hq := o5 es.length (Nat.le_refl _)
    rw [List.take_of_length_le (by omega)] at hq
    cases hss with
    | ro f hS hcc hl' hr hx' hn' =>
     rw [hx' rfl] at *
     exact grow _ es.length es.length _ old rfl (by omega) hfit hold o3 hq h r (Stp.refl ..) rfl
    | ro0 hx' =>
     rw [hx' rfl] at *
     exact grow _ 0 0 _ old rfl (by simp at hfit ⊢; omega) (by simpa using hfit) hold (by simpa using o3) (by simpa using hq) h r (Stp.refl ..) rfl
   ·rename_i id st' off len cap ex hs
    split at hv <;> first | (cases hv; done) | skip
    rename_i hcond
    simp only [Bool.and_eq_true, decide_eq_true_eq] at hcond
    obtain ⟨⟨hst, hfit⟩, hone⟩ := hcond
    subst hst
    split at hv
    ·-- in place
     rename_i hle
     rw [Option.map_eq_some_iff] at hv
     obtain ⟨h2, hw, hv⟩ := hv
     cases hv
     rw [hs] at hss
     cases hss with
     | @sl _ _ _ _ _ _ b d zz rc g1 g2 g3 g4 g5 =>
      obtain ⟨w', k1, k2, k3⟩ := store_sound (P := P) r hw g1 hnl
      have := (append_run (base := some ⟨b, d + off, none⟩) (sLen := len) (sCap := rc) (P := P) (w := w) (ty := o.type) hat0 hat1 ht hu hi hsz (by omega) hz rfl hlo hnew).1 (by omega) w' (fun a ha => by cases ha; rw [add_mk, Nat.add_assoc]; exact k1) (fun ha => by cases ha)
      exact WGood.of exe this (.sl g1 g2 g3 hle g5) ⟨k2, k3⟩
     | sle g1 => omega
    ·rename_i hgt
     split at hv <;> first | (cases hv; done) | skip
     rename_i os hos
     rw [hs] at hss hos
     obtain ⟨old, k, o1, o2, o3, o4, o5⟩ := first_sound (P := P) (drew_keep r).1 hos (vdrew hss) h4
     simp only [lenOf, Option.some.injEq] at o2
     subst o2
     have hold : LRel S m w os old := ⟨o1.1, fun i hi => vundrew (o1.2 i hi)⟩
     have hq := o5 len (Nat.le_refl _)
     rw [List.take_of_length_le (by omega)] at hq
     have hgone : Rep S m (h.set id .gone) w ∧ Stp S m h w S m (h.set id .gone) w := by
      by_cases hid : id < h.length
      ·exact rep_gone r hid
      ·rw [List.set_eq_of_length_le (by omega)]; exact ⟨r, Stp.refl ..⟩
     cases hss with
     | @sl _ _ _ _ _ _ b d zz rc g1 g2 g3 g4 g5 =>
      by_cases hex : ex = true
      ·rw [if_pos hex] at hv
       cases hv
       have := g2 hex
       exact grow _ len rc os old rfl (by omega) hfit hold o3 hq h r (Stp.refl ..) rfl
      ·rw [if_neg hex] at hv
       split at hv <;> first | (cases hv; done) | skip
       rename_i hrow
       cases hv
       by_cases hrc : len + n ≤ rc
       ·-- in the world it still fits
        have hlive : ∃ cs, h[id]? = some (.cells cs) := by
         unfold hasRow at hrow
         split at hrow
         ·exact ⟨_, by assumption⟩
         ·cases hrow
        ·obtain ⟨cs, hcs⟩ := hlive
         obtain ⟨b', d', t', fz, c, q1, q2, q3, q4, q5, q6⟩ := r.blk _ _ hcs
         rw [g1] at q1
         cases q1
         have hsp : (len + n) * st ≤ rc * st := Nat.mul_le_mul_right _ hrc
         rw [Nat.add_mul] at hsp
         have hbound : d + off + len * st + new.length ≤ c.size := by rw [hnlen]; omega
         have hrun := run_storeCells_fz (P := P) b (d + off + len * st) t' fz new 0 c w q2 (by omega) (fun j g6 g7 => q4 j (by omega)) (by
          intro x hx
          obtain ⟨j, hj, rfl⟩ := List.mem_iff_getElem.1 hx
          have hxl := hnl.1
          have h7 := hnl.2 j (by omega)
          have h8 : xs[j]? = some xs[j] := List.getElem?_eq_getElem (by omega)
          have h9 : (xs[j]'(by omega)).one = true := List.all_eq_true.1 hone _ (List.getElem_mem _)
          simp only [List.getD_eq_getElem?_getD, h8, List.getElem?_eq_getElem hj, Option.getD_some] at h7
          exact h7.oneCell h9)
         simp only [Nat.add_zero] at hrun
         have happ := (append_run (base := some ⟨b, d + off, none⟩) (sLen := len) (sCap := rc) (P := P) (w := w) (ty := o.type) hat0 hat1 ht hu hi hsz (by omega) hz rfl hlo hnew).1 hrc _ (fun a ha => by cases ha; rw [add_mk]; exact hrun) (fun ha => by cases ha)
         -- the elder cells, as the world has them
         have hold2 : old = (c.toList.drop (d + off)).take (len * st) := by
          have hfc : (Builtin.firstCells st len (.slice (some ⟨b, d + off, none⟩) len rc)).run P w.drew = .ok old.toArray w.drew := hq
          have hload := run_loadCells_list (P := P) w.drew ⟨b, d + off, none⟩ ((c.toList.drop (d + off)).take (len * st)) (fun j u' hj => by
           rw [add_mk, World.cell?_drew, cell_at q2]
           simp only [List.getElem?_take, List.getElem?_drop] at hj
           split at hj
           ·rw [← hj, Array.getElem?_toList]
           ·cases hj)
          have hlen2 : ((c.toList.drop (d + off)).take (len * st)).length = len * st := by simp; omega
          rw [hlen2] at hload
          simp only [Builtin.firstCells] at hfc
          rw [hload] at hfc
          simp only [Result.ok.injEq, and_true] at hfc
          have := congrArg Array.toList hfc
          simpa using this.symm
         have hsz2 : (c.toList.take (d + off + len * st) ++ (new ++ c.toList.drop (d + off + len * st + new.length))).toArray.size = c.size := by simp; omega
         obtain ⟨a1, a2⟩ := rep_move (bl' := .cells (os ++ xs)) (w' := w.setRow b (c.toList.take (d + off + len * st) ++ (new ++ c.toList.drop (d + off + len * st + new.length))).toArray) r like_setRow hcs g1 (fun k hk => setRow_other _ _ _ _ hk) (setRow_size _ _ _) (d + off) (fun S' m' w'' g6 g7 g8 g9 => by
          refine ⟨b, d + off, t', fz, _, by rw [hsz2]; exact g6, by rw [g7]; exact setRow_heap w b c _ t' fz q2, ?_, ?_, ?_, g9⟩
          ·rw [hsz2, List.length_append, hold.1, o3, hnl.1, hnlen]; omega
          ·exact fun j j1 => q4 j (by omega)
          ·have e1 : ((c.toList.take (d + off + len * st) ++ (new ++ c.toList.drop (d + off + len * st + new.length))).toArray.toList.drop (d + off)).take (os ++ xs).length = old ++ new := by
            rw [List.length_append, hold.1, o3, hnl.1, hold2]
            have e2 : c.toList.take (d + off + len * st) = c.toList.take (d + off) ++ (c.toList.drop (d + off)).take (len * st) := List.take_add
            rw [e2, List.append_assoc]
            simp only [List.toList_toArray]
            rw [List.drop_left' (by simp; omega), ← List.append_assoc]
            rw [List.take_left' (by simp; omega)]
           rw [e1]
           have hLL := hold.append hnl
           exact ⟨hLL.1, fun j hj => g8 _ _ (hLL.2 j hj)⟩)
         refine WGood.of exe happ ?_ ⟨a1, a2⟩
         have : (⟨b, d + off, none⟩ : Addr) = ⟨b, (d + off) + 0, none⟩ := rfl
         rw [this]
         exact .sl upd_self (by simp) hrc (Nat.le_refl _) (by omega)
       ·exact grow _ len rc os old rfl (by omega) hfit hold o3 hq _ hgone.1 hgone.2 (by simp)
     | @sle _ _ _ _ a g1 =>
      by_cases hex : ex = true
      ·rw [if_pos hex] at hv
       cases hv
       exact grow _ 0 0 os old rfl (by omega) hfit hold o3 hq h r (Stp.refl ..) rfl
      ·rw [if_neg hex] at hv
       split at hv <;> first | (cases hv; done) | skip
       cases hv
       exact grow _ 0 0 os old rfl (by omega) hfit hold o3 hq _ hgone.1 hgone.2 (by simp)
 all_goals first | contradiction | (cases hc; done)
end
open Go
section
variable {P : Program} {S : Nat → Prop} {m : Emb} {h : List Blk} {w : World} {ρ : Operand → Value} {ev : AO → AV}
theorem w_copy (hE : ∀ x y, compO x = some y → VRel S m w (ev y) (ρ x)) (r : Rep S m h w) {o : Oper} {ao v args ats h' lo} (ho : o.op = .call { callee := .builtin .copy, args, argTypes := ats }) (hc : compOp P o = some ao) (hv : wOp ev h ao = some (v, h', lo)) : WGood P S m h w ρ o v h' := by
  simp only [compOp, ho] at hc
  split at hc
  case h_3 t us s x hb0 hat hl =>
    have hL := compL_sound (l := args.toList) hE hl
    split at hc <;> first | (cases hc; done) | skip
    rename_i e ht
    split at hc <;> first | (cases hc; done) | skip
    rename_i st z b he
    cases hc
    obtain ⟨i, zv, hi, hz, hsz, hby, h3, h4, h5, h6, h7⟩ := elem?_sound he
    have exe : execOp ρ o = (do pure (.value (← Builtin.copy_ ats o.type (args.map ρ)))) := by rw [exe_builtin ho]; rfl
    obtain ⟨dv, r1, h1, hdd, h8⟩ := hL.head
    obtain ⟨xv, r2, h9, hxx, h10⟩ := h8.head
    have hr2 := LRel.nil_r h10
    subst hr2
    subst h9
    have hargs : args.map ρ = #[dv, xv] := by apply Array.ext'; rw [Array.toList_map, h1]
    rw [hargs] at exe
    have hat0 : ats[0]? = some t := by rw [← Array.getElem?_toList, hat]; rfl
    have hsr : (sizeOf e).run P w = .ok st w := by simp [sizeOf, info_run hi, hsz]
    have a0 : (#[dv, xv] : Array Value)[0]? = some dv := rfl
    have a1 : (#[dv, xv] : Array Value)[1]? = some xv := rfl
    simp only [wOp] at hv
    split at hv <;> first | (cases hv; done) | skip
    rename_i n k xs hdl hxl hel
    obtain ⟨new, n', hnl, hln, hnlen, hlo, hfirst⟩ := first_sound (P := P) r hel hxx h4
    rw [hxl] at hln
    cases hln
    have run : ∀ base dCap, dv = .slice base n dCap → ∀ w', (∀ a, base = some a → (storeCells a (new.take (Nat.min k n * st))).run P w = .ok () w') → (base = none → w' = w) →
        (Builtin.copy_ ats o.type #[dv, xv]).run P w = .ok (goInt (Nat.min k n)) w' := by
      intro base dCap g1 w' g2 g3
      subst g1
      unfold Builtin.copy_
      simp only [hat0, a0, a1, Sem.run_bind, und_run ht, Result.andThen_ok, hlo, hsr, hfirst _ (Nat.min_le_left k n)]
      cases base with
      | none => rw [g3 rfl]; rfl
      | some a => simp only [Sem.run_bind, g2 a rfl, Result.andThen_ok, Sem.run_pure]
    have hmin : (if k ≤ n then k else n) = Nat.min k n := by
      show _ = min k n
      rw [Nat.min_def]
    simp only [hmin] at hv
    split at hv <;> first | (cases hv; done) | skip
    · rename_i hs
      cases hv
      rw [hs] at hdd hdl
      cases hdl
      cases hdd
      have hm : Nat.min k 0 = 0 := Nat.min_zero k
      have := run none 0 rfl w (fun a ha => by cases ha) (fun _ => rfl)
      rw [hm] at this
      exact WGood.of exe this .int ⟨r, Stp.refl ..⟩
    · rename_i id st' off len cap ex hs
      split at hv <;> first | (cases hv; done) | skip
      rename_i hst
      subst hst
      rw [hs] at hdd hdl
      cases hdl
      split at hv
      · rename_i h0
        cases hv
        have hnil : new.take (Nat.min k n * st) = [] := by rw [h0]; simp
        rw [hnil, h0] at run
        cases hdd with
        | sl g1 g2 g3 g4 g5 => exact WGood.of exe (run _ _ rfl w (fun a _ => rfl) (fun _ => rfl)) .int ⟨r, Stp.refl ..⟩
        | sle g1 => exact WGood.of exe (run _ _ rfl w (fun a _ => rfl) (fun _ => rfl)) .int ⟨r, Stp.refl ..⟩
      · rename_i h0
        rw [Option.map_eq_some_iff] at hv
        obtain ⟨h2, hw, hv⟩ := hv
        cases hv
        cases hdd with
        | @sl _ _ _ _ _ _ b' d zz rc g1 g2 g3 g4 g5 =>
          obtain ⟨w', k1, k2, k3⟩ := store_sound (P := P) r hw g1 (hnl.take _)
          exact WGood.of exe (run (some ⟨b', d + off, none⟩) rc rfl w' (fun a ha => by cases ha; exact k1) (fun ha => by cases ha)) .int ⟨k2, k3⟩
        | sle g1 => exact absurd (Nat.min_zero k) h0
  all_goals first | contradiction | (cases hc; done)
theorem w_clear (hE : ∀ x y, compO x = some y → VRel S m w (ev y) (ρ x)) (r : Rep S m h w) {o : Oper} {ao v args ats h' lo} (ho : o.op = .call { callee := .builtin .clear, args, argTypes := ats }) (hc : compOp P o = some ao) (hv : wOp ev h ao = some (v, h', lo)) : WGood P S m h w ρ o v h' := by
  simp only [compOp, ho] at hc
  split at hc
  case h_7 t us x hb0 hat hl =>
    have hL := compL_sound (l := args.toList) hE hl
    split at hc <;> first | (cases hc; done) | skip
    rename_i e ht
    split at hc <;> first | (cases hc; done) | skip
    rename_i st z b he
    cases hc
    obtain ⟨i, zv, hi, hz, hsz, hby, h3, h4, h5, h6, h7⟩ := elem?_sound he
    have exe : execOp ρ o = (do pure (.value (← Builtin.clear_ ats o.type (args.map ρ)))) := by rw [exe_builtin ho]; rfl
    obtain ⟨xv, r1, h1, hxx, h8⟩ := hL.head
    have hr2 := LRel.nil_r h8
    subst hr2
    have hargs : args.map ρ = #[xv] := by apply Array.ext'; rw [Array.toList_map, h1]
    rw [hargs] at exe
    have hat0 : ats[0]? = some t := by rw [← Array.getElem?_toList, hat]; rfl
    have a0 : (#[xv] : Array Value)[0]? = some xv := rfl
    have hLz := h7 S m w
    have hzs : zv.cells.size = st := by have := hLz.1; simp at this; omega
    have none0 : ∀ a c, (a = none ∨ True) → (Builtin.clear_ ats o.type #[.slice a 0 c]).run P w = .ok (.tuple #[]) w := by
      intro a c _
      have a1 : (#[Value.slice a 0 c] : Array Value)[0]? = some (.slice a 0 c) := rfl
      unfold Builtin.clear_
      simp only [hat0, a1, Sem.run_bind, und_run ht, Result.andThen_ok]
      cases a <;> rfl
    simp only [wOp] at hv
    split at hv <;> first | (cases hv; done) | skip
    · rename_i hs
      cases hv
      rw [hs] at hxx
      cases hxx
      exact WGood.of exe (none0 none 0 (.inl rfl)) (.tup rfl fun i hi => by simp at hi) ⟨r, Stp.refl ..⟩
    · rename_i id st' off len cap ex hs
      split at hv <;> first | (cases hv; done) | skip
      rename_i hst
      rw [hs] at hxx
      split at hv
      · rename_i h0
        cases hv
        subst h0
        cases hxx with
        | sl g1 g2 g3 g4 g5 => exact WGood.of exe (none0 _ _ (.inr trivial)) (.tup rfl fun i hi => by simp at hi) ⟨r, Stp.refl ..⟩
        | sle g1 => exact WGood.of exe (none0 _ _ (.inr trivial)) (.tup rfl fun i hi => by simp at hi) ⟨r, Stp.refl ..⟩
      · rename_i h0
        rw [Option.map_eq_some_iff] at hv
        obtain ⟨h2, hw, hv⟩ := hv
        cases hv
        cases hxx with
        | @sl _ _ _ _ _ _ b' d zz rc g1 g2 g3 g4 g5 =>
          have hf := rep_flat (zero := zv.cells) hzs len
          have hLf : LRel S m w (List.replicate len z).flatten (Builtin.zeroCells zv.cells len).toList := by
            unfold Builtin.zeroCells
            rw [show len * zv.cells.size = len * st by rw [hzs], hf]
            exact hLz.flat _
          obtain ⟨w', k1, k2, k3⟩ := store_sound (P := P) r hw g1 hLf
          have run : (Builtin.clear_ ats o.type #[.slice (some ⟨b', d + off, none⟩) len rc]).run P w = .ok (.tuple #[]) w' := by
            unfold Builtin.clear_
            cases len with
            | zero => exact absurd rfl h0
            | succ len => simp only [hat0, a0, Sem.run_bind, und_run ht, Result.andThen_ok, zero_run hi hz, k1, Sem.run_pure]
          exact WGood.of exe run (.tup rfl fun i hi => by simp at hi) ⟨k2, k3⟩
        | sle g1 => exact absurd rfl h0
  all_goals first | contradiction | (cases hc; done)
theorem wOp_sound (hE : ∀ x y, compO x = some y → VRel S m w (ev y) (ρ x)) (r : Rep S m h w) {o : Oper} {ao v h' lo} (hc : compOp P o = some ao) (hv : wOp ev h ao = some (v, h', lo)) : WGood P S m h w ρ o v h' := by
  cases ho : o.op with
  | alloc t => exact w_alloc r ho hc hv
  | box t x => exact w_box hE r ho hc hv
  | buildSlice t n ps => exact w_buildSl hE r ho hc hv
  | store t a x => exact w_store hE r ho hc hv
  | convert s d x => exact w_s2b hE r ho hc hv
  | makeMap t n => exact w_mkmap r ho hc hv
  | makeSlice t l c => exact w_mksl hE r ho hc hv
  | mapUpdate t a k x => exact w_mapUpd hE r (.inl ho) hc hv
  | insert t a k x => exact w_mapUpd hE r (.inr ho) hc hv
  | call c =>
    obtain ⟨callee, args, ats⟩ := c
    cases callee with
    | builtin b =>
      by_cases h1 : b = .append
      · subst h1; exact w_append hE r ho hc hv
      · by_cases h2 : b = .copy
        · subst h2; exact w_copy hE r ho hc hv
        · by_cases h3 : b = .delete
          · subst h3; exact w_del hE r ho hc hv
          · by_cases h4 : b = .clear
            · subst h4; exact w_clear hE r ho hc hv
            exfalso
            simp only [compOp, ho] at hc
            split at hc <;> first | (cases hc; done) | contradiction | skip
            · split at hc <;> first | (cases hc; simp [wOp] at hv; done) | (cases hc; done)
            · cases hc; simp [wOp] at hv
            · cases hc; simp [wOp] at hv
    | value f =>
      simp only [compOp, ho] at hc
      split at hc <;> cases hc
      simp [wOp] at hv
    | invoke f n => simp only [compOp, ho] at hc; cases hc
  | move x => exact absurd hv (by simp only [compOp, ho, Option.map_eq_some_iff] at hc; obtain ⟨_, _, rfl⟩ := hc; simp [wOp])
  | assign x => exact absurd hv (by simp only [compOp, ho, Option.map_eq_some_iff] at hc; obtain ⟨_, _, rfl⟩ := hc; simp [wOp])
  | nilCheck x => exact absurd hv (by simp only [compOp, ho, Option.map_eq_some_iff] at hc; obtain ⟨_, _, rfl⟩ := hc; simp [wOp])
  | extract x i => exact absurd hv (by simp only [compOp, ho, Option.map_eq_some_iff] at hc; obtain ⟨_, _, rfl⟩ := hc; simp [wOp])
  | pick c a b => exact absurd hv (by simp only [compOp, ho] at hc; split at hc <;> cases hc; simp [wOp])
  | load t x => exact absurd hv (by simp only [compOp, ho] at hc; split at hc <;> cases hc; simp [wOp])
  | makeFunc f a c => exact absurd hv (by simp only [compOp, ho] at hc; split at hc <;> cases hc; simp [wOp])
  | fieldAddr t x f => exact absurd hv (by simp only [compOp, ho] at hc; split at hc <;> cases hc; simp [wOp])
  | field t x f => exact absurd hv (by simp only [compOp, ho] at hc; split at hc <;> cases hc; simp [wOp])
  | build t ps => exact absurd hv (by simp only [compOp, ho] at hc; split at hc <;> first | (cases hc; done) | skip
                                      split at hc <;> first | (cases hc; done) | skip
                                      rw [Option.map_eq_some_iff] at hc; obtain ⟨_, _, rfl⟩ := hc; simp [wOp])
  | unOp op t x => exact absurd hv (by simp only [compOp, ho] at hc; split at hc <;> first | (cases hc; done) | skip
                                       rw [Option.map_eq_some_iff] at hc; obtain ⟨_, _, rfl⟩ := hc; simp [wOp])
  | lookup t x k ok => exact absurd hv (by simp only [compOp, ho] at hc; split at hc <;> first | (cases hc; done) | skip
                                           split at hc <;> first | (cases hc; done) | skip
                                           rw [Option.map_eq_some_iff] at hc; obtain ⟨_, _, rfl⟩ := hc; simp [wOp])
  | index t x i => exact absurd hv (by simp only [compOp, ho] at hc; split at hc <;> first | (cases hc; done) | (cases hc; simp [wOp]; done) | skip
                                       split at hc <;> first | (cases hc; done) | (cases hc; simp [wOp]; done))
  | indexAddr t x i => exact absurd hv (by simp only [compOp, ho] at hc; split at hc <;> first | (cases hc; done) | skip
                                           all_goals (split at hc <;> first | (cases hc; done) | skip)
                                           all_goals (split at hc <;> first | (cases hc; done) | (cases hc; simp [wOp]; done)))
  | slice t x lo hi mx => exact absurd hv (by simp only [compOp, ho] at hc; split at hc <;> first | (cases hc; done) | skip
                                              split at hc <;> first | (cases hc; done) | (cases hc; simp [wOp]; done) | skip
                                              all_goals (split at hc <;> first | (cases hc; done) | skip)
                                              all_goals (split at hc <;> first | (cases hc; done) | (cases hc; simp [wOp]; done)))
  | binOp op t x y u => exact absurd hv (by
      simp only [compOp, ho, compBin] at hc
      repeat' (split at hc <;> first | (cases hc; done) | (cases hc; simp [wOp]; done) | (rw [Option.map_eq_some_iff] at hc; obtain ⟨_, _, rfl⟩ := hc; simp [wOp]; done) | skip)
      all_goals first | (cases hc; done) | (cases hc; simp [wOp]; done) | (rw [Option.map_eq_some_iff] at hc; obtain ⟨_, _, rfl⟩ := hc; simp [wOp]; done))
  | _ => simp [compOp, ho] at hc
end
open Go
structure Pre (h h' : List Blk) (lo : Option Nat) : Prop where
 len : h.length ≤ h'.length
 same : ∀ i, i < h.length → (∀ l, lo = some l → i < l) → h'[i]? = h[i]?
theorem Pre.refl (h : List Blk) (lo) : Pre h h lo := ⟨Nat.le_refl _, fun _ _ _ => rfl⟩
theorem Pre.append (h : List Blk) (x lo) : Pre h (h ++ x) lo := ⟨by simp, fun i hi _ => List.getElem?_append_left hi⟩
theorem Pre.set (h : List Blk) (id : Nat) (bl x) : Pre h (h.set id bl ++ x) (some id) :=
 ⟨by simp, fun i hi hl => by have := hl id rfl; rw [List.getElem?_append_left (by simpa using hi), List.getElem?_set_ne (by omega)]⟩
theorem Pre.set' (h : List Blk) (id : Nat) (bl) : Pre h (h.set id bl) (some id) := by have := Pre.set h id bl []; simpa using this
theorem wrCells_pre {h : List Blk} {id off vs h'} (hw : wrCells h id off vs = some h') : Pre h h' (some id) := by
 unfold wrCells at hw
 split at hw <;> first | (cases hw; done) | skip
 split at hw <;> cases hw
 exact Pre.set' _ _ _
theorem wOp_pre {ev : AO → AV} {h : List Blk} {o v h' lo} (hv : wOp ev h o = some (v, h', lo)) : Pre h h' lo := by
 cases o <;> simp only [wOp] at hv <;> first | (cases hv; done) | (cases hv; exact Pre.append _ _ _) | skip
 case buildSl => split at hv <;> cases hv; exact Pre.append _ _ _
 case store =>
  split at hv <;> first | (cases hv; done) | skip
  split at hv <;> first | (cases hv; done) | skip
  rw [Option.map_eq_some_iff] at hv
  obtain ⟨h2, hw, hv⟩ := hv
  cases hv
  exact wrCells_pre hw
 case s2b => split at hv <;> cases hv; exact Pre.refl _ _
 case mksl =>
  split at hv <;> first | (cases hv; done) | skip
  split at hv <;> cases hv
  exact Pre.append _ _ _
 case mapUpd =>
  split at hv <;> first | (cases hv; done) | skip
  split at hv <;> first | (cases hv; done) | skip
  split at hv <;> first | (cases hv; done) | skip
  rw [Option.map_eq_some_iff] at hv
  obtain ⟨res, _, hv⟩ := hv
  split at hv <;> (cases hv; exact Pre.set' _ _ _)
 case append =>
  split at hv <;> first | (cases hv; done) | skip
  split at hv
  ·split at hv <;> cases hv <;> exact Pre.refl _ _
  ·split at hv <;> first | (cases hv; done) | skip
   ·split at hv <;> cases hv; exact Pre.append _ _ _
   ·split at hv <;> cases hv; exact Pre.append _ _ _
   ·split at hv <;> first | (cases hv; done) | skip
    split at hv
    ·rw [Option.map_eq_some_iff] at hv
     obtain ⟨h2, hw, hv⟩ := hv
     cases hv
     exact wrCells_pre hw
    ·split at hv <;> first | (cases hv; done) | skip
     split at hv
     ·cases hv; exact Pre.append _ _ _
     ·split at hv <;> cases hv; exact Pre.set _ _ _ _
 case copy =>
  have fin : ∀ (c st : Nat) (id off : Nat) (xs : List AV), (if c = 0 then some (AV.int .i64 0, h, none) else (wrCells h id off (xs.take (c * st))).map fun h' => (AV.int .i64 c, h', some id)) = some (v, h', lo) → Pre h h' lo := by
   intro c st id off xs hv
   split at hv
   ·cases hv; exact Pre.refl _ _
   ·rw [Option.map_eq_some_iff] at hv
    obtain ⟨h2, hw, hv⟩ := hv
    cases hv
    exact wrCells_pre hw
  split at hv <;> first | (cases hv; done) | skip
  split at hv <;> first | (cases hv; done) | skip
  ·cases hv; exact Pre.refl _ _
  ·split at hv <;> first | (cases hv; done) | skip
   exact fin _ _ _ _ _ hv
 case del =>
  split at hv <;> first | (cases hv; done) | skip
  split at hv <;> first | (cases hv; done) | skip
  ·cases hv; exact Pre.refl _ _
  ·split at hv <;> first | (cases hv; done) | skip
   rw [Option.map_eq_some_iff] at hv
   obtain ⟨res, _, hv⟩ := hv
   split at hv
   ·cases hv; exact Pre.set' _ _ _
   ·cases hv; exact Pre.refl _ _
 case clear =>
  split at hv <;> first | (cases hv; done) | skip
  ·cases hv; exact Pre.refl _ _
  ·split at hv <;> first | (cases hv; done) | skip
   split at hv
   ·cases hv; exact Pre.refl _ _
   ·rw [Option.map_eq_some_iff] at hv
    obtain ⟨h2, hw, hv⟩ := hv
    cases hv
    exact wrCells_pre hw
def AMS (P : Program) (f : FuncId) (args : List AV) (h : List Blk) (r : AV) (h' : List Blk) : Prop :=
 ∀ (S : Nat → Prop) (m : Emb) (w : World) (vals : Array Value), Rep S m h w → LRel S m w args vals.toList →
  Calls P f vals w fun e w' => ∃ v S' m', e = .returned v ∧ VRel S' m' w' r v ∧ Rep S' m' h' w' ∧ Stp S m h w S' m' h' w'
def Body (P : Program) (f : FuncId) : Prop := ∃ fn, P.funcs[f]? = some fn ∧ fn.body.isNone = false ∧ (fn.name == "runtime.NumGoroutine") = false
def ExtS (P : Program) (f : FuncId) (args : List AV) (h : List Blk) (r : AV) (h' : List Blk) : Prop :=
 h' = h ∧ ∀ (S : Nat → Prop) (m : Emb) (w : World) (vals : Array Value), Rep S m h w → LRel S m w args vals.toList → ∃ x, (callFunc f vals).run P w = .ok (.value x) w ∧ VRel S m w r x
def CallOK (P : Program) (call : CallF) : Prop := ∀ f args h r h' lo, call f args h = some (r, h', lo) → Pre h h' lo ∧ ((Body P f ∧ AMS P f args h r h') ∨ ExtS P f args h r h')
section
variable {P : Program} {S : Nat → Prop} {m : Emb} {h : List Blk} {w : World} {call : CallF}
theorem lOp_pre (hC : CallOK P call) {ev : AO → AV} {o v h' lo} (hv : lOp call ev h o = some (v, h', lo)) : Pre h h' lo := by
 unfold lOp at hv
 split at hv
 ·split at hv <;> first | (cases hv; done) | skip
  rw [Option.map_eq_some_iff] at hv
  obtain ⟨⟨r, h2, l⟩, h1, hv⟩ := hv
  cases hv
  obtain ⟨hp, _⟩ := hC _ _ _ _ _ _ h1
  refine ⟨hp.len, fun i hi hl => hp.same i hi fun l' hl' => ?_⟩
  subst hl'
  simp only [Option.bind_some] at hl
  by_cases hlt : l' < h.length
  ·exact hl l' (by rw [if_pos hlt])
  ·omega
 ·exact wOp_pre hv
theorem lOp_sound (hC : CallOK P call) {ev : AO → AV} {a : Act} (hE : ∀ x y, compO x = some y → VRel S m w (ev y) (a.eval x)) (r : Rep S m h w) {o : Oper} {ao v h' lo} (hc : compOp P o = some ao) (hv : lOp call ev h ao = some (v, h', lo)) (K : Act → World → Prop) (Q : Exit → Act → World → Prop)
  (hK : ∀ x S' m' w', VRel S' m' w' v x → Rep S' m' h' w' → Stp S m h w S' m' h' w' → K (a.put o.dst x) w') : o.wp P a w K Q := by
 unfold lOp at hv
 split at hv
 ·rename_i f args
  split at hv <;> first | (cases hv; done) | skip
  rename_i g first cap hf
  rw [Option.map_eq_some_iff] at hv
  obtain ⟨⟨r', h2, l⟩, h1, hv⟩ := hv
  cases hv
  obtain ⟨hp, hcases⟩ := hC _ _ _ _ _ _ h1
  -- the operation is a call of a value
  have hop : ∃ fo ao ats, o.op = .call { callee := .value fo, args := ao, argTypes := ats } ∧ compO fo = some f ∧ compL compO ao.toList = some args := by
   cases ho : o.op with
   | call c =>
    obtain ⟨callee, cargs, ats⟩ := c
    cases callee with
    | value fo =>
     simp only [compOp, ho] at hc
     split at hc <;> first | (cases hc; done) | skip
     rename_i f' l' hf' hl'
     cases hc
     exact ⟨fo, cargs, ats, rfl, hf', hl'⟩
    | builtin b =>
     simp only [compOp, ho] at hc
     exfalso
     repeat' (split at hc <;> first | (cases hc; done) | (rw [Option.map_eq_some_iff] at hc; obtain ⟨_, _, hc⟩ := hc; cases hc; done) | skip)
     all_goals first | (cases hc; done) | (rw [Option.map_eq_some_iff] at hc; obtain ⟨_, _, hc⟩ := hc; cases hc; done)
    | invoke f n => simp [compOp, ho] at hc
   | makeMap t n => cases n <;> simp [compOp, ho] at hc
   | _ =>
    exfalso
    simp only [compOp, ho, compBin] at hc
    repeat' (split at hc <;> first | (cases hc; done) | (rw [Option.map_eq_some_iff] at hc; obtain ⟨_, _, hc⟩ := hc; cases hc; done) | skip)
    all_goals first | (cases hc; done) | (rw [Option.map_eq_some_iff] at hc; obtain ⟨_, _, hc⟩ := hc; cases hc; done)
  obtain ⟨fo, cargs, ats, ho, hfo, hl⟩ := hop
  have hfv := hE _ _ hfo
  rw [hf] at hfv
  obtain ⟨fs, cs, hfe, hf1, hf2⟩ := hfv.fn_inv
  have hargs := compL_sound (l := cargs.toList) hE hl
  have hall : LRel S m w (first ++ (args.map ev ++ cap)) (fs ++ cargs.map a.eval ++ cs).toList := by
   simp only [Array.toList_append, Array.toList_map, List.append_assoc]
   exact hf1.append (hargs.append hf2)
  rcases hcases with ⟨⟨fn, hfn, hbody, hname⟩, hs⟩ | ⟨hh, hx⟩
  ·have hexe : (execOp a.eval o).run P w = .ok (.enter g (fs ++ cargs.map a.eval ++ cs)) w := by
    simp only [execOp, ho, resolve, hfe, Deferred.ofValue, Sem.run_bind, Sem.run_pure, Result.andThen_ok, invoke, callFunc, run_program, hfn, hname, hbody, Bool.false_eq_true, if_false]
   unfold Oper.wp
   rw [hexe, Oper.upon_enter]
   refine Calls.mono (hs S m w _ r hall) fun e w' he => ?_
   obtain ⟨x, S', m', rfl, k1, k2, k3⟩ := he
   exact hK x S' m' w' k1 k2 k3
  ·obtain ⟨x, hx1, hx2⟩ := hx S m w _ r hall
   have hexe : (execOp a.eval o).run P w = .ok (.value x) w := by
    simp only [execOp, ho, resolve, hfe, Deferred.ofValue, Sem.run_bind, Sem.run_pure, Result.andThen_ok, invoke]
    exact hx1
   unfold Oper.wp
   rw [hexe, Oper.upon_value]
   subst hh
   exact hK x S m w hx2 r (Stp.refl ..)
 ·obtain ⟨n, x, w', m', S', h1, h2, h3, h4, h5⟩ := wOp_sound hE r hc hv
  unfold Oper.wp
  rw [h1]
  rcases h2 with rfl | ⟨rfl, rfl⟩
  ·exact hK x S' m' w' h3 h4 h5
  ·exact hK undef S' m' w' h3 h4 h5
theorem pOp_wp {ev : AO → AV} {a : Act} (hE : ∀ x y, compO x = some y → VRel S m w (ev y) (a.eval x)) (r : Rep S m h w) {o : Oper} {ao v} (hc : compOp P o = some ao) (hv : pOp ev h ao = some v) (K : Act → World → Prop) (Q : Exit → Act → World → Prop)
  (hK : ∀ x, VRel S m w v x → K (a.put o.dst x) w) : o.wp P a w K Q := by
 obtain ⟨x, h1, h2⟩ := pOp_sound (fun _ => rfl) hE r hc hv
 unfold Oper.wp
 rw [h1]
 exact hK x h2
theorem pOp_ne_bad {ev : AO → AV} {h : List Blk} {o v} (hv : pOp ev h o = some v) : o ≠ .bad := by rintro rfl; simp [pOp] at hv
theorem lOp_ne_bad {ev : AO → AV} {h : List Blk} {o x} (hv : lOp call ev h o = some x) : o ≠ .bad := by rintro rfl; simp [lOp, wOp] at hv
theorem wanted_sound {ops : Array Oper} {o : Oper} {ao : AOper} {t : List AV} {a : Act} {b : Bool} (ht : TRel S m w t a.tmps) (hc : compOper P ops o = some ao) (hw : wanted t ao.g = some b) : Region.wanted o (yielded ops a.tmps) = b ∧ (ao.o ≠ .bad → compOp P o = some ao.o) ∧ ao.d = o.dst := by
 have hap : (compOp P o).getD .bad ≠ .bad → compOp P o = some ((compOp P o).getD .bad) := by
  intro hne
  cases hco : compOp P o with
  | none => rw [hco] at hne; exact absurd rfl hne
  | some x => rfl
 unfold compOper at hc
 split at hc
 ·rename_i hg
  cases hc
  simp only [wanted, Option.some.injEq] at hw
  subst hw
  exact ⟨by simp [Region.wanted, hg], hap, rfl⟩
 ·rename_i j want hg
  split at hc <;> first | (cases hc; done) | skip
  rename_i d hd
  cases hc
  refine ⟨?_, hap, rfl⟩
  simp only [wanted] at hw
  simp only [Region.wanted, hg]
  split at hw
  ·rename_i c hc'
   cases hw
   obtain ⟨y, h1, h2⟩ := LRel.get ht hc'
   rw [vbool h2] at h1
   rw [Array.getElem?_toList] at h1
   simp [yielded, hd, h1]
  ·rename_i hc'
   cases hw
   obtain ⟨y, h1, h2⟩ := LRel.get ht hc'
   rw [Array.getElem?_toList] at h1
   have : ∀ q, y ≠ .bool q := by rintro q rfl; cases h2
   have hy : yielded ops a.tmps j = none := by
    simp only [yielded, hd, Option.bind_some, h1]
    cases y <;> first | rfl | exact absurd rfl (this _)
   rw [hy]; rfl
  ·cases hw
theorem compL_cons {α β : Type} {f : α → Option β} {x : α} {r : List α} {l : List β} (hc : compL f (x :: r) = some l) : ∃ y l', l = y :: l' ∧ f x = some y ∧ compL f r = some l' := by
 rw [compL] at hc
 split at hc <;> cases hc
 exact ⟨_, _, rfl, by assumption, by assumption⟩
theorem runOps_sound (hC : CallOK P call) {ops : Array Oper} {Q : Exit → Act → World → Prop} : ∀ (os : List Oper) (i : Nat) (l : List AOper) (s s' : St) (S : Nat → Prop) (m : Emb) (w : World) (a : Act), ops.toList.drop i = os → compL (compOper P ops) os = some l → runOps call l s = some s' →
  Rep S m s.h w → TRel S m w s.t a.tmps → (∀ S' m' w' a', Rep S' m' s'.h w' → TRel S' m' w' s'.t a'.tmps → Stp S m s.h w S' m' s'.h w' → a'.defers = a.defers → Q .normal a' w') → wpOps P ops Q (List.range' i os.length) a w
 | [], i, l, s, s', S, m, w, a, ho, hl, hr, r, ht, hQ => by
  cases hl
  cases hr
  exact hQ S m w a r ht (Stp.refl ..) rfl
 | o :: os, i, l, s, s', S, m, w, a, ho, hl, hr, r, ht, hQ => by
  obtain ⟨ao, l', rfl, h1, h2⟩ := compL_cons hl
  have hoi : ops[i]? = some o := by
   rw [← Array.getElem?_toList, ← List.head?_drop, ho]; rfl
  have hos : ops.toList.drop (i + 1) = os := by rw [← List.tail_drop, ho]; rfl
  rw [List.length_cons, List.range'_succ]
  rw [runOps] at hr
  have next : ∀ x S' m' w' (s2 : St), runOps call l' s2 = some s' → VRel S' m' w' ((s2.t[0]?).getD .dead) x → True := fun _ _ _ _ _ _ _ => trivial
  have go : ∀ (x : Value) (v : AV) (S' : Nat → Prop) (m' : Emb) (w' : World) (h' : List Blk) (lo : Option Nat), runOps call l' { t := put s.t ao.d v, h := h', lo := lo } = some s' → ao.d = o.dst → VRel S' m' w' v x → Rep S' m' h' w' → Stp S m s.h w S' m' h' w' →
    wpOps P ops Q (List.range' (i + 1) os.length) (a.put o.dst x) w' := by
   intro x v S' m' w' h' lo g1 g2 g3 g4 g5
   refine runOps_sound hC os (i + 1) l' _ s' S' m' w' (a.put o.dst x) hos h2 g1 g4 ?_ ?_
   ·rw [g2]; exact TRel.put (ht.keep (g5.kp r)) _ g3
   ·intro S2 m2 w2 a2 k1 k2 k3 k4
    exact hQ S2 m2 w2 a2 k1 k2 (g5.trans k3) (k4.trans (by cases o.dst <;> rfl))
  simp only [wpOps, hoi]
  split at hr <;> first | (cases hr; done) | skip
  ·rename_i hw
   obtain ⟨k1, k2, k3⟩ := wanted_sound (P := P) ht h1 hw
   rw [if_neg (by rw [k1]; decide)]
   exact go undef (.tup []) S m w s.h s.lo hr k3 (LRel.tup LRel.nil) r (Stp.refl ..)
  ·rename_i hw
   obtain ⟨k1, k2, k3⟩ := wanted_sound (P := P) ht h1 hw
   rw [if_pos k1]
   refine .inl ?_
   split at hr
   ·split at hr <;> first | (cases hr; done) | skip
    rename_i v h' lo hv
    exact lOp_sound hC (fun x y hx => compO_sound ht hx) r (k2 (lOp_ne_bad hv)) hv _ _ fun x S' m' w' g1 g2 g3 => go x v S' m' w' h' _ hr k3 g1 g2 g3
   ·split at hr <;> first | (cases hr; done) | skip
    rename_i v hv
    exact pOp_wp (fun x y hx => compO_sound ht hx) r (k2 (pOp_ne_bad hv)) hv _ _ fun x g1 => go x v S m w s.h s.lo hr k3 g1 r (Stp.refl ..)
end
open Go Go.Proofs.YtenpjpldjmoefaaGreatW.PrintWords Go.Proofs.YtenpjpldjmoefaaGreatW.PrintLast
theorem pOp_blind {ev : AO → AV} {h h' : List Blk} {o : AOp} {v : AV} (ho : o.reads = false) (hv : pOp ev h o = some v) : pOp ev h' o = some v := by
 cases o <;> first | exact hv | (cases ho; done)
def puts (t : List AV) (E : List (Option Nat × AV)) : List AV := E.foldl (fun t e => put t e.1 e.2) t
def Came (call : CallF) (t : List AV) (H : List (List Blk)) (q : Nat) (o : AOper) (v : AV) : Prop :=
 (wanted t o.g = some false ∧ v = .tup [] ∧ (o.o.loud = true → H[q + 1]? = H[q]?)) ∨
 (wanted t o.g = some true ∧ o.o.loud = true ∧ ∃ h h' lo, H[q]? = some h ∧ H[q + 1]? = some h' ∧ lOp call (evalM o.o.slots t) h o.o = some (v, h', lo)) ∨
 (wanted t o.g = some true ∧ o.o.loud = false ∧ (∃ h, pOp (evalM o.o.slots t) h o.o = some v) ∧ (o.o.reads = true → ∀ q h, o.k ≤ q → q ≤ o.e → H[q]? = some h → pOp (evalM o.o.slots t) h o.o = some v))
mutual
theorem eqv_eq : ∀ (a b : AV), eqv a b = true → a = b
 | .rop es st i off, b, h => by
  cases b <;> simp only [eqv, Bool.and_eq_true, decide_eq_true_eq, Bool.false_eq_true] at h
  obtain ⟨⟨⟨rfl, rfl⟩, rfl⟩, h⟩ := h
  rw [eqvL_eq es _ h]
 | .ro es st ex, b, h => by
  cases b <;> simp only [eqv, Bool.and_eq_true, decide_eq_true_eq, Bool.false_eq_true] at h
  obtain ⟨⟨rfl, rfl⟩, h⟩ := h
  rw [eqvL_eq es _ h]
 | .agg es, b, h => by
  cases b <;> simp only [eqv, Bool.false_eq_true] at h
  rw [eqvL_eq es _ h]
 | .tup es, b, h => by
  cases b <;> simp only [eqv, Bool.false_eq_true] at h
  rw [eqvL_eq es _ h]
 | .dead, b, h => by cases b <;> simp_all [eqv]
 | .bool _, b, h => by cases b <;> simp_all [eqv]
 | .int _ _, b, h => by cases b <;> simp_all [eqv]
 | .str _, b, h => by cases b <;> simp_all [eqv]
 | .nilp, b, h => by cases b <;> simp_all [eqv]
 | .ptr _ _, b, h => by cases b <;> simp_all [eqv]
 | .nils, b, h => by cases b <;> simp_all [eqv]
 | .sl _ _ _ _ _ _, b, h => by cases b <;> simp_all [eqv]
 | .nilm, b, h => by cases b <;> simp_all [eqv]
 | .map _, b, h => by cases b <;> simp_all [eqv]
 | .nilf, b, h => by cases b <;> simp_all [eqv]
 | .fn _ _ _, b, h => by cases b <;> simp [eqv] at h
theorem eqvL_eq : ∀ (a b : List AV), eqvL a b = true → a = b
 | [], b, h => by cases b <;> simp_all [eqvL]
 | x :: r, b, h => by
  cases b <;> simp only [eqvL, Bool.and_eq_true, Bool.false_eq_true] at h
  rw [eqv_eq x _ h.1, eqvL_eq r _ h.2]
end
theorem cntL_zero (l : List AOper) : cntL l 0 = 0 := rfl
theorem cntL_succ (o : AOper) (l : List AOper) (i : Nat) : cntL (o :: l) (i + 1) = (if o.o.loud then 1 else 0) + cntL l i := by
 unfold cntL
 rw [List.take_succ_cons, List.filter_cons]
 split
 ·rw [List.length_cons]; omega
 ·omega
theorem draw_trace {call : CallF} : ∀ (l : List AOper) (s s' : St) (hs H : List (List Blk)), runDraw call l s hs = some (s', H) → (∃ p, hs = p ++ [s.h]) →
  ∃ (E : List (Option Nat × AV)) (X : List (List Blk)), H = hs ++ X ∧ E.length = l.length ∧ X.length = cntL l l.length ∧ s'.t = puts s.t E ∧ H[hs.length - 1 + X.length]? = some s'.h ∧
   ∀ i o, l[i]? = some o → ∃ v, E[i]? = some (o.d, v) ∧ Came call (puts s.t (E.take i)) H (hs.length - 1 + cntL l i) o v
 | [], s, s', hs, H, hr, hp => by
  obtain ⟨p, rfl⟩ := hp
  cases hr
  exact ⟨[], [], by simp, rfl, rfl, rfl, by simp, fun i o ho => by simp at ho⟩
 | o :: l, s, s', hs, H, hr, hp => by
  obtain ⟨p, rfl⟩ := hp
  have hlen : (p ++ [s.h]).length - 1 = p.length := by simp
  rw [runDraw] at hr
  -- one step, and the others
  have step : ∀ (v : AV) (h' : List Blk) (lo : Option Nat) (Y : List (List Blk)), Y.length = (if o.o.loud then 1 else 0) → (∃ p', (p ++ [s.h]) ++ Y = p' ++ [h']) → runDraw call l { t := put s.t o.d v, h := h', lo := lo } ((p ++ [s.h]) ++ Y) = some (s', H) →
    (∀ X, H = ((p ++ [s.h]) ++ Y) ++ X → Came call s.t H p.length o v) →
    ∃ (E : List (Option Nat × AV)) (X : List (List Blk)), H = (p ++ [s.h]) ++ X ∧ E.length = (o :: l).length ∧ X.length = cntL (o :: l) (o :: l).length ∧ s'.t = puts s.t E ∧ H[(p ++ [s.h]).length - 1 + X.length]? = some s'.h ∧
     ∀ i o', (o :: l)[i]? = some o' → ∃ v, E[i]? = some (o'.d, v) ∧ Came call (puts s.t (E.take i)) H ((p ++ [s.h]).length - 1 + cntL (o :: l) i) o' v := by
   intro v h' lo Y hY hp' hrun hcame
   obtain ⟨E, X, h1, h2, h3, h4, h5, h6⟩ := draw_trace l _ s' _ H hrun hp'
   refine ⟨(o.d, v) :: E, Y ++ X, by rw [h1, List.append_assoc], by simp [h2], by rw [List.length_append, hY, h3, List.length_cons, cntL_succ], by rw [h4]; rfl, ?_, ?_⟩
   ·rw [← h5]; congr 1; simp only [List.length_append, List.length_cons, List.length_nil]; omega
   ·intro i o' ho'
    cases i with
    | zero =>
     simp at ho'
     subst ho'
     refine ⟨v, rfl, ?_⟩
     rw [hlen, cntL_zero, Nat.add_zero]
     exact hcame X h1
    | succ i =>
     obtain ⟨v', h7, h8⟩ := h6 i o' (by simpa using ho')
     refine ⟨v', by simpa using h7, ?_⟩
     rw [hlen, cntL_succ]
     have : ((p ++ [s.h]) ++ Y).length - 1 + cntL l i = p.length + ((if o.o.loud then 1 else 0) + cntL l i) := by rw [List.length_append, hY]; simp only [List.length_append, List.length_cons, List.length_nil]; omega
     rw [← this]
     exact h8
  have at0 : ∀ Y X : List (List Blk), (((p ++ [s.h]) ++ Y) ++ X)[p.length]? = some s.h := fun Y X => by
   rw [List.append_assoc, List.append_assoc, List.getElem?_append_right (Nat.le_refl _)]; simp
  have at1 : ∀ (h' : List Blk) (X : List (List Blk)), (((p ++ [s.h]) ++ [h']) ++ X)[p.length + 1]? = some h' := fun h' X => by
   rw [List.append_assoc, List.append_assoc, List.getElem?_append_right (by omega)]; simp
  split at hr <;> first | (cases hr; done) | skip
  ·rename_i hw
   by_cases hl : o.o.loud = true
   ·rw [if_pos hl] at hr
    refine step (.tup []) s.h s.lo [s.h] (by rw [if_pos hl]; rfl) ⟨p ++ [s.h], rfl⟩ hr fun X hX => (.inl ⟨hw, rfl, fun _ => ?_⟩)
    rw [hX, at1, at0]
   ·rw [if_neg hl] at hr
    exact step (.tup []) s.h s.lo [] (by rw [if_neg hl]; rfl) ⟨p, by simp⟩ (by rw [List.append_nil]; exact hr) fun X hX => (.inl ⟨hw, rfl, fun h => absurd h hl⟩)
  ·rename_i hw
   split at hr
   ·rename_i hl
    split at hr <;> first | (cases hr; done) | skip
    rename_i v h' lo hv
    exact step v h' _ [h'] (by rw [if_pos hl]; rfl) ⟨p ++ [s.h], rfl⟩ hr fun X hX => (.inr (.inl ⟨hw, hl, s.h, h', lo, by rw [hX, at0], by rw [hX, at1], hv⟩))
   ·rename_i hl
    have hl : o.o.loud = false := by simpa using hl
    split at hr <;> first | (cases hr; done) | skip
    rename_i h hh
    split at hr <;> first | (cases hr; done) | skip
    rename_i v hv
    split at hr <;> first | (cases hr; done) | skip
    rename_i s2 H2 hr2
    split at hr <;> cases hr
    rename_i hst
    refine step v s.h s.lo [] (by rw [hl]; rfl) ⟨p, by simp⟩ (by rw [List.append_nil]; exact hr2) fun X hX => (.inr (.inr ⟨hw, hl, ⟨h, hv⟩, fun hre q hq g1 g2 g3 => ?_⟩))
    rw [List.append_nil] at hX
    unfold stays at hst
    rw [hre, Bool.not_true, Bool.false_or, Bool.or_eq_true] at hst
    rcases hst with hst | hst
    ·have := Nat.le_of_ble_eq_true hst
     have hqk : q = o.k := by omega
     subst hqk
     rw [hX, List.getElem?_append_left (lt_of_get hh), hh] at g3
     cases g3
     exact hv
    ·have hin : hq ∈ (H.drop o.k).take (o.e + 1 - o.k) := by
      rw [List.mem_iff_getElem?]
      refine ⟨q - o.k, ?_⟩
      rw [List.getElem?_take, if_pos (by omega), List.getElem?_drop, show o.k + (q - o.k) = q by omega]
      exact g3
     have := List.all_eq_true.1 hst hq hin
     split at this
     ·rename_i v' hv'
      rw [hv', eqv_eq _ _ this]
     ·cases this
theorem cntL_mono (l : List AOper) {i j : Nat} (h : i ≤ j) : cntL l i ≤ cntL l j := by
 unfold cntL
 have : l.take i = (l.take j).take i := by rw [List.take_take]; congr 1; omega
 rw [this]
 exact (List.Sublist.filter _ (List.take_sublist _ _)).length_le
theorem cntL_at {l : List AOper} {i : Nat} {o : AOper} (ho : l[i]? = some o) : cntL l (i + 1) = cntL l i + (if o.o.loud then 1 else 0) := by
 unfold cntL
 rw [List.take_add_one, ho, List.filter_append, List.length_append]
 congr 1
 simp only [Option.toList_some, List.filter_cons, List.filter_nil]
 split <;> rfl
theorem cntL_lt {l : List AOper} {i j : Nat} {o : AOper} (ho : l[i]? = some o) (hl : o.o.loud = true) (h : i < j) : cntL l i < cntL l j := by
 have := cntL_mono l (show i + 1 ≤ j by omega)
 rw [cntL_at ho, if_pos hl] at this
 omega
theorem cntL_find {l : List AOper} : ∀ {n q : Nat}, n ≤ l.length → q < cntL l n → ∃ i o, i < n ∧ l[i]? = some o ∧ o.o.loud = true ∧ cntL l i = q
 | 0, q, _, h => by rw [cntL_zero] at h; omega
 | n + 1, q, hn, h => by
  have ho : l[n]? = some l[n] := List.getElem?_eq_getElem (by omega)
  rw [cntL_at ho] at h
  by_cases hlt : q < cntL l n
  ·obtain ⟨i, o, h1, h2⟩ := cntL_find (by omega) hlt
   exact ⟨i, o, by omega, h2⟩
  ·split at h
   ·rename_i hl; exact ⟨n, _, by omega, ho, hl, by omega⟩
   ·omega
open Go Go.Proofs.YtenpjpldjmoefaaGreatW.PrintWords Go.Proofs.YtenpjpldjmoefaaGreatW.PrintLast
section
variable {P : Program} {call : CallF}
theorem puts_rel {S m w} : ∀ (E : List (Option Nat × AV)) (R : List (Option Tmp × Value)) (k : Nat) (b : Nat → Bool) (t : List AV) (a : Act) (n : Nat), E.length = R.length → (∀ (j : Nat) (e : Option Nat × AV) (f : Option Tmp × Value), E[j]? = some e → R[j]? = some f → e.1 = f.1) → t.length = a.tmps.size →
  VRel S m w ((t[n]?).getD .dead) (a.tmps.getD n undef) → (∀ (j : Nat) (e : Option Nat × AV) (f : Option Tmp × Value), E[j]? = some e → R[j]? = some f → e.1 = some n → b (k + j) = true → VRel S m w e.2 f.2) →
  ∀ (c : Nat → Bool), (∀ (j : Nat) (e : Option Nat × AV), E[j]? = some e → e.1 = some n → c (k + j) = b (k + j)) →
  VRel S m w (((E.zipIdx k).foldl (fun t e => if c e.2 then put t e.1.1 e.1.2 else t) t)[n]?.getD .dead) ((fsel b k R a).tmps.getD n undef)
 | [], [], k, b, t, a, n, _, _, _, h0, _, c, _ => h0
 | [], _ :: _, _, _, _, _, _, hl, _, _, _, _, _, _ => by simp at hl
 | _ :: _, [], _, _, _, _, _, hl, _, _, _, _, _, _ => by simp at hl
 | e :: E, f :: R, k, b, t, a, n, hl, hd, hz, h0, hv, c, hc => by
  rw [List.zipIdx_cons, List.foldl_cons, fsel]
  have hd0 : e.1 = f.1 := hd 0 e f rfl rfl
  have sz : ∀ (x : Act) (d : Option Tmp) (v : Value), (x.put d v).tmps.size = x.tmps.size := fun x d v => put_size x d v
  have lz : ∀ (x : List AV) (d : Option Nat) (v : AV), (put x d v).length = x.length := fun x d v => by cases d <;> simp [put]
  refine puts_rel E R (k + 1) b _ _ n (by simpa using hl) (fun j e' f' he hf => hd (j + 1) e' f' (by simpa using he) (by simpa using hf)) ?_ ?_ (fun j e' f' he hf hn hb => hv (j + 1) e' f' (by simpa using he) (by simpa using hf) hn (by rw [show k + (j + 1) = k + 1 + j by omega]; exact hb)) c (fun j e' he hn => by
   have := hc (j + 1) e' (by simpa using he) hn
   rwa [show k + (j + 1) = k + 1 + j by omega] at this)
  ·simp only
   split <;> split <;> simp only [sz, lz, hz]
  ·simp only
   have other : e.1 ≠ some n → ∀ (c b : Bool), VRel S m w ((if c = true then put t e.1 e.2 else t)[n]?.getD .dead) ((if b = true then a.put f.1 f.2 else a).tmps.getD n undef) := by
    intro hne c b
    have h1 : (put t e.1 e.2)[n]? = t[n]? := by
     cases he : e.1 with
     | none => rfl
     | some d => simp only [put]; rw [List.getElem?_set_ne (fun h => hne (by rw [he, h]))]
    have h2 : (a.put f.1 f.2).tmps[n]? = a.tmps[n]? := by rw [put_get, if_neg (by rw [← hd0]; exact hne)]
    have h3 : (if c = true then put t e.1 e.2 else t)[n]? = t[n]? := by split <;> first | exact h1 | rfl
    have h4 : (if b = true then a.put f.1 f.2 else a).tmps.getD n undef = a.tmps.getD n undef := by
     split
     ·rw [Array.getD_eq_getD_getElem?, h2, ← Array.getD_eq_getD_getElem?]
     ·rfl
    rw [h3, h4]; exact h0
   by_cases he : e.1 = some n
   ·have hcb := hc 0 e rfl he
    rw [Nat.add_zero] at hcb
    rw [hcb]
    cases hb : b k with
    | false => simp only [Bool.false_eq_true, if_false]; exact h0
    | true =>
     simp only [if_true]
     have hvv := hv 0 e f rfl rfl he (by rw [Nat.add_zero]; exact hb)
     rw [he]
     have hf : f.1 = some n := by rw [← hd0]; exact he
     rw [hf]
     simp only [put]
     by_cases hn : n < t.length
     ·rw [List.getElem?_set_self hn, Array.getD_eq_getD_getElem?, put_get, if_pos rfl, if_pos (show n < a.tmps.size by omega)]
      exact hvv
     ·rw [List.getElem?_eq_none (by simp; omega)]
      exact .dead
   ·exact other he _ _
theorem puts_take (E : List (Option Nat × AV)) (t : List AV) (i : Nat) : puts t (E.take i) = (E.zipIdx 0).foldl (fun t e => if decide (e.2 < i) then put t e.1.1 e.1.2 else t) t := by
 have key : ∀ (E : List (Option Nat × AV)) (k : Nat) (t : List AV), puts t (E.take (i - k)) = (E.zipIdx k).foldl (fun t e => if decide (e.2 < i) then put t e.1.1 e.1.2 else t) t := by
  intro E
  induction E with
  | nil => intro k t; simp [puts]
  | cons e E ih =>
   intro k t
   rw [List.zipIdx_cons, List.foldl_cons, ← ih]
   by_cases h : k < i
   ·rw [show i - k = (i - (k + 1)) + 1 by omega, List.take_succ_cons]
    simp [puts, h]
   ·rw [show i - k = 0 by omega, show i - (k + 1) = 0 by omega]
    simp [puts, h]
 exact key E 0 t
theorem puts_len (t : List AV) : ∀ (E : List (Option Nat × AV)), (puts t E).length = t.length := by
 intro E
 induction E generalizing t with
 | nil => rfl
 | cons e E ih =>
  show (puts (put t e.1 e.2) E).length = _
  rw [ih]
  cases e.1 <;> simp [put]
theorem runDraw_sound (hC : CallOK P call) {ops : Array Oper} {id : Nat} {l : List AOper} {s s' : St} {S : Nat → Prop} {m : Emb} {w : World} {a : Act} {Q : Exit → Act → World → Prop} (hm : P.follows .mixedOrders = true)
  (hl : compL (compOper P ops) ops.toList = some l) (hsel : True) (hord : orderOk ops (Region.before ops).toList = true) (hloud : loudOk l (Region.before ops).toList = true) (hslots : slotsOk l (Region.before ops).toList = true) (hahead : aheadOk l (Region.before ops).toList = true)
  {H : List (List Blk)} (hr : runDraw call (marksK l (Region.before ops).toList) s [s.h] = some (s', H)) (r : Rep S m s.h w) (ht : TRel S m w s.t a.tmps)
  (hQ : ∀ S' m' w' a', Rep S' m' s'.h w' → TRel S' m' w' s'.t a'.tmps → Stp S m s.h w S' m' s'.h w' → a'.defers = a.defers → Q .normal a' w') : (Code.region id ops true).wp P Q a w := by
 obtain ⟨B, hB⟩ : ∃ B, B = (Region.before ops).toList := ⟨_, rfl⟩
 rw [← hB] at hord hloud hslots hahead hr
 obtain ⟨lk, hlk⟩ : ∃ lk, lk = marksK l B := ⟨_, rfl⟩
 rw [← hlk] at hr
 simp only [orderOk, Bool.and_eq_true] at hord
 obtain ⟨hw, hk⟩ := hord
 obtain ⟨hcl, hcg⟩ := compL_get hl
 have hn : l.length = ops.size := by simpa using hcl.symm
 -- the marked operations
 have hlkn : lk.length = ops.size := by rw [hlk]; simp [marksK, hn]
 have hget : ∀ (i : Nat) (o : AOper), l[i]? = some o → lk[i]? = some (mark l B i o) := by
  intro i o ho
  rw [hlk, marksK, List.getElem?_map, List.getElem?_zipIdx, ho]
  simp
 have hcomp : ∀ i, i < ops.size → ∃ o ao, ops[i]? = some o ∧ l[i]? = some ao ∧ compOper P ops o = some ao := by
  intro i hi
  have ho : ops.toList[i]? = some ops[i] := by simp [hi]
  obtain ⟨ao, h1, h2⟩ := hcg i _ ho
  exact ⟨ops[i], ao, by simp [hi], h2, h1⟩
 have hcnt : ∀ i, cntL lk i = cntL l i := by
  have : ∀ i : Nat, lk[i]?.map (fun o : AOper => o.o.loud) = l[i]?.map (fun o : AOper => o.o.loud) := by
   intro i
   cases ho : l[i]? with
   | none => rw [List.getElem?_eq_none (by have := List.getElem?_eq_none_iff.1 ho; omega)]
   | some o => rw [hget i o ho]; rfl
  intro i
  induction i with
  | zero => rfl
  | succ i ih =>
   cases ho : l[i]? with
   | none =>
    have h1 : l.length ≤ i := List.getElem?_eq_none_iff.1 ho
    unfold cntL at ih ⊢
    rw [List.take_of_length_le (by omega), List.take_of_length_le (by omega)] at ih ⊢
    exact ih
   | some o => rw [cntL_at ho, cntL_at (hget i o ho), ih]; rfl
 obtain ⟨E, X, hHX, hE1, hX, hst, hsh, htr⟩ := draw_trace lk s s' [s.h] H hr ⟨[], rfl⟩
 have hone : ([s.h] : List (List Blk)).length - 1 = 0 := rfl
 rw [hone, Nat.zero_add] at hsh
 simp only [hone, Nat.zero_add, hcnt] at htr
 have hH0 : H[0]? = some s.h := by rw [hHX]; rfl
 rw [hX, hlkn, hcnt] at hsh
 -- edges
 have hbit : ∀ i j, i < j → j < ops.size → ∀ x y, l[i]? = some x → l[j]? = some y → clash x y = true → (B.getD j 0).testBit i = true := by
  intro i j hij hj x y hx hy hc
  have h1 := List.all_eq_true.1 (List.all_eq_true.1 hslots j (List.mem_range.2 (by omega))) i (List.mem_range.2 hij)
  rw [hx, hy] at h1
  simp only [hc, Bool.not_true, Bool.false_or] at h1
  exact h1
 have hlb : ∀ i j, i < j → j < ops.size → ∀ x y, l[i]? = some x → l[j]? = some y → x.o.loud = true → y.o.loud = true → (B.getD j 0).testBit i = true := by
  intro i j hij hj x y hx hy h1 h2
  have h3 := List.all_eq_true.1 (List.all_eq_true.1 hloud j (List.mem_range.2 (by omega))) i (List.mem_range.2 hij)
  simp only [loudAt, hx, hy, h1, h2, Bool.and_self, Bool.not_true, Bool.false_or] at h3
  exact h3
 have hlen : (rtab Region.Mode.any ops).2.length = ops.size := by simp [rtab]
 have hmem : ∀ j, j < ops.size → (List.range ops.size).contains j = true := fun j hj => by simp [hj]
 obtain ⟨r0, t0⟩ := drew_keep r
 -- what holds when b's operations are done
 let I : (Nat → Bool) → Act → World → Prop := fun b a' w' => ∃ (S' : Nat → Prop) (m' : Emb) (R : List (Option Tmp × Value)) (k : Nat) (hh : List Blk), R.length = ops.size ∧ a' = fsel b 0 R a ∧
  (∀ (j : Nat) (e : Option Nat × AV) (f : Option Tmp × Value), E[j]? = some e → R[j]? = some f → e.1 = f.1 ∧ (b j = true → VRel S' m' w' e.2 f.2)) ∧
  (∀ j o, l[j]? = some o → o.o.loud = true → (b j = true ↔ cntL l j < k)) ∧ H[k]? = some hh ∧ Rep S' m' hh w' ∧ Stp S m s.h w S' m' hh w'
 refine start_ (n := ops.size) (S := fun _ => True) (ds := []) (Array.replicate ops.size false) hm rfl rfl trivial (fun _ => ?_)
 refine inv_ (T := rtab .any ops) (B := B) (List.range ops.size) I rfl hw hk ?_ ?_ ?_ ?_
 ·rw [hlen]
  simp only [List.length_range, beq_self_eq_true, Bool.and_true, beq_iff_eq]
  apply List.ext_getElem
  ·simp [lof]
  ·intro i h1 h2
   simp only [lof, List.getElem_map, List.getElem_range, Array.toList_replicate, List.getElem_replicate]
   rw [if_pos]
   simpa [lof] using h1
 ·refine ⟨S, m, E.map fun e => (e.1, undef), 0, s.h, by simp [hE1, hlkn], (fsel_none _ 0 a).symm, ?_, ?_, hH0, r0, t0⟩
  ·intro j e f he hf
   rw [List.getElem?_map, he] at hf
   cases hf
   exact ⟨rfl, fun h => by cases h⟩
  ·intro j o ho hlo
   simp
 ·intro i hi b a' w' hI hb hon hoff
  obtain ⟨S', m', R, k, hh, hRl, rfl, hRE, hpre, hHk, rk, tk⟩ := hI
  have hi' : i < ops.size := List.mem_range.1 hi
  obtain ⟨o, ao, ho, hao, hco⟩ := hcomp i hi'
  refine ⟨o, ho, fun K hK => ?_⟩
  obtain ⟨v, hEv, hcame⟩ := htr i _ (hget i ao hao)
  -- the slots that it looks at
  have hsee : ∀ n, n ∈ ao.looks → VRel S' m' w' (((puts s.t (E.take i))[n]?).getD .dead) ((fsel b 0 R a).tmps.getD n undef) := by
   intro n hnl
   rw [puts_take]
   refine puts_rel E R 0 b s.t a n (by omega) (fun j e f he hf => (hRE j e f he hf).1) (by have := ht.1; simpa using this) (TRel.get (ht.keep (tk.kp r)) n) (fun j e f he hf _ hbj => (hRE j e f he hf).2 (by simpa using hbj)) (fun j => decide (j < i)) (fun j e he hne => ?_)
   rw [Nat.zero_add]
   have hj : j < ops.size := by have := lt_of_get he; omega
   obtain ⟨oj, aj, hoj, haj, hcj⟩ := hcomp j hj
   obtain ⟨vj, hEj, _⟩ := htr j _ (hget j aj haj)
   rw [he] at hEj
   cases hEj
   have hdj : aj.d = some n := hne
   by_cases hlt : j < i
   ·rw [decide_eq_true hlt]
    have hc : clash aj ao = true := by simp only [clash, hitsD, hdj, Bool.or_eq_true]; exact .inl (.inl (by simpa using hnl))
    exact (hon j (by rw [hmem j hj, hbit j i hlt hi' _ _ haj hao hc]; rfl)).symm
   ·rw [decide_eq_false hlt]
    by_cases hji : j = i
    ·rw [hji, hb]
    ·have hc : clash ao aj = true := by simp only [clash, hitsD, hdj, Bool.or_eq_true]; exact .inl (.inr (by simpa using hnl))
     exact (hoff j (by rw [hmem j hj, hbit i j (by omega) hj _ _ hao haj hc]; rfl)).symm
  -- what it evaluates
  have hEv2 : ∀ x y, compO x = some y → VRel S' m' w' (evalM ao.o.slots (puts s.t (E.take i)) y) ((fsel b 0 R a).eval x) := by
   intro x y hxy
   cases x with
   | tmp n =>
    cases hxy
    simp only [evalM]
    split
    ·rename_i hc
     exact hsee n (List.mem_append_right _ (by simpa using hc))
    ·exact .dead
   | const c =>
    simp only [compO, Option.map_eq_some_iff] at hxy
    obtain ⟨c', h1, rfl⟩ := hxy
    exact ofV_sound h1
   | global g => cases hxy
   | func f => cases hxy; exact LRel.fn LRel.nil LRel.nil
  obtain ⟨hco1, hdd⟩ : (ao.o ≠ .bad → compOp P o = some ao.o) ∧ ao.d = o.dst := by
   have hap : (compOp P o).getD .bad ≠ .bad → compOp P o = some ((compOp P o).getD .bad) := by
    intro hne
    cases hcc : compOp P o with
    | none => rw [hcc] at hne; exact absurd rfl hne
    | some x => rfl
   unfold compOper at hco
   split at hco
   ·cases hco; exact ⟨hap, rfl⟩
   ·split at hco <;> cases hco; exact ⟨hap, rfl⟩
  have hwant : ∀ c, wanted (puts s.t (E.take i)) ao.g = some c → Region.wanted o (yielded ops (fsel b 0 R a).tmps) = c := by
   intro c hc
   unfold compOper at hco
   split at hco
   ·rename_i hg
    cases hco
    simp only [wanted, Option.some.injEq] at hc
    subst hc
    simp [Region.wanted, hg]
   ·rename_i j want hg
    split at hco <;> first | (cases hco; done) | skip
    rename_i d hd
    cases hco
    simp only [wanted] at hc
    simp only [Region.wanted, hg]
    have hsd := hsee d (List.mem_append_left _ (by simp))
    split at hc
    ·rename_i c' hc'
     cases hc
     rw [hc'] at hsd
     simp only [Option.getD_some] at hsd
     have hv := vbool hsd
     have : (fsel b 0 R a).tmps[d]? = some (.bool c') := by
      rw [Array.getD_eq_getD_getElem?] at hv
      cases hq : (fsel b 0 R a).tmps[d]? with
      | none => rw [hq] at hv; simp [undef] at hv
      | some q => rw [hq] at hv; simpa using hv
     simp [yielded, hd, this]
    ·rename_i hc'
     cases hc
     rw [hc'] at hsd
     simp only [Option.getD_some] at hsd
     have hy : yielded ops (fsel b 0 R a).tmps j = none := by
      simp only [yielded, hd, Option.bind_some]
      rw [Array.getD_eq_getD_getElem?] at hsd
      cases hq : (fsel b 0 R a).tmps[d]? with
      | none => rfl
      | some q =>
       rw [hq] at hsd
       simp only [Option.getD_some] at hsd
       cases q <;> first | rfl | (cases hsd; done)
     rw [hy]; rfl
    ·cases hc
  have hRi : ∃ f, R[i]? = some f ∧ f.1 = o.dst := by
   have : i < R.length := by omega
   refine ⟨R[i], List.getElem?_eq_getElem this, ?_⟩
   rw [← hdd]
   exact ((hRE i _ _ hEv (List.getElem?_eq_getElem this)).1).symm
  obtain ⟨f0, hf0, hf1⟩ := hRi
  -- the step, once it is known what it came to
  have done : ∀ (x : Value) (S2 : Nat → Prop) (m2 : Emb) (w2 : World) (k2 : Nat) (h2 : List Blk), VRel S2 m2 w2 v x → Rep S2 m2 h2 w2 → Stp S' m' hh w' S2 m2 h2 w2 → H[k2]? = some h2 →
    (∀ j o', l[j]? = some o' → o'.o.loud = true → (up b i j = true ↔ cntL l j < k2)) → K ((fsel b 0 R a).put o.dst x) w2 := by
   intro x S2 m2 w2 k2 h2 g1 g2 g3 g4 g5
   refine hK.out _ _ ⟨S2, m2, R.set i (o.dst, x), k2, h2, by simp [hRl], ?_, ?_, g5, g4, g2, tk.trans g3⟩
   ·have hset : fsel b 0 R a = fsel b 0 (R.set i (o.dst, x)) a := by
     have gen : ∀ (R : List (Option Tmp × Value)) (k q : Nat) (a : Act), b (k + q) = false → fsel b k R a = fsel b k (R.set q (o.dst, x)) a := by
      intro R
      induction R with
      | nil => intro k q a _; rfl
      | cons e R ih =>
       intro k q a hbq
       cases q with
       | zero => rw [List.set_cons_zero, fsel, fsel]; rw [Nat.add_zero] at hbq; rw [hbq]; rfl
       | succ q => rw [List.set_cons_succ, fsel, fsel]; exact ih (k + 1) q _ (by rw [show k + 1 + q = k + (q + 1) by omega]; exact hbq)
     exact gen R 0 i a (by rw [Nat.zero_add]; exact hb)
    rw [hset]
    refine fsel_up (R.set i (o.dst, x)) 0 i a (by omega) (by rw [List.getElem?_set_self (by omega)]) hb (fun j e t hj he hbj hd => ?_)
    rw [Nat.zero_add] at hbj
    have hj' : j < ops.size := by have := lt_of_get he; simp at this; omega
    obtain ⟨oj, aj, hoj, haj, hcj⟩ := hcomp j hj'
    obtain ⟨vj, hEj, _⟩ := htr j _ (hget j aj haj)
    rw [List.getElem?_set_ne (by omega)] at he
    have h1 := (hRE j _ _ hEj he).1
    intro het
    have hdj : aj.d = some t := by rw [← het]; exact h1
    have hc : clash ao aj = true := by
     simp only [clash, Bool.or_eq_true]
     refine .inr ?_
     rw [hdd, hd, hdj]; simp
    have := hoff j (by rw [hmem j hj', hbit i j hj hj' _ _ hao haj hc]; rfl)
    rw [this] at hbj
    cases hbj
   ·intro j e f he hf
    by_cases hji : j = i
    ·subst hji
     rw [List.getElem?_set_self (by omega)] at hf
     cases hf
     rw [hEv] at he
     cases he
     exact ⟨hdd, fun _ => g1⟩
    ·rw [List.getElem?_set_ne (by omega)] at hf
     obtain ⟨h1, h2'⟩ := hRE j e f he hf
     exact ⟨h1, fun hbj => (h2' (by rwa [up_ne hji] at hbj)).keep (g3.kp rk)⟩
  have same : ao.o.loud = false → ∀ j o', l[j]? = some o' → o'.o.loud = true → (up b i j = true ↔ cntL l j < k) := by
   intro hnl j o' hj hlo
   have : j ≠ i := by
    rintro rfl
    rw [hao] at hj; cases hj
    rw [hnl] at hlo; cases hlo
   rw [up_ne this]
   exact hpre j o' hj hlo
  -- a loud one stands just behind those ahead of it
  have rank : ao.o.loud = true → k = cntL l i ∧ ∀ j o', l[j]? = some o' → o'.o.loud = true → (up b i j = true ↔ cntL l j < k + 1) := by
   intro hlo
   have h1 : ¬ cntL l i < k := fun h => by have := (hpre i ao hao hlo).2 h; rw [hb] at this; cases this
   have h2 : cntL l i ≤ k := by
    rcases Nat.lt_or_ge k (cntL l i) with h | h
    ·obtain ⟨j, oj, hj1, hj2, hj3, hj4⟩ := cntL_find (by omega) h
     have := hon j (by rw [hmem j (by omega), hlb j i hj1 hi' _ _ hj2 hao hj3 hlo]; rfl)
     have := (hpre j oj hj2 hj3).1 this
     omega
    ·exact h
   have hk : k = cntL l i := by omega
   refine ⟨hk, fun j o' hj hlo' => ?_⟩
   by_cases hji : j = i
   ·subst hji; rw [up_self]; simp [hk]
   ·rw [up_ne hji, hpre j o' hj hlo']
    constructor
    ·intro h; omega
    ·intro h
     rcases Nat.lt_trichotomy j i with h3 | h3 | h3
     ·have := cntL_lt hj hlo' h3; omega
     ·exact absurd h3 hji
     ·have := cntL_lt hao hlo h3; omega
  rcases hcame with ⟨h1, rfl, h3⟩ | ⟨h1, h2, h, h', lo, h3, h4, h5⟩ | ⟨h1, h2, ⟨h, h3⟩, h4⟩
  ·rw [if_neg (by rw [hwant false h1]; decide)]
   by_cases hlo : ao.o.loud = true
   ·obtain ⟨hk, hup⟩ := rank hlo
    refine done undef S' m' w' (k + 1) hh (LRel.tup LRel.nil) rk (Stp.refl ..) ?_ hup
    rw [hk]
    rw [hk] at hHk
    exact (h3 hlo).trans hHk
   ·exact done undef S' m' w' k hh (LRel.tup LRel.nil) rk (Stp.refl ..) hHk (same (by simpa using hlo))
  ·rw [if_pos (hwant true h1)]
   obtain ⟨hk, hup⟩ := rank h2
   rw [← hk, hHk] at h3
   cases h3
   exact lOp_sound hC hEv2 rk (hco1 (lOp_ne_bad h5)) h5 _ _ fun x S2 m2 w2 g1 g2 g3 => done x S2 m2 w2 (k + 1) h' g1 g2 g3 (by rw [hk]; exact h4) hup
  ·rw [if_pos (hwant true h1)]
   have h2' : ao.o.loud = false := h2
   have hp : pOp (evalM ao.o.slots (puts s.t (E.take i))) hh ao.o = some v := by
    by_cases hre : ao.o.reads = true
    ·-- those ahead are done
     have hk : ahead l B i ≤ k := by
      have hsub : ∀ j, j ∈ (List.range l.length).filter (fun j => loudAt l j && (B.getD i 0).testBit j) → cntL l j < k := by
       intro j hj
       rw [List.mem_filter, Bool.and_eq_true] at hj
       obtain ⟨hj1, hj2, hj3⟩ := hj
       have hj' : j < ops.size := by simpa [hn] using hj1
       obtain ⟨oj, aj, hoj, haj, hcj⟩ := hcomp j hj'
       have hl2 : aj.o.loud = true := by simpa [loudAt, haj] using hj2
       exact (hpre j aj haj hl2).1 (hon j (by rw [hmem j hj', hj3]; rfl))
      unfold ahead
      have hnd : ((List.range l.length).filter (fun j => loudAt l j && (B.getD i 0).testBit j)).map (cntL l) |>.Nodup := by
       rw [List.nodup_iff_pairwise_ne, List.pairwise_map]
       refine List.Pairwise.imp_of_mem (R := (· < ·)) ?_ ((List.pairwise_lt_range).filter _)
       intro x y hx hy hxy
       rw [List.mem_filter, Bool.and_eq_true] at hx hy
       have hx' : x < ops.size := by simpa [hn] using hx.1
       obtain ⟨ox, ax, hox, hax, hcx⟩ := hcomp x hx'
       have := cntL_lt hax (by simpa [loudAt, hax] using hx.2.1) hxy
       omega
      have hle := List.Nodup.length_le_of_subset hnd (l₂ := List.range k) (fun q hq => by
       rw [List.mem_map] at hq
       obtain ⟨j, hj, rfl⟩ := hq
       exact List.mem_range.2 (hsub j hj))
      simpa using hle
     -- those behind are not
     have hk2 : k ≤ latest l B i := by
      have fold : ∀ (L : List Nat) (m0 : Nat), k ≤ m0 → (∀ j, j ∈ L → k ≤ cntL l j) → k ≤ L.foldl (fun m j => Nat.min m (cntL l j)) m0 := by
       intro L
       induction L with
       | nil => intro m0 h _; exact h
       | cons x L ih => intro m0 h hL; exact ih _ (Nat.le_min.2 ⟨h, hL x (by simp)⟩) fun j hj => hL j (by simp [hj])
      unfold latest
      refine fold _ _ ?_ fun j hj => ?_
      ·have := lt_of_get hHk
       rw [hHX] at this
       simp only [List.length_append, List.length_cons, List.length_nil, hX, hlkn, hcnt] at this
       rw [hn]; omega
      ·rw [List.mem_filter, Bool.and_eq_true] at hj
       obtain ⟨hj1, hj2, hj3⟩ := hj
       have hj' : j < ops.size := by simpa [hn] using hj1
       obtain ⟨oj, aj, hoj, haj, hcj⟩ := hcomp j hj'
       have hl2 : aj.o.loud = true := by simpa [loudAt, haj] using hj2
       have hbf := hoff j (by rw [hmem j hj', hj3]; rfl)
       rcases Nat.lt_or_ge (cntL l j) k with hlt | hge
       ·have := (hpre j aj haj hl2).2 hlt
        rw [hbf] at this; cases this
       ·exact hge
     exact h4 hre k hh (by simp only [mark, h2', Bool.false_eq_true, if_false]; exact hk) (by simp only [mark, h2', Bool.false_eq_true, if_false]; exact hk2) hHk
    ·exact pOp_blind (by simpa using hre) h3
   exact pOp_wp hEv2 rk (hco1 (pOp_ne_bad hp)) hp _ _ fun x g1 => done x S' m' w' k hh g1 rk (Stp.refl ..) hHk (same h2')
 ·rintro b a' w' hall ⟨S', m', R, k, hh, hRl, rfl, hRE, hpre, hHk, rk, tk⟩
  have hbj : ∀ j, j < ops.size → b j = true := fun j hj => hall j (hmem j hj)
  -- all are done
  have hk : k = cntL l ops.size := by
   rcases Nat.lt_trichotomy k (cntL l ops.size) with h | h | h
   ·obtain ⟨j, oj, hj1, hj2, hj3, hj4⟩ := cntL_find (by omega) h
    have := (hpre j oj hj2 hj3).1 (hbj j hj1)
    omega
   ·exact h
   ·have := lt_of_get hHk
    rw [hHX] at this
    simp only [List.length_append, List.length_cons, List.length_nil, hX, hlkn, hcnt] at this
    omega
  rw [hk, hsh] at hHk
  cases hHk
  refine hQ S' m' w' _ rk ?_ tk ?_
  ·-- slots
   refine ⟨?_, fun n hnl => ?_⟩
   ·have h1 := fsel_size b R 0 a
    have h2 := ht.1
    rw [hst, puts_len]
    simp only [Array.length_toList] at h2 ⊢
    omega
   ·have h1 := puts_rel E R 0 b s.t a n (by omega) (fun j e f he hf => (hRE j e f he hf).1) (by have := ht.1; simpa using this) (TRel.get (ht.keep (tk.kp r)) n) (fun j e f he hf _ hb' => (hRE j e f he hf).2 (by simpa using hb')) (fun j => decide (j < ops.size)) (fun j e he hne => by
     have hj : j < ops.size := by have := lt_of_get he; omega
     rw [Nat.zero_add, decide_eq_true hj, hbj j hj])
    rw [← puts_take, List.take_of_length_le (by omega), ← hst] at h1
    simpa [List.getD_eq_getElem?_getD, Array.getD_eq_getD_getElem?] using h1
  ·have gen : ∀ (R : List (Option Tmp × Value)) (k : Nat) (a : Act), (fsel b k R a).defers = a.defers := by
    intro R
    induction R with
    | nil => intro k a; rfl
    | cons e R ih =>
     intro k a
     rw [fsel, ih]
     split
     ·cases e.1 <;> rfl
     ·rfl
   exact gen R 0 a
end
end Go.Proofs.YtenpjpldjmoefaaGreat.AM

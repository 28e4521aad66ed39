/-
  'gauger's law ChainExact holds of every input: it returns true, and each argument reads behind the call as it read before.
  This text: part 6 of 14 of the proof (AmRg, AmPt, AmDc, AmKy, AmFh, AmW).
-/
import Derived.Test.YtlhbfikfnecknaaMad
import Derived.Maps.RangeRun
import Derived.Test.YtlhbfikfnecknaaMae
import Derived.Maps.Own
import Derived.Lib.SlKeysI
import Derived.WideShapes
import Derived.ChangeArms
import Derived.DataReads
import Derived.DataElems
set_option linter.unusedVariables false
set_option linter.unusedSimpArgs false
namespace Go.Proofs.Ytlhbfikfnecknaa.AM
open Go
open Go.ChangeMaps (setBlock)
section
variable {P : Program} {call : CallF}
def DC (P : Program) (code : Code) (s : St) (Q : AExit → St → Prop) : Prop :=
 ∀ (S : Nat → Prop) (m : Emb) (w : World) (a : Act), Rep S m s.h w → TRel S m w s.t a.tmps → code.wp P (fun ex a' w' => ∃ e s', Q e s' ∧ Post S m s.h w a e s' ex a' w') a w
theorem DC.mono {code : Code} {s : St} {Q R : AExit → St → Prop} (h : DC P code s Q) (hqr : ∀ e s', Q e s' → R e s') : DC P code s R :=
 fun S m w a r ht => wp_mono (h S m w a r ht) fun ex a' w' hp => by
  obtain ⟨e, s', h1, h2⟩ := hp
  exact ⟨e, s', hqr e s' h1, h2⟩
theorem DC.am (hm : P.follows .mixedOrders = true) (hC : CallOK P call) {n : Nat} {c : ACode} {s : St} {e : AExit} {s' : St} {code : Code} (hc : compC P code = some c) (he : exec call n c s = some (e, s')) {Q : AExit → St → Prop} (hq : Q e s') : DC P code s Q :=
 fun S m w a r ht => wp_mono (exec_sound hm hC n c s e s' code hc he S m w a r ht) fun ex a' w' hp => ⟨e, s', hq, hp⟩
theorem DC.seq {x y : Code} {s : St} {Q R : AExit → St → Prop} (hx : DC P x s Q) (hn : ∀ s', Q .normal s' → DC P y s' R) (he : ∀ e s', e ≠ .normal → Q e s' → R e s') : DC P (.seq x y) s R := by
 intro S m w a r ht
 refine wp_seq (wp_mono (hx S m w a r ht) fun ex a' w' hp => ?_)
 obtain ⟨e, s', h1, h2⟩ := hp
 obtain ⟨g1, S', m', g2, g3, g4, g5⟩ := h2
 cases ex with
 | normal =>
  cases e <;> simp only [exRel] at g1
  refine wp_mono (hn s' h1 S' m' w' a' g2 g3) fun ex2 a2 w2 hp2 => ?_
  obtain ⟨e2, s2, k1, k2⟩ := hp2
  exact ⟨e2, s2, k1, Post.trans g4 g5 k2⟩
 | exit i =>
  cases e <;> simp only [exRel] at g1
  exact ⟨_, s', he _ s' (by simp) h1, ⟨g1, S', m', g2, g3, g4, g5⟩⟩
 | ret =>
  cases e <;> simp only [exRel] at g1
  exact ⟨_, s', he _ s' (by simp) h1, ⟨trivial, S', m', g2, g3, g4, g5⟩⟩
 | goto l => cases e <;> simp only [exRel] at g1
 | panic c => cases e <;> simp only [exRel] at g1
 | outgrown => cases e <;> simp only [exRel] at g1
theorem runOps_part (hC : CallOK P call) {ops : Array Oper} {Q : Exit → Act → World → Prop} (rest : List Nat) : ∀ (os : List Oper) (i : Nat) (l : List AOper) (s s' : St) (S : Nat → Prop) (m : Emb) (w : World) (a : Act), (∀ j, j < os.length → ops[i + j]? = os[j]?) → compL (compOper P ops) os = some l → runOps call l s = some s' →
  Rep S m s.h w → TRel S m w s.t a.tmps → (∀ S' m' w' a', Rep S' m' s'.h w' → TRel S' m' w' s'.t a'.tmps → Stp S m s.h w S' m' s'.h w' → a'.defers = a.defers → wpOps P ops Q rest a' w') → wpOps P ops Q (List.range' i os.length ++ rest) a w
 | [], i, l, s, s', S, m, w, a, ho, hl, hr, r, ht, hQ => by
  cases hl
  cases hr
  exact hQ S m w a r ht (Stp.refl ..) rfl
 | o :: os, i, l, s, s', S, m, w, a, ho, hl, hr, r, ht, hQ => by
  obtain ⟨ao, l', rfl, h1, h2⟩ := compL_cons hl
  have hoi : ops[i]? = some o := by simpa using ho 0 (by simp)
  have hos : ∀ j, j < os.length → ops[i + 1 + j]? = os[j]? := fun j hj => by
   have := ho (j + 1) (by simp; omega)
   rw [show i + 1 + j = i + (j + 1) by omega, this]
   rfl
  rw [List.length_cons, List.range'_succ, List.cons_append]
  rw [runOps] at hr
  have go : ∀ (x : Value) (v : AV) (S' : Nat → Prop) (m' : Emb) (w' : World) (h' : List Blk) (lo : Option Nat), runOps call l' { t := put s.t ao.d v, h := h', lo := lo } = some s' → ao.d = o.dst → VRel S' m' w' v x → Rep S' m' h' w' → Stp S m s.h w S' m' h' w' →
    wpOps P ops Q (List.range' (i + 1) os.length ++ rest) (a.put o.dst x) w' := by
   intro x v S' m' w' h' lo g1 g2 g3 g4 g5
   refine runOps_part hC rest os (i + 1) l' _ s' S' m' w' (a.put o.dst x) hos h2 g1 g4 ?_ ?_
   ·rw [g2]; exact TRel.put (ht.keep (g5.kp r)) _ g3
   ·intro S2 m2 w2 a2 k1 k2 k3 k4
    exact hQ S2 m2 w2 a2 k1 k2 (g5.trans k3) (k4.trans (by cases o.dst <;> rfl))
  simp only [wpOps, hoi]
  split at hr <;> first | (cases hr; done) | skip
  ·rename_i hw
   obtain ⟨k1, k2, k3⟩ := wanted_sound (P := P) ht h1 hw
   rw [if_neg (by rw [k1]; decide)]
   exact go undef (.tup []) S m w s.h s.lo hr k3 (LRel.tup LRel.nil) r (Stp.refl ..)
  ·rename_i hw
   obtain ⟨k1, k2, k3⟩ := wanted_sound (P := P) ht h1 hw
   rw [if_pos k1]
   refine .inl ?_
   split at hr
   ·split at hr <;> first | (cases hr; done) | skip
    rename_i v h' lo hv
    exact lOp_sound hC (fun x y hx => compO_sound ht hx) r (k2 (lOp_ne_bad hv)) hv _ _ fun x S' m' w' g1 g2 g3 => go x v S' m' w' h' _ hr k3 g1 g2 g3
   ·split at hr <;> first | (cases hr; done) | skip
    rename_i v hv
    exact pOp_wp (fun x y hx => compO_sound ht hx) r (k2 (pOp_ne_bad hv)) hv _ _ fun x g1 => go x v S m w s.h s.lo hr k3 g1 r (Stp.refl ..)
theorem rep_iter {S m h} {w w' : World} (r : Rep S m h w) (lk : Like w w') {o : Obj} (hw : w'.heap = w.heap.push o) :
  Rep S (upd m h.length (w.heap.size, 0, 0)) (h ++ [.gone]) w' ∧ Stp S m h w S (upd m h.length (w.heap.size, 0, 0)) (h ++ [.gone]) w' := by
 have hdom : m h.length = none := r.dom _ (Nat.le_refl _)
 have hold : ∀ b, b < w.heap.size → w'.heap[b]? = w.heap[b]? := fun b hlt => by rw [hw, Array.getElem?_push, if_neg (by omega)]
 have hk : Kp S m w S (upd m h.length (w.heap.size, 0, 0)) w' := ⟨fun _ h => h, fun b hS => hold b (r.sb b hS), upd_le hdom⟩
 have hsz : w'.heap.size = w.heap.size + 1 := by rw [hw]; simp
 have hown : ∀ id b, owns (h ++ [.gone]) (upd m h.length (w.heap.size, 0, 0)) id b → owns h m id b := by
  rintro id b ⟨⟨d, z', hm⟩, hl⟩
  rcases live_append hl with hl | ⟨e', hne⟩
  ·have e : id ≠ h.length := by
    obtain ⟨bl, h1, _⟩ := hl
    have := lt_of_get h1
    omega
   exact ⟨⟨d, z', by rw [upd_ne e] at hm; exact hm⟩, hl⟩
  ·exact absurd rfl hne
 refine ⟨⟨?_, ?_, ?_, fun i j b hi hj => r.inj i j b (hown i b hi) (hown j b hj)⟩, ⟨fun _ h => h, upd_le hdom, lk.os, lk.tape, lk.output, by omega, by simp, fun b hb _ => hold b hb, fun id b ho _ => ⟨id, hown id b ho⟩, fun _ h => .inl h⟩⟩
 ·intro b hS; have := r.sb b hS; omega
 ·intro id hid
  simp at hid
  rw [upd_ne (by omega)]
  exact r.dom id (by omega)
 ·intro id b' hb'
  by_cases hlt : id < h.length
  ·rw [List.getElem?_append_left hlt] at hb'
   refine (r.blk id b' hb').keep r hk fun b hm hg => ?_
   have ho : owns h m id b := ⟨hm, b', hb', hg⟩
   exact ⟨hold b (owns_lt r ho), owns_not_S r ho⟩
  ·have e : id = h.length := by have := lt_of_get hb'; simp at this; omega
   subst e
   simp at hb'
   subst hb'
   trivial
theorem rep_other {S m h} {w w' : World} (rp : Rep S m h w) {r : Nat} (hsz : w'.heap.size = w.heap.size) (hne : ∀ k, k ≠ r → w'.heap[k]? = w.heap[k]?) (hS : ¬ S r) (ho : ∀ id, ¬ owns h m id r) : Rep S m h w' ∧ Kp S m w S m w' := by
 have hk : Kp S m w S m w' := ⟨fun _ h => h, fun b hb => hne b fun e => hS (e ▸ hb), fun _ _ h => h⟩
 refine ⟨⟨fun b hb => by rw [hsz]; exact rp.sb b hb, rp.dom, fun id bl hb => (rp.blk id bl hb).keep rp hk fun b hm hg => ?_, rp.inj⟩, hk⟩
 have hob : owns h m id b := ⟨hm, bl, hb, hg⟩
 exact ⟨hne b fun e => ho id (e ▸ hob), owns_not_S rp hob⟩
theorem stp_other {S m h w S' m' h'} {w1 w2 : World} (t : Stp S m h w S' m' h' w1) (lk : Like w1 w2) {r : Nat} (hsz : w2.heap.size = w1.heap.size) (hne : ∀ k, k ≠ r → w2.heap[k]? = w1.heap[k]?) (hr : w.heap.size ≤ r) : Stp S m h w S' m' h' w2 :=
 ⟨t.ts, t.tm, lk.os.trans t.os, lk.tape.trans t.tape, lk.output.trans t.output, by rw [hsz]; exact t.size, t.len, fun b hb hn => (hne b (by omega)).trans (t.fr b hb hn), t.own, t.sn⟩
theorem rep_show {S m h w S' m' h'} {w' : World} (r : Rep S m h w) (rp : Rep S' m' h' w') (t : Stp S m h w S' m' h' w') {id b ck : Nat} {es : List (AV × AV)} {en : Array MapEntry} (hes : h[id]? = some (.map es)) (hm : m id = some (b, 0, 0)) (hid : h'[id]? = some .gone)
  (hb : w'.heap[b]? = some (.map en ck)) (h1 : LRel S m w (es.map (·.1)) (en.toList.map (·.key))) (h2 : LRel S m w (es.map (·.2)) (en.toList.map (·.val))) (hbo : BornOk en ck) (hno : ∀ j, ¬ owns h' m' j b) (hnS : ¬ S' b) :
  Rep S' m' (h'.set id (.map es)) w' ∧ Stp S m h w S' m' (h'.set id (.map es)) w' := by
 have hidl := lt_of_get hid
 have hm' := t.tm _ _ hm
 have hk := t.kp r
 have hown : ∀ i k, owns (h'.set id (.map es)) m' i k → (i = id ∧ k = b) ∨ owns h' m' i k := by
  rintro i k ⟨⟨d, z, g1⟩, bl, g2, g3⟩
  by_cases e : id = i
  ·subst e
   rw [hm'] at g1
   cases g1
   exact .inl ⟨rfl, rfl⟩
  ·rw [List.getElem?_set_ne e] at g2
   exact .inr ⟨⟨d, z, g1⟩, bl, g2, g3⟩
 refine ⟨⟨rp.sb, fun i hi => rp.dom i (by simpa using hi), ?_, ?_⟩, ⟨t.ts, t.tm, t.os, t.tape, t.output, t.size, by rw [List.length_set]; exact t.len, t.fr, ?_, t.sn⟩⟩
 ·intro i bl hbl
  by_cases e : id = i
  ·subst e
   rw [List.getElem?_set_self hidl] at hbl
   cases hbl
   exact ⟨b, ck, en, hm', hb, h1.keep hk, h2.keep hk, hnS, hbo⟩
  ·rw [List.getElem?_set_ne e] at hbl
   exact rp.blk i bl hbl
 ·intro i j k hi hj
  have di := hown i k hi
  have dj := hown j k hj
  clear hi hj
  rcases di with ⟨e1, e2⟩ | di
  ·rcases dj with ⟨e3, _⟩ | dj
   ·rw [e1, e3]
   ·exact absurd (e2 ▸ dj) (hno j)
  ·rcases dj with ⟨_, e2⟩ | dj
   ·exact absurd (e2 ▸ di) (hno i)
   ·exact rp.inj i j k di dj
 ·intro i k ho hk'
  rcases hown i k ho with ⟨rfl, rfl⟩ | ho
  ·exact ⟨i, ⟨_, _, hm⟩, _, hes, by simp⟩
  ·exact t.own i k ho hk'
def ent (nx more pair kx vx k v : Nat) (t : List AV) (kv : AV × AV) : List AV := put (put (put (put (put (put (put t (some nx) .dead) (some more) (.bool true)) (some pair) .dead) (some kx) kv.1) (some vx) kv.2) (some k) kv.1) (some v) kv.2
structure RgI (S : Nat → Prop) (m : Emb) (h : List Blk) (w : World) (d0 : List Deferred) (r b ck : Nat) (en : Array MapEntry) (n id itid it : Nat) (Inv : List Nat → List AV → List Blk → Prop) (a' : Act) (w' : World) (S' : Nat → Prop) (m' : Emb) (t : List AV) (hh : List Blk) (is : List Nat) (seen : Array Nat) (c0 : Nat) : Prop where
 rep : Rep S' m' hh w'
 tr : TRel S' m' w' t a'.tmps
 stp : Stp S m h w S' m' hh w'
 df : a'.defers = d0
 sit : t[it]? = some (.ptr itid 0)
 hid : hh[id]? = some .gone
 mi : m' itid = some (r, 0, 0)
 mb : m' id = some (b, 0, 0)
 hr : w'.heap[r]? = some (.mapIter (some b) ck seen c0)
 hc : ck ≤ c0
 hb : w'.heap[b]? = some (.map en ck)
 nb : ∀ j, ¬ owns hh m' j b
 nr : ∀ j, ¬ owns hh m' j r
 sb : ¬ S' b
 sr : ¬ S' r
 nd : is.Nodup
 lt : ∀ i ∈ is, i < n
 se : ∀ x, seen.contains x = true ↔ ∃ i ∈ is, ∃ e, en[i]? = some e ∧ e.born = x
 inv : Inv is t hh
def rgMu (r : Nat) (en : Array MapEntry) (w : World) : Nat := match w.heap[r]? with
 | some (.mapIter _ _ seen _) => (leftOf en seen).size
 | _ => 0
theorem tmps_put_ne {a : Act} {d n : Nat} {x : Value} (hne : d ≠ n) : (a.put (some d) x).tmps.getD n undef = a.tmps.getD n undef := by
 show (a.tmps.setIfInBounds d x).getD n undef = _
 rw [Array.getD_eq_getD_getElem?, Array.getD_eq_getD_getElem?, Array.getElem?_setIfInBounds, if_neg hne]
theorem tmps_put_eq {a : Act} {d : Nat} {x : Value} (hlt : d < a.tmps.size) : (a.put (some d) x).tmps.getD d undef = x := by
 show (a.tmps.setIfInBounds d x).getD d undef = _
 rw [Array.getD_eq_getD_getElem?, Array.getElem?_setIfInBounds, if_pos rfl, if_pos hlt]
 rfl
theorem put_ne {t : List AV} {d n : Nat} {x : AV} (hne : d ≠ n) : (put t (some d) x)[n]? = t[n]? := by
 show (t.set d x)[n]? = _
 rw [List.getElem?_set_ne hne]
theorem put_defers (a : Act) (d : Option Nat) (x : Value) : (a.put d x).defers = a.defers := by cases d <;> rfl
theorem tmps_size {S m w t} {tmps : Array Value} (h : TRel S m w t tmps) : tmps.size = t.length := by
 have := h.1
 simpa using this.symm
theorem wpOps_val {ops : Array Oper} {Q : Exit → Act → World → Prop} {i : Nat} {rest : List Nat} {a : Act} {w w' : World} {o : Oper} {x : Value} (ho : ops[i]? = some o) (hg : o.guard = none) (hx : (execOp a.eval o).run P w = .ok (.value x) w') (hn : wpOps P ops Q rest (a.put o.dst x) w') : wpOps P ops Q (i :: rest) a w := by
 simp only [wpOps, ho]
 rw [if_pos (by simp [Region.wanted, hg])]
 refine .inl ?_
 unfold Oper.wp
 rw [hx]
 exact hn
set_option maxHeartbeats 1600000 in
theorem DC.range (hC : CallOK P call) {i0 i1 i2 out nxt it nx more pair kx vx k v : Nat} {ops0 : Array Oper} {body : Code} {o0 o1 o2 o3 o4 o5 o6 o7 : Oper} {T kt vt : TypeId} {tm : Nat} (pre : List Oper) (h0 : ops0.toList = pre ++ [o0])
  (q0 : o0.op = .range T (.tmp tm) ∧ o0.dst = some it ∧ o0.guard = none) (q1 : o1.op = .next (.tmp it) false ∧ o1.dst = some nx ∧ o1.guard = none) (q2 : o2.op = .extract (.tmp nx) 0 ∧ o2.dst = some more ∧ o2.guard = none)
  (q3 : o3.op = .entry (.tmp it) ∧ o3.dst = some pair ∧ o3.guard = none) (q4 : o4.op = .extract (.tmp pair) 0 ∧ o4.dst = some kx ∧ o4.guard = none) (q5 : o5.op = .extract (.tmp pair) 1 ∧ o5.dst = some vx ∧ o5.guard = none)
  (q6 : o6.op = .assign (.tmp kx) ∧ o6.dst = some k ∧ o6.guard = none) (q7 : o7.op = .assign (.tmp vx) ∧ o7.dst = some v ∧ o7.guard = none) (hT : P.underlying T = some (.map kt vt))
  {s s1 : St} {lpre : List AOper} (hpre : compL (compOper P ops0) pre = some lpre) (hrun : runOps call lpre s = some s1) {id : Nat} {es : List (AV × AV)} (hmap : (s1.t[tm]?).getD .dead = .map id) (hes : s1.h[id]? = some (.map es))
  (hsl : it < s1.t.length ∧ nx < s1.t.length ∧ more < s1.t.length ∧ pair < s1.t.length ∧ kx < s1.t.length ∧ vx < s1.t.length) (hneq : nx ≠ it ∧ more ≠ it ∧ pair ≠ kx ∧ pair ≠ it ∧ kx ≠ it ∧ vx ≠ it ∧ kx ≠ vx ∧ k ≠ vx ∧ k ≠ it ∧ v ≠ it)
  (Inv : List Nat → List AV → List Blk → Prop) (R : List AV → List Blk → Prop) (hlen : ∀ is t h, Inv is t h → t.length = s1.t.length) (hinit : Inv [] (put s1.t (some it) (.ptr s1.h.length 0)) ((s1.h ++ [Blk.gone]).set id .gone))
  (hround : ∀ is t h i kv, es[i]? = some kv → i ∉ is → t[it]? = some (.ptr s1.h.length 0) → h[id]? = some .gone → Inv is t h → DC P body { t := ent nx more pair kx vx k v t kv, h := h } fun e s' => ((e = .normal ∨ e = .exit nxt) ∧ s'.t[it]? = some (.ptr s1.h.length 0) ∧ s'.h[id]? = some .gone ∧ Inv (i :: is) s'.t s'.h) ∨ (e = .ret ∧ s'.h[id]? = some .gone ∧ R s'.t s'.h)) :
  DC P (.seq (.region i0 ops0 false) (.block out (.loop (.seq (.region i1 #[o1, o2] false) (.seq (.cond (.tmp more) .skip (.exit out)) (.block nxt (.seq (.region i2 #[o3, o4, o5, o6, o7] false) body))))))) s fun e s' =>
   (e = .normal ∧ ∃ is t h, is.Nodup ∧ (∀ i, i < es.length → i ∈ is) ∧ Inv is t h ∧ h[id]? = some .gone ∧ s'.t = put (put t (some nx) .dead) (some more) (.bool false) ∧ s'.h = h.set id (.map es)) ∨ (e = .ret ∧ ∃ t h, R t h ∧ h[id]? = some .gone ∧ s'.t = t ∧ s'.h = h.set id (.map es)) := by
 intro S0 m0 w0 a0 r0 ht0
 have hsz0 : ops0.size = pre.length + 1 := by
  rw [← Array.length_toList, h0]
  simp
 have hrg : List.range ops0.size = List.range' 0 pre.length ++ [pre.length] := by
  rw [hsz0, List.range_eq_range', List.range'_1_concat]
  simp
 have hget : ∀ j, j < pre.length → ops0[0 + j]? = pre[j]? := fun j hj => by
  rw [← Array.getElem?_toList, h0, Nat.zero_add, List.getElem?_append_left hj]
 have hlast : ops0[pre.length]? = some o0 := by
  rw [← Array.getElem?_toList, h0, List.getElem?_append_right (Nat.le_refl _), Nat.sub_self]
  rfl
 refine wp_seq (wp_region ?_)
 rw [hrg]
 refine runOps_part hC [pre.length] pre 0 lpre s s1 S0 m0 w0 a0 hget hpre hrun r0 ht0 fun S m w a r ht hst hdf => ?_
 -- the map
 have hmv := TRel.get ht tm
 rw [hmap] at hmv
 obtain ⟨b, ck, en, g1, g2, g3, g4, g5, g6⟩ := r.blk _ _ hes
 have hev : a.eval (.tmp tm) = .map (some b) := by
  show a.tmps.getD tm undef = _
  generalize a.tmps.getD tm undef = x at hmv
  cases hmv with
  | map g => rw [g1] at g; cases g; rfl
 have hidl := lt_of_get hes
 have hob : owns s1.h m id b := ⟨⟨_, _, g1⟩, _, hes, by simp⟩
 have hbl := owns_lt r hob
 have hrr : (execOp a.eval o0).run P w = .ok (.value (.pointer (some ⟨w.heap.size, 0, none⟩))) (w.alloc (.mapIter (some b) ck #[] ck)) := by
  simp only [execOp, q0.1, hev, Sem.run_bind, run_range_map w T kt vt b en ck hT g2, Result.andThen_ok, Sem.run_pure]
 refine wpOps_val hlast q0.2.2 hrr ?_
 rw [q0.2.1]
 show Exit.then _ _ Exit.normal _ _
 -- the loop's start
 obtain ⟨a1, a2⟩ := rep_iter r (w' := w.alloc (.mapIter (some b) ck #[] ck)) ⟨rfl, rfl, rfl⟩ (o := .mapIter (some b) ck #[] ck) rfl
 obtain ⟨b1, b2⟩ := rep_gone a1 (id := id) (by simp; omega)
 have hidne : id ≠ s1.h.length := by omega
 have c2 := a2.trans b2
 have hni : ∀ j q, owns ((s1.h ++ [Blk.gone]).set id .gone) (upd m s1.h.length (w.heap.size, 0, 0)) j q → owns s1.h m j q ∧ j ≠ id := by
  rintro j q ⟨⟨d, z, hm⟩, bl, h1, h2⟩
  have hj : j ≠ id := fun e => by
   subst e
   rw [List.getElem?_set_self (by simp; omega)] at h1
   cases h1
   exact h2 rfl
  rw [List.getElem?_set_ne (Ne.symm hj)] at h1
  by_cases hlt : j < s1.h.length
  ·rw [List.getElem?_append_left hlt] at h1
   rw [upd_ne (by omega)] at hm
   exact ⟨⟨⟨d, z, hm⟩, bl, h1, h2⟩, hj⟩
  ·have := lt_of_get h1
   simp at this
   have e : j = s1.h.length := by omega
   subst e
   simp at h1
   exact absurd h1.symm h2
 have hI : ∃ S' m' t hh is seen c0, RgI S m s1.h w a.defers w.heap.size b ck en es.length id s1.h.length it Inv (a.put (some it) (.pointer (some ⟨w.heap.size, 0, none⟩))) (w.alloc (.mapIter (some b) ck #[] ck)) S' m' t hh is seen c0 := by
  refine ⟨S, _, put s1.t (some it) (.ptr s1.h.length 0), _, [], #[], ck, ⟨b1, ?_, c2, rfl, ?_, List.getElem?_set_self (by simp; omega), upd_self, upd_le (r.dom _ (Nat.le_refl _)) _ _ g1, heap_alloc_new _ _, Nat.le_refl _, (heap_alloc_old _ _ hbl).trans g2, ?_, ?_, g5, fun hS => absurd (r.sb _ hS) (Nat.lt_irrefl _), List.nodup_nil, (fun i hi => by cases hi), (fun x => by simp), hinit⟩⟩
  ·refine TRel.put (ht.keep (c2.kp r)) _ ?_
   have := VRel.ptr (S := S) (m := upd m s1.h.length (w.heap.size, 0, 0)) (w := w.alloc (.mapIter (some b) ck #[] ck)) (id := s1.h.length) (off := 0) upd_self
   simpa using this
  ·show (s1.t.set it _)[it]? = _
   rw [List.getElem?_set_self hsl.1]
  ·intro j hj
   obtain ⟨k1, k2⟩ := hni j b hj
   exact k2 (r.inj _ _ _ k1 hob)
  ·intro j hj
   obtain ⟨k1, _⟩ := hni j _ hj
   exact absurd (owns_lt r k1) (Nat.lt_irrefl _)
 refine wp_block ?_
 refine wp_loop (fun a' w' => ∃ S' m' t hh is seen c0, RgI S m s1.h w a.defers w.heap.size b ck en es.length id s1.h.length it Inv a' w' S' m' t hh is seen c0) (fun _ w' => rgMu w.heap.size en w') hI ?_
 rintro a' w' ⟨S', m', t, hh, is, seen, c0, I⟩
 have hlt' := hlen _ _ _ I.inv
 have hts := tmps_size I.tr
 have hitv : a'.eval (.tmp it) = .pointer (some ⟨w.heap.size, 0, none⟩) := by
  have := TRel.get I.tr it
  rw [I.sit] at this
  simp only [Option.getD_some] at this
  show a'.tmps.getD it undef = _
  generalize a'.tmps.getD it undef = x at this
  cases this with
  | ptr g => rw [I.mi] at g; cases g; rfl
 have hkey : es.length = en.size := by
  have := g3.1
  simpa using this
 refine wp_seq (wp_region ?_)
 show wpOps P #[o1, o2] _ [0, 1] a' w'
 rcases run_next_at (P := P) w' o1.type w.heap.size b ck c0 seen en ck I.hr I.hb g6.2 I.hc with ⟨hz, hrun1⟩ | ⟨e, he, w1, hw1, hrun1⟩
 ·-- nothing is left
  refine wpOps_val (o := o1) (w' := w') (x := .tuple #[.bool false]) rfl q1.2.2 (by simp only [execOp, q1.1, hitv, Sem.run_bind, hrun1, Result.andThen_ok, Sem.run_pure]) ?_
  rw [q1.2.1]
  refine wpOps_val (o := o2) (w' := w') (x := .bool false) rfl q2.2.2 (by
   have : (a'.put (some nx) (.tuple #[.bool false])).eval (.tmp nx) = .tuple #[.bool false] := tmps_put_eq (by rw [hts, hlt']; exact hsl.2.1)
   simp only [execOp, q2.1, this]
   rfl) ?_
  rw [q2.2.1]
  show Exit.then _ _ Exit.normal _ _
  refine wp_seq (wp_cond (t := false) (tmps_put_eq (by show more < (a'.tmps.setIfInBounds nx _).size; rw [Array.size_setIfInBounds, hts, hlt']; exact hsl.2.2.1)) (wp_exit ?_))
  show (if out = out then _ else _)
  rw [if_pos rfl]
  obtain ⟨k1, k2⟩ := rep_show r I.rep I.stp hes g1 I.hid I.hb g3 g4 g6 I.nb I.sb
  have hall : ∀ i, i < es.length → i ∈ is := by
   intro i hi
   have hie : i < en.size := by omega
   have h1 : seen.contains en[i].born = true := by
    cases hc : seen.contains en[i].born with
    | true => rfl
    | false =>
     have : en[i] ∈ (leftOf en seen) := by
      unfold leftOf
      rw [Array.mem_filter]
      exact ⟨Array.getElem_mem _, by rw [hc]; rfl⟩
     rw [Array.eq_empty_of_size_eq_zero hz] at this
     simp at this
   obtain ⟨j, hj, e, h2, h3⟩ := (I.se _).1 h1
   have hjl : j < en.size := (Array.getElem?_eq_some_iff.1 h2).1
   have h4 : en[j] = e := (Array.getElem?_eq_some_iff.1 h2).2
   have h5 : (en.toList.map (·.born))[j]'(by simpa using hjl) = (en.toList.map (·.born))[i]'(by simpa using hie) := by
    simp [h4, h3]
   have hij : j = i := by
    rcases Nat.lt_trichotomy j i with h | h | h
    ·exact absurd h5 (List.pairwise_iff_getElem.1 g6.1 j i _ _ h)
    ·exact h
    ·exact absurd h5.symm (List.pairwise_iff_getElem.1 g6.1 i j _ _ h)
   rw [← hij]
   exact hj
  refine ⟨.normal, { t := put (put t (some nx) .dead) (some more) (.bool false), h := hh.set id (.map es) }, .inl ⟨rfl, is, t, hh, I.nd, hall, I.inv, I.hid, rfl, rfl⟩, trivial, S', m', k1, ?_, hst.trans k2, ?_⟩
  ·exact TRel.put (TRel.put I.tr (some nx) .dead) (some more) .bool
  ·exact I.df.trans hdf
 ·-- one more
  obtain ⟨he1, he2⟩ := mem_left he
  obtain ⟨i, hie, hei⟩ := List.getElem_of_mem he1
  have hie' : i < en.size := by simpa using hie
  have hie2 : i < es.length := by omega
  have hkv := List.getElem?_eq_getElem hie2
  generalize es[i] = kv at hkv
  have hni2 : i ∉ is := fun hi => by
   have : seen.contains e.born = true := (I.se _).2 ⟨i, hi, e, by rw [← Array.getElem?_toList, List.getElem?_eq_getElem hie, hei], rfl⟩
   rw [he2] at this
   cases this
  have hww : w1.heap = w'.heap ∧ Like w' w1 := by
   rcases hw1 with rfl | rfl
   ·exact ⟨rfl, Like.refl _⟩
   ·exact ⟨rfl, rfl, rfl, rfl⟩
  have hrl : w.heap.size < w'.heap.size := (Array.getElem?_eq_some_iff.1 I.hr).1
  obtain ⟨w2, hw2⟩ : ∃ w2, w2 = setBlock w1 w.heap.size (.mapIter (some b) ck (seen.push e.born) ck) := ⟨_, rfl⟩
  rw [← hw2] at hrun1
  have hne2 : ∀ q, q ≠ w.heap.size → w2.heap[q]? = w'.heap[q]? := fun q hq => by
   rw [hw2]
   show (w1.heap.setIfInBounds _ _)[q]? = _
   rw [Array.getElem?_setIfInBounds, if_neg (Ne.symm hq), hww.1]
  have hsz2 : w2.heap.size = w'.heap.size := by
   rw [hw2]
   show (w1.heap.setIfInBounds _ _).size = _
   rw [Array.size_setIfInBounds, hww.1]
  have hr2 : w2.heap[w.heap.size]? = some (.mapIter (some b) ck (seen.push e.born) ck) := by
   rw [hw2]
   show (w1.heap.setIfInBounds _ _)[w.heap.size]? = _
   rw [Array.getElem?_setIfInBounds, if_pos rfl, if_pos (by rw [hww.1]; exact hrl)]
  have lk2 : Like w' w2 := by
   rw [hw2]
   exact ⟨hww.2.os, hww.2.tape, hww.2.output⟩
  have hbr : b ≠ w.heap.size := by omega
  have hb2 : w2.heap[b]? = some (.map en ck) := (hne2 b hbr).trans I.hb
  obtain ⟨rp2, kp2⟩ := rep_other I.rep hsz2 hne2 I.sr I.nr
  have st2 := stp_other I.stp lk2 hsz2 hne2 (Nat.le_refl _)
  have hev1 : (a'.put (some nx) (.tuple #[.bool true, e.key, e.val])).eval (.tmp nx) = .tuple #[.bool true, e.key, e.val] := tmps_put_eq (by rw [hts, hlt']; exact hsl.2.1)
  refine wpOps_val (o := o1) (w' := w2) (x := .tuple #[.bool true, e.key, e.val]) rfl q1.2.2 (by simp only [execOp, q1.1, hitv, Sem.run_bind, hrun1, Result.andThen_ok, Sem.run_pure]) ?_
  rw [q1.2.1]
  refine wpOps_val (o := o2) (w' := w2) (x := .bool true) rfl q2.2.2 (by
   simp only [execOp, q2.1, hev1]
   rfl) ?_
  rw [q2.2.1]
  show Exit.then _ _ Exit.normal _ _
  have T2 : TRel S' m' w2 (put (put t (some nx) .dead) (some more) (.bool true)) (((a'.put (some nx) (.tuple #[.bool true, e.key, e.val])).put (some more) (.bool true)).tmps) := TRel.put (TRel.put (I.tr.keep kp2) (some nx) .dead) (some more) .bool
  have hz2 := tmps_size T2
  have hl2 : (put (put t (some nx) AV.dead) (some more) (.bool true)).length = s1.t.length := by simp [put, hlt']
  refine wp_seq (wp_cond (t := true) (tmps_put_eq (by show more < (a'.tmps.setIfInBounds nx _).size; rw [Array.size_setIfInBounds, hts, hlt']; exact hsl.2.2.1)) (wp_skip ?_))
  show Code.wp P _ _ _ _
  refine wp_block (wp_seq (wp_region ?_))
  show wpOps P #[o3, o4, o5, o6, o7] _ [0, 1, 2, 3, 4] _ _
  generalize ha3 : (a'.put (some nx) (.tuple #[.bool true, e.key, e.val])).put (some more) (.bool true) = a3 at T2 hz2
  have hit3 : a3.eval (.tmp it) = .pointer (some ⟨w.heap.size, 0, none⟩) := by
   rw [← ha3]
   show ((a'.put (some nx) (.tuple #[.bool true, e.key, e.val])).put (some more) (.bool true)).tmps.getD it undef = _
   rw [tmps_put_ne hneq.2.1, tmps_put_ne hneq.1]
   exact hitv
  have hdf3 : a3.defers = a'.defers := by rw [← ha3, put_defers, put_defers]
  have hent := run_entry_at (P := P) w2 w.heap.size b ck seen en ck e hr2 hb2 he1 g6.1
  refine wpOps_val (o := o3) (w' := w2) (x := .tuple #[e.key, e.val]) rfl q3.2.2 (by simp only [execOp, q3.1, hit3, Sem.run_bind, hent, Result.andThen_ok, Sem.run_pure]) ?_
  rw [q3.2.1]
  have ep : (a3.put (some pair) (.tuple #[e.key, e.val])).eval (.tmp pair) = .tuple #[e.key, e.val] := tmps_put_eq (by rw [hz2, hl2]; exact hsl.2.2.2.1)
  refine wpOps_val (o := o4) (w' := w2) (x := e.key) rfl q4.2.2 (by simp only [execOp, q4.1, ep]; rfl) ?_
  rw [q4.2.1]
  have ep2 : ((a3.put (some pair) (.tuple #[e.key, e.val])).put (some kx) e.key).eval (.tmp pair) = .tuple #[e.key, e.val] := (tmps_put_ne (Ne.symm hneq.2.2.1)).trans ep
  refine wpOps_val (o := o5) (w' := w2) (x := e.val) rfl q5.2.2 (by simp only [execOp, q5.1, ep2]; rfl) ?_
  rw [q5.2.1]
  have hsz3 : (a3.put (some pair) (.tuple #[e.key, e.val])).tmps.size = s1.t.length := by
   show (a3.tmps.setIfInBounds _ _).size = _
   rw [Array.size_setIfInBounds, hz2, hl2]
  have hsz4 : ((a3.put (some pair) (.tuple #[e.key, e.val])).put (some kx) e.key).tmps.size = s1.t.length := by
   show ((a3.put (some pair) (.tuple #[e.key, e.val])).tmps.setIfInBounds _ _).size = _
   rw [Array.size_setIfInBounds, hsz3]
  have ek : (((a3.put (some pair) (.tuple #[e.key, e.val])).put (some kx) e.key).put (some vx) e.val).eval (.tmp kx) = e.key := (tmps_put_ne (Ne.symm hneq.2.2.2.2.2.2.1)).trans (tmps_put_eq (by rw [hsz3]; exact hsl.2.2.2.2.1))
  refine wpOps_val (o := o6) (w' := w2) (x := e.key) rfl q6.2.2 (by simp only [execOp, q6.1, ek]; rfl) ?_
  rw [q6.2.1]
  have ev : ((((a3.put (some pair) (.tuple #[e.key, e.val])).put (some kx) e.key).put (some vx) e.val).put (some k) e.key).eval (.tmp vx) = e.val := (tmps_put_ne hneq.2.2.2.2.2.2.2.1).trans (tmps_put_eq (by rw [hsz4]; exact hsl.2.2.2.2.2))
  refine wpOps_val (o := o7) (w' := w2) (x := e.val) rfl q7.2.2 (by simp only [execOp, q7.1, ev]; rfl) ?_
  rw [q7.2.1]
  show Exit.then _ _ Exit.normal _ _
  show Code.wp P _ _ _ _
  -- the round
  have hkk := I.stp.kp r
  have vk : VRel S' m' w2 kv.1 e.key := by
   have h1 := g3.2 i (by simpa using hie2)
   have h2 := (h1.keep hkk).keep kp2
   simpa [List.getD_eq_getElem?_getD, hkv, List.getElem?_eq_getElem hie', hei, Array.getElem?_toList] using h2
  have vv : VRel S' m' w2 kv.2 e.val := by
   have h1 := g4.2 i (by simpa using hie2)
   have h2 := (h1.keep hkk).keep kp2
   simpa [List.getD_eq_getElem?_getD, hkv, List.getElem?_eq_getElem hie', hei, Array.getElem?_toList] using h2
  have T3 : TRel S' m' w2 (ent nx more pair kx vx k v t kv) (((((a3.put (some pair) (.tuple #[e.key, e.val])).put (some kx) e.key).put (some vx) e.val).put (some k) e.key).put (some v) e.val).tmps :=
   TRel.put (TRel.put (TRel.put (TRel.put (TRel.put T2 (some pair) .dead) (some kx) vk) (some vx) vv) (some k) vk) (some v) vv
  refine wp_mono (hround is t hh i kv hkv hni2 I.sit I.hid I.inv S' m' w2 _ rp2 T3) fun ex a4 w4 hp => ?_
  obtain ⟨e4, s4, hQ, hpost⟩ := hp
  obtain ⟨x1, S4, m4, x2, x3, x4, x5⟩ := hpost
  have no4 : ∀ q, q < w2.heap.size → (∀ j, ¬ owns hh m' j q) → ∀ j, ¬ owns s4.h m4 j q := fun q hq hn j hj => by
   obtain ⟨j', hj'⟩ := x4.own j q hj hq
   exact hn j' hj'
  have ns4 : ∀ q, q < w2.heap.size → ¬ S' q → ¬ S4 q := fun q hq hn hS => by
   rcases x4.sn q hS with h | h
   ·exact hn h
   ·omega
  have hb2l : b < w2.heap.size := by omega
  have hr2l : w.heap.size < w2.heap.size := by omega
  have hb4 : w4.heap[b]? = some (.map en ck) := (x4.fr b hb2l fun j => I.nb j).trans hb2
  have hr4 : w4.heap[w.heap.size]? = some (.mapIter (some b) ck (seen.push e.born) ck) := (x4.fr _ hr2l fun j => I.nr j).trans hr2
  have df4 : a4.defers = a.defers := x5.trans (by simp only [put_defers]; exact hdf3.trans I.df)
  rcases hQ with ⟨hee, y1, y2, y3⟩ | ⟨rfl, y2, y3⟩
  ·have hgo : (∃ S'' m'' t'' hh'' is'' seen'' c0'', RgI S m s1.h w a.defers w.heap.size b ck en es.length id s1.h.length it Inv a4 w4 S'' m'' t'' hh'' is'' seen'' c0'') ∧ rgMu w.heap.size en w4 < rgMu w.heap.size en w' := by
    refine ⟨⟨S4, m4, s4.t, s4.h, i :: is, seen.push e.born, ck, ⟨x2, x3, st2.trans x4, df4, y1, y2, x4.tm _ _ I.mi, x4.tm _ _ I.mb, hr4, Nat.le_refl _, hb4, no4 b hb2l I.nb, no4 _ hr2l I.nr, ns4 b hb2l I.sb, ns4 _ hr2l I.sr, List.nodup_cons.2 ⟨hni2, I.nd⟩, fun j hj => ?_, fun x => ?_, y3⟩⟩, ?_⟩
    ·rcases List.mem_cons.1 hj with rfl | hj
     ·exact hie2
     ·exact I.lt j hj
    ·rw [contains_push, Bool.or_eq_true, I.se]
     constructor
     ·rintro (⟨j, hj, e', h1, h2⟩ | h)
      ·exact ⟨j, List.mem_cons_of_mem _ hj, e', h1, h2⟩
      ·exact ⟨i, List.mem_cons_self, e, by rw [← Array.getElem?_toList, List.getElem?_eq_getElem hie, hei], (beq_iff_eq.1 h).symm⟩
     ·rintro ⟨j, hj, e', h1, h2⟩
      rcases List.mem_cons.1 hj with rfl | hj
      ·right
       rw [← Array.getElem?_toList, List.getElem?_eq_getElem hie, hei] at h1
       cases h1
       rw [h2]
       exact beq_self_eq_true x
      ·exact .inl ⟨j, hj, e', h1, h2⟩
    ·unfold rgMu
     rw [hr4, I.hr]
     exact left_shrinks en seen e he
   rcases hee with rfl | rfl
   ·cases ex <;> simp only [exRel] at x1
    exact hgo
   ·cases ex <;> simp only [exRel] at x1
    subst x1
    show (if nxt = nxt then _ else _)
    rw [if_pos rfl]
    exact hgo
  ·cases ex <;> simp only [exRel] at x1
   obtain ⟨k1, k2⟩ := rep_show r x2 (st2.trans x4) hes g1 y2 hb4 g3 g4 g6 (no4 b hb2l I.nb) (ns4 b hb2l I.sb)
   have x3' : TRel S4 m4 w4 s4.t a4.tmps := x3
   exact ⟨.ret, { t := s4.t, h := s4.h.set id (.map es) }, .inr ⟨rfl, s4.t, s4.h, y3, y2, rfl, rfl⟩, trivial, S4, m4, k1, x3', hst.trans k2, df4.trans hdf⟩
end
open Go
abbrev ap (H : List Blk) (c : List AV) : List Blk := H ++ [.cells c]
abbrev apm (H : List Blk) : List Blk := H ++ [.map []]
theorem gl {H : List Blk} {b : Blk} : (H ++ [b])[H.length]? = some b := by simp
theorem ga {H : List Blk} {b x : Blk} {i : Nat} (h : H[i]? = some x) : (H ++ [b])[i]? = some x := by
 rw [List.getElem?_append_left (List.getElem?_eq_some_iff.1 h).1]; exact h
theorem gset {H : List Blk} {b x : Blk} {i : Nat} (h : H[i]? = some x) : (H.set i b)[i]? = some b := List.getElem?_set_self (List.getElem?_eq_some_iff.1 h).1
theorem gne {H : List Blk} {b x : Blk} {i j : Nat} (hne : i ≠ j) (h : H[j]? = some x) : (H.set i b)[j]? = some x := by rw [List.getElem?_set_ne hne]; exact h
theorem glt {H : List Blk} {x : Blk} {i : Nat} (h : H[i]? = some x) : i < H.length := (List.getElem?_eq_some_iff.1 h).1
theorem ldC {H : List Blk} {id off : Nat} {cs : List AV} {n : Option Nat} {v : AV} (hb : H[id]? = some (.cells cs)) (hv : (bif Nat.ble (off + cellsN n) cs.length then asVar n ((cs.drop off).take (cellsN n)) else none) = some v) : pOp evC H (.load n (.c (.ptr id off))) = some v := by
 simp only [pOp, evC, rdPtr, rdCells, hb]
 cases hb2 : Nat.ble (off + cellsN n) cs.length with
 | true => rw [hb2] at hv; rw [if_pos (Nat.le_of_ble_eq_true hb2)]; exact hv
 | false => rw [hb2] at hv; cases hv
theorem stC {H : List Blk} {id off n : Nat} {cs : List AV} {v : AV} (hb : H[id]? = some (.cells cs)) (h1 : v.cells.length = n) (h2 : Nat.ble (off + n) cs.length = true) (h3 : v.cells.all AV.one = true) : wOp evC H (.store n (.c (.ptr id off)) (.c v)) = some (.tup [], H.set id (.cells (splice cs off v.cells)), some id) := by
 simp only [wOp, evC, h1, if_true, wrCells, hb]
 rw [if_pos (by rw [h3, Bool.and_true, decide_eq_true]; exact Nat.le_of_ble_eq_true h2)]
 rfl
theorem stLast {H : List Blk} {n : Nat} {z : List AV} {v : AV} (h1 : v.cells.length = n) (h2 : z.length = n) (h3 : v.cells.all AV.one = true) : wOp evC (H ++ [.cells z]) (.store n (.c (.ptr H.length 0)) (.c v)) = some (.tup [], H ++ [.cells v.cells], some H.length) := by
 rw [stC gl h1 (by rw [h2, Nat.zero_add]; simp) h3]
 have : splice z 0 v.cells = v.cells := by
  unfold splice
  rw [List.take_zero, List.nil_append, Nat.zero_add, List.drop_eq_nil_of_le (by omega), List.append_nil]
 rw [this, List.set_append_right _ _ (Nat.le_refl _), Nat.sub_self]
 rfl
theorem findK_none {α : Type} {k : α → Int} {v : α → AV} {id : Int} : ∀ {l : List α} {i : Nat}, (∀ e ∈ l, k e ≠ id) → findK 1 (.int .i64 id) (l.map fun e => (AV.int .i64 (k e), v e)) i = some none
 | [], _, _ => rfl
 | e :: l, i, h => by
  have he : (id == k e) = false := by have := h e (by simp); simp; omega
  rw [List.map_cons, findK]
  simp only [eq1, if_pos, he]
  exact findK_none fun x hx => h x (by simp [hx])
theorem findK_some {α : Type} {k : α → Int} {v : α → AV} {id : Int} : ∀ {l : List α} {i : Nat} {e : α}, e ∈ l → k e = id → (∀ x ∈ l, k x = id → x = e) → ∃ j, l[j]? = some e ∧ findK 1 (.int .i64 id) (l.map fun e => (AV.int .i64 (k e), v e)) i = some (some (i + j, v e))
 | [], _, _, h, _, _ => by cases h
 | x :: l, i, e, h, hk, hu => by
  by_cases hx : k x = id
  ·have := hu x (by simp) hx
   subst this
   refine ⟨0, rfl, ?_⟩
   rw [List.map_cons, findK]
   simp [eq1, hx]
  ·have hne : x ≠ e := fun h => hx (h ▸ hk)
   have hm : e ∈ l := by rcases List.mem_cons.1 h with h | h; exact absurd h.symm hne; exact h
   obtain ⟨j, h1, h2⟩ := findK_some (k := k) (v := v) (i := i + 1) hm hk fun y hy => hu y (by simp [hy])
   have he : (id == k x) = false := by simp; omega
   refine ⟨j + 1, h1, ?_⟩
   rw [List.map_cons, findK]
   simp only [eq1, if_pos, he]
   rw [h2]
   congr 3
   omega
section
variable {α : Type} {k : α → Int} {v : α → AV} {id : Int} {H : List Blk} {m : Nat} {l : List α}
theorem lk_none {z : AV} {ok : Bool} (hm : H[m]? = some (.map (l.map fun e => (AV.int .i64 (k e), v e)))) (h : ∀ e ∈ l, k e ≠ id) : pOp evC H (.lookup z 1 (.c (.map m)) (.c (.int .i64 id)) ok) = some (if ok then .tup [z, .bool false] else z) := by
 simp only [pOp, evC, isKey, if_true, hm, findK_none h, Option.map_some]
theorem lk_some {z : AV} {ok : Bool} {e : α} (hm : H[m]? = some (.map (l.map fun e => (AV.int .i64 (k e), v e)))) (he : e ∈ l) (hk : k e = id) (hu : ∀ x ∈ l, k x = id → x = e) : pOp evC H (.lookup z 1 (.c (.map m)) (.c (.int .i64 id)) ok) = some (if ok then .tup [v e, .bool true] else v e) := by
 obtain ⟨j, h1, h2⟩ := findK_some (v := v) (i := 0) he hk hu
 simp only [pOp, evC, isKey, if_true, hm, h2, Option.map_some]
theorem up_new {x : AV} (hm : H[m]? = some (.map (l.map fun e => (AV.int .i64 (k e), v e)))) (h : ∀ e ∈ l, k e ≠ id) : wOp evC H (.mapUpd 1 (.c (.map m)) (.c (.int .i64 id)) (.c x)) = some (.tup [], H.set m (.map (l.map (fun e => (AV.int .i64 (k e), v e)) ++ [(.int .i64 id, x)])), some m) := by
 simp only [wOp, evC, isKey, if_true, hm, findK_none h, Option.map_some]
end
section
variable {Γ : FuncId → Option GF} {tbl : FuncId → Option AFunc}
theorem clP {f : FuncId} {af : AFunc} {args : List AV} {h : List Blk} (ds : List Dec) {r : AV} {h' : List Blk} (cs : List Prop) (hg : Γ f = none) (ht : tbl f = some af) (hle : Nat.ble args.length af.nt = true)
  (hp : (symC Γ tbl af.body { t := args ++ List.replicate (af.nt - args.length) (.tup []), h := h } ds).bind (fun x => match x.1 with
   | .exit _ => none
   | _ => (resAll x.2.1 af.res).map fun vs => (packRes vs, x.2.1.h, x.2.2.2)) = some (r, h', cs)) (hc : allP cs) : ∃ lo, Cl Γ tbl f args h (r, h', lo) := by
 rw [Option.bind_eq_some_iff] at hp
 obtain ⟨⟨e, s, ds', c⟩, h1, h2⟩ := hp
 have hx : ∀ i, e ≠ .exit i := by rintro i rfl; cases h2
 have h3 : (resAll s af.res).map (fun vs => (packRes vs, s.h, c)) = some (r, h', cs) := by cases e <;> first | exact h2 | exact absurd rfl (hx _)
 rw [Option.map_eq_some_iff] at h3
 obtain ⟨vs, h4, h5⟩ := h3
 cases h5
 refine ⟨s.lo, Cl.of hg ht (Nat.le_of_ble_eq_true hle) ((symC_sound _ _ _ _ _ _ _ h1 hc).mono ?_)⟩
 rintro e2 s2 ⟨rfl, rfl⟩
 exact ⟨hx, vs, h4, rfl, rfl, rfl⟩
theorem path4 {nt live} {k : ACode} {t : List AV} {h : List Blk} {lo : Option Nat} (ds : List Dec) (outs : List Nat) {e : AExit} {vals : List AV} {h' : List Blk} (cs : List Prop) (hl : Lv nt live t)
  (hp : ∀ t0, (symC Γ tbl k { t := mkT nt live t0, h := h, lo := lo } ds).map (fun x => (x.1, outs.map (getX x.2.1.t), x.2.1.h, x.2.2.2)) = some (e, vals, h', cs)) (hc : allP cs) :
  Wp Γ tbl k { t := t, h := h, lo := lo } fun e2 s2 => e2 = e ∧ ∃ t2 lo2, s2 = { t := t2, h := h', lo := lo2 } ∧ Lv nt (outs.zip vals) t2 := by
 have h1 := hp t
 rw [← hl.eq, Option.map_eq_some_iff] at h1
 obtain ⟨x, h2, h3⟩ := h1
 obtain ⟨x1, x2, x3, x4⟩ := x
 cases h3
 refine (symC_sound k _ ds _ _ _ _ h2 hc).mono ?_
 rintro e2 s2 ⟨rfl, rfl⟩
 exact ⟨rfl, s2.t, s2.lo, rfl, Lv.of ((symC_len k _ _ _ _ _ _ h2).trans hl.len) rfl⟩
theorem clB {f : FuncId} {af : AFunc} {args : List AV} {h : List Blk} (hg : Γ f = none) (ht : tbl f = some af) (hle : Nat.ble args.length af.nt = true) (Q : AV → List Blk → Prop)
  (hw : Wp Γ tbl af.body { t := args ++ List.replicate (af.nt - args.length) (.tup []), h := h } fun e s => (∀ i, e ≠ .exit i) ∧ ∃ vs, resAll s af.res = some vs ∧ Q (packRes vs) s.h) : ∃ r h' lo, Q r h' ∧ Cl Γ tbl f args h (r, h', lo) := by
 obtain ⟨n, e, s, h1, h2, vs, h3, h4⟩ := hw
 exact ⟨_, _, s.lo, h4, Cl.of hg ht (Nat.le_of_ble_eq_true hle) ⟨n, e, s, h1, h2, vs, h3, rfl, rfl, rfl⟩⟩
end
open Go
theorem DC.wp {P : Program} {Γ : FuncId → Option GF} {tbl : FuncId → Option AFunc} (K : Known Γ tbl P) {c : ACode} {code : Code} {s : St} {Q : AExit → St → Prop} (hc : compC P code = some c) (hw : Wp Γ tbl c s Q) : DC P code s Q := by
 obtain ⟨n, e, s', h1, h2⟩ := hw
 exact DC.am K.mixed (callF_sound Γ tbl K n) hc h1 h2
theorem DC.ams {P : Program} {f : FuncId} {fn : Func} {body : Code} {rs : List ARes} (hfn : P.funcs[f]? = some fn) (hbody : fn.body = some body) (hrs : compL (compRes P) fn.results.toList = some rs) {args : List AV} {h : List Blk} {r : AV} {h' : List Blk}
  (hd : DC P body { t := args ++ List.replicate (fn.ntmps - args.length) (.tup []), h := h } fun e s => (∀ i, e ≠ .exit i) ∧ ∃ vs, resAll s rs = some vs ∧ r = packRes vs ∧ h' = s.h) : AMS P f args h r h' := by
 intro S m w vals r0 hL
 have hvl : vals.size = args.length := by have := hL.1; simp at this; exact this.symm
 have ht : TRel S m w (args ++ List.replicate (fn.ntmps - args.length) (.tup [])) (vals ++ Array.replicate (fn.ntmps - vals.size) undef) := by
  show LRel S m w _ _
  rw [Array.toList_append, Array.toList_replicate, hvl]
  exact hL.append (LRel.replicate _ (LRel.tup LRel.nil))
 refine calls_of_wp hfn hbody (wp_mono (hd S m w { tmps := vals ++ Array.replicate (fn.ntmps - vals.size) undef, defers := [] } r0 ht) fun ex a' w' hp => ?_)
 obtain ⟨e, s, ⟨hne, vs, hres, rfl, rfl⟩, g1, S', m', g2, g3, g4, g5⟩ := hp
 obtain ⟨xs, h7, h8⟩ := resAll_sound g2 g3 fn.results.toList rs vs hrs hres
 have hrun : (results fn a'.tmps).run P w' = .ok (if h : xs.toArray.size = 1 then xs.toArray[0] else .tuple xs.toArray) w' := by
  unfold results
  rw [Array.mapM_eq_mapM_toList]
  simp only [Sem.run_bind, Sem.run_map]
  exact (congrArg (fun q : Result (List Value) => (q.andThen fun a w' => Result.ok a.toArray w').andThen fun a w' => Sem.run P (pure (if h : a.size = 1 then a[0] else .tuple a)) w') h7).trans rfl
 have fin : a'.defers = [] ∧ ∃ v, (results fn a'.tmps).run P w' = .ok v w' ∧ ∃ v_1 S'_1 m'_1, Ending.returned v = .returned v_1 ∧ VRel S'_1 m'_1 w' (packRes vs) v_1 ∧ Rep S'_1 m'_1 s.h w' ∧ Stp S m h w S'_1 m'_1 s.h w' :=
  ⟨g5, _, hrun, _, S', m', rfl, pack_sound h8, g2, g4⟩
 cases ex with
 | normal => exact fin
 | ret => exact fin
 | exit i => cases e <;> simp only [exRel] at g1; exact absurd rfl (hne _)
 | goto l => cases e <;> simp only [exRel] at g1
 | panic c => cases e <;> simp only [exRel] at g1
 | outgrown => cases e <;> simp only [exRel] at g1
open Classical in
noncomputable def anyG (P : Program) (f : FuncId) (I : List AV → List Blk → AV → List Blk → Prop) : GF := fun args h =>
 if x : ∃ y : AV × List Blk, I args h y.1 y.2 ∧ AMS P f args h y.1 y.2 ∧ h.length ≤ y.2.length then some (x.choose.1, x.choose.2, some 0) else none
theorem anyG_ok {P : Program} {f : FuncId} {I : List AV → List Blk → AV → List Blk → Prop} (hb : Body P f) : GOk P f (anyG P f I) := by
 intro args h r h' lo hc
 unfold anyG at hc
 split at hc <;> cases hc
 rename_i x
 exact ⟨⟨x.choose_spec.2.2, fun i _ hl => absurd (hl 0 rfl) (by omega)⟩, .inl ⟨hb, x.choose_spec.2.1⟩⟩
theorem anyG_cl {P : Program} {Γ : FuncId → Option GF} {tbl : FuncId → Option AFunc} {f : FuncId} {I : List AV → List Blk → AV → List Blk → Prop} (hg : Γ f = some (anyG P f I)) {args : List AV} {h : List Blk} {r : AV} {h' : List Blk} (hi : I args h r h') (ha : AMS P f args h r h') (hl : h.length ≤ h'.length) :
  ∃ r h' lo, I args h r h' ∧ Cl Γ tbl f args h (r, h', lo) := by
 have x : ∃ y : AV × List Blk, I args h y.1 y.2 ∧ AMS P f args h y.1 y.2 ∧ h.length ≤ y.2.length := ⟨(r, h'), hi, ha, hl⟩
 refine ⟨x.choose.1, x.choose.2, some 0, x.choose_spec.1, Cl.known hg ?_⟩
 unfold anyG
 rw [dif_pos x]
theorem DC.det {P : Program} {Γ : FuncId → Option GF} {tbl : FuncId → Option AFunc} (K : Known Γ tbl P) {c : ACode} {code : Code} {s : St} {Q : AExit → St → Prop} (hc : compC P code = some c) (hw : Wp Γ tbl c s Q) : ∃ e s', Q e s' ∧ DC P code s fun e2 s2 => e2 = e ∧ s2 = s' := by
 obtain ⟨n, e, s', h1, h2⟩ := hw
 exact ⟨e, s', h2, DC.am K.mixed (callF_sound Γ tbl K n) hc h1 ⟨rfl, rfl⟩⟩
theorem pathO {Γ : FuncId → Option GF} {tbl : FuncId → Option AFunc} {nt live} {k : List AOper} {t : List AV} {h : List Blk} {lo : Option Nat} (ds : List Dec) (outs : List Nat) {vals : List AV} {h' : List Blk} (cs : List Prop) (hl : Lv nt live t)
  (hp : ∀ t0, (symOps Γ tbl k { t := mkT nt live t0, h := h, lo := lo } ds).map (fun x => (outs.map (getX x.1.t), x.1.h, x.2.2)) = some (vals, h', cs)) (hc : allP cs) :
  ∃ n t2 lo2, runOps (callF Γ tbl n) k { t := t, h := h, lo := lo } = some { t := t2, h := h', lo := lo2 } ∧ Lv nt (outs.zip vals) t2 := by
 have h1 := hp t
 rw [← hl.eq, Option.map_eq_some_iff] at h1
 obtain ⟨x, h2, h3⟩ := h1
 obtain ⟨x1, x2, x3⟩ := x
 cases h3
 obtain ⟨n, s', h4, rfl⟩ := symOps_sound k _ ds _ _ _ h2 hc
 exact ⟨n, s'.t, s'.lo, h4, Lv.of ((symOps_len k _ ds _ _ _ h2).trans hl.len) rfl⟩
def ghd : Code → Code
 | .seq a _ => a
 | c => c
def gtl : Code → Code
 | .seq _ b => b
 | c => c
def gblk : Code → Code
 | .block _ b => b
 | c => c
def glp : Code → Code
 | .loop b => b
 | c => c
def gid : Code → Nat
 | .region i _ _ => i
 | _ => 0
def gops : Code → List Oper
 | .region _ o _ => o.toList
 | _ => []
open Go
theorem rep_below {S m h} {w w' : World} {S' : Nat → Prop} (r : Rep S m h w) (h2 : ∀ b, S b → S' b) (h3 : ∀ b, S' b → S b ∨ w.heap.size ≤ b) (h4 : ∀ b, S' b → b < w'.heap.size) (h5 : RowKit.Below w.heap.size w w') : Rep S' m h w' ∧ Stp S m h w S' m h w' := by
 have hk : Kp S m w S' m w' := ⟨h2, fun b hb => h5.block b (r.sb b hb), fun _ _ h => h⟩
 refine ⟨⟨h4, r.dom, ?_, r.inj⟩, ⟨h2, fun _ _ h => h, h5.os, h5.tape, h5.output, h5.size, Nat.le_refl _, fun b hb _ => h5.block b hb, fun id b ho _ => ⟨id, ho⟩, h3⟩⟩
 intro id bl hb
 refine (r.blk id bl hb).keep r hk fun b hm hg => ?_
 have ho : owns h m id b := ⟨hm, bl, hb, hg⟩
 refine ⟨h5.block b (owns_lt r ho), fun hS' => ?_⟩
 rcases h3 b hS' with h | h
 ·exact owns_not_S r ho h
 ·have := owns_lt r ho; omega
def KeysC (P : Program) (fK fC : FuncId) (tc : TypeId) : Prop := ∀ (mb : Option Nat) (W : World), Calls P fK #[.map mb] W fun e w' => e = .returned (.func (.func fC) #[] #[.pointer (some ⟨W.heap.size, 0, none⟩)]) ∧ w' = W.alloc (.cells #[.map mb] tc)
def SortedC (P : Program) (fS fC : FuncId) (tc ti : TypeId) : Prop := ∀ (b nn : Nat) (D0 : DataW Unit) (R : Value → Option (DataW Unit × List MemPlace)) (w : World), w.ownsMap P ti R b nn D0 → Maps.size D0 ≤ maxLen → Maps.size D0 * 8 ≤ 140737488355328 →
 Calls P fS #[.func (.func fC) #[] #[.pointer (some ⟨w.heap.size, 0, none⟩)]] (w.alloc (.cells #[.map (some b)] tc)) fun e w' => ∃ (v : Value) (ss : List Int), e = .returned v ∧ ss.Perm (intKeys D0) ∧
  w'.ownsRow (w.alloc (.cells #[.map (some b)] tc)).heap.size ti 1 v ss.length ((ss.mergeSort (fun x y => decide (x ≤ y))).map encZ) ∧ (v = .slice none 0 0 ↔ ss = []) ∧ RowKit.Below (w.alloc (.cells #[.map (some b)] tc)).heap.size (w.alloc (.cells #[.map (some b)] tc)) w'
def keysV (ks : List Int) : AV := if ks = [] then .nils else .ro (ks.map (AV.int .i64)) 1 false
theorem keysV_rel {S : Nat → Prop} {m : Emb} {w : World} {base : Nat} {ti : TypeId} {v : Value} {ss : List Int} (h : w.ownsRow base ti 1 v ss.length (ss.map encZ)) (hn : v = .slice none 0 0 ↔ ss = []) (hS : ∀ g, base ≤ g → g < w.heap.size → S g) : VRel S m w (keysV ss) v := by
 unfold keysV
 by_cases he : ss = []
 ·rw [if_pos he, hn.2 he]; exact .nils
 ·rw [if_neg he]
  obtain ⟨_, ⟨h1, _⟩ | ⟨g, cap, cur, rfl, hb, hg, hc, _, hsz, ht⟩⟩ := h
  ·exact absurd (hn.1 h1) he
  have hgl : g < w.heap.size := (Array.getElem?_eq_some_iff.1 hg).1
  have hlm : (ss.map (AV.int .i64)).length = ss.length := by simp
  have hcell : ∀ i, i < ss.length → w.cell? ⟨g, i, none⟩ = some (encZ (ss.getD i 0)) := fun i hi => by
   have h2 : (cur.toList.take (ss.length * 1))[i]? = (ss.map encZ)[i]? := by rw [ht]
   rw [List.getElem?_take_of_lt (by omega), List.getElem?_map, List.getElem?_eq_getElem hi] at h2
   simp only [World.cell?, hg]
   rw [← Array.getElem?_toList, h2, List.getD_eq_getElem?_getD, List.getElem?_eq_getElem hi]
   rfl
  have := VRel.ro (S := S) (m := m) (w := w) (es := ss.map (AV.int .i64)) (st := 1) (ex := false) (b := g) (d := 0) (rc := cap) (fun i _ => encZ (ss.getD i 0)) (hS g hb hgl)
   (fun i j hi hj => by rw [hlm] at hi; rw [show 0 + (i * 1 + j) = i by omega]; exact hcell i hi) (fun i hi => by
    rw [hlm] at hi
    rw [List.getD_eq_getElem?_getD, List.getElem?_map, List.getElem?_eq_getElem hi]
    rfl) (fun i j hi hj => by
    rw [hlm] at hi
    have hj0 : j = 0 := by omega
    subst hj0
    rw [List.getD_eq_getElem?_getD (l := ss.map _), List.getElem?_map, List.getD_eq_getElem?_getD (l := ss), List.getElem?_eq_getElem hi]
    exact .int) (fun h => by cases h) (by rw [hlm]; exact hc)
  rw [hlm] at this
  exact this
set_option maxHeartbeats 1600000 in
theorem DC.keys {P : Program} {call : CallF} (hC : CallOK P call) {fK fS fC : FuncId} {tc ti tm d1 d2 i0 : Nat} (hK : KeysC P fK fC tc) (hS : SortedC P fS fC tc ti) (hti : P.underlying ti = some (.int .i64)) (hb1 : Body P fK) (hb2 : Body P fS)
  {ops : Array Oper} (pre post : List Oper) {o1 o2 : Oper} {g1 g2 : Operand} {ats1 ats2 : Array TypeId} (h0 : ops.toList = pre ++ o1 :: o2 :: post)
  (q1 : o1.op = .call { callee := .value g1, args := #[.tmp tm], argTypes := ats1 } ∧ o1.dst = some d1 ∧ o1.guard = none) (q2 : o2.op = .call { callee := .value g2, args := #[.tmp d1], argTypes := ats2 } ∧ o2.dst = some d2 ∧ o2.guard = none)
  (c1 : compO g1 = some (.c (.fn (.func fK) [] []))) (c2 : compO g2 = some (.c (.fn (.func fS) [] [])))
  {s s1 : St} {lpre lpost : List AOper} (hpre : compL (compOper P ops) pre = some lpre) (hrun : runOps call lpre s = some s1) {id : Nat} {ks : List Int} {vs : List AV} (hvl : vs.length = ks.length) (hmap : (s1.t[tm]?).getD .dead = .map id) (hes : s1.h[id]? = some (.map ((ks.map (AV.int .i64)).zip vs)))
  (hnd : ks.Nodup) (hwf : ∀ k ∈ ks, (Lit.int .i64 k).wf = true) (hlen : ks.length ≤ 1000000) (hd1 : d1 < s1.t.length)
  (hpost : compL (compOper P ops) post = some lpost) {s2 : St} (hrun2 : runOps call lpost { t := put (put s1.t (some d1) .dead) (some d2) (keysV (ks.mergeSort fun x y => decide (x ≤ y))), h := s1.h } = some s2) :
  DC P (.region i0 ops false) s fun e s' => e = .normal ∧ s' = s2 := by
 intro S0 m0 w0 a0 r0 ht0
 have hsz0 : ops.size = pre.length + (post.length + 2) := by
  rw [← Array.length_toList, h0]
  simp
 have hrg : List.range ops.size = List.range' 0 pre.length ++ (pre.length :: (pre.length + 1) :: (List.range' (pre.length + 2) post.length ++ [])) := by
  rw [hsz0, List.range_eq_range', List.append_nil, ← List.range'_append (s := 0) (m := pre.length) (n := post.length + 2) (step := 1)]
  simp only [Nat.zero_add, Nat.one_mul, List.range'_succ]
 have hget : ∀ j, j < pre.length → ops[0 + j]? = pre[j]? := fun j hj => by
  rw [← Array.getElem?_toList, h0, Nat.zero_add, List.getElem?_append_left hj]
 have hg1 : ops[pre.length]? = some o1 := by
  rw [← Array.getElem?_toList, h0, List.getElem?_append_right (Nat.le_refl _), Nat.sub_self]
  rfl
 have hg2 : ops[pre.length + 1]? = some o2 := by
  rw [← Array.getElem?_toList, h0, List.getElem?_append_right (by omega), show pre.length + 1 - pre.length = 1 by omega]
  rfl
 have hg3 : ∀ j, j < post.length → ops[pre.length + 2 + j]? = post[j]? := fun j hj => by
  rw [← Array.getElem?_toList, h0, List.getElem?_append_right (by omega), show pre.length + 2 + j - pre.length = j + 2 by omega]
  rfl
 refine wp_region ?_
 rw [hrg]
 refine runOps_part hC _ pre 0 lpre s s1 S0 m0 w0 a0 hget hpre hrun r0 ht0 fun S m w a r ht hst hdf => ?_
 -- the map
 have hmv := TRel.get ht tm
 rw [hmap] at hmv
 obtain ⟨b, ck, en, e1, e2, e3, e4, e5, e6, e7⟩ := r.blk _ _ hes
 have hev : a.eval (.tmp tm) = .map (some b) := by
  show a.tmps.getD tm undef = _
  generalize a.tmps.getD tm undef = x at hmv
  cases hmv with
  | map g => rw [e1] at g; cases g; rfl
 have hz1 : ((ks.map (AV.int .i64)).zip vs).map (·.1) = ks.map (AV.int .i64) := List.map_fst_zip (by simp [hvl])
 rw [hz1] at e3
 have hkeys : en.toList.map (·.key) = ks.map encZ := by
  apply List.ext_getElem?
  intro i
  have hl := e3.1
  simp only [List.length_map] at hl
  by_cases hi : i < ks.length
  ·have h5 := e3.2 i (by simpa using hi)
   have hi2 : i < en.toList.length := by omega
   rw [List.getElem?_map, List.getElem?_map, List.getElem?_eq_getElem hi, List.getElem?_eq_getElem hi2]
   simp only [List.getD_eq_getElem?_getD, List.getElem?_map, List.getElem?_eq_getElem hi, List.getElem?_eq_getElem hi2, Option.map_some, Option.getD_some] at h5
   simp only [Option.map_some, Option.some.injEq]
   generalize (en.toList[i]).key = y at h5 ⊢
   cases h5
   rfl
  ·rw [List.getElem?_eq_none (by rw [List.length_map]; omega), List.getElem?_eq_none (by rw [List.length_map]; omega)]
 have hensz : en.size = ks.length := by
  have := congrArg List.length hkeys
  simpa using this
 have hrd : ∀ x ∈ en.toList, ∃ k ∈ ks, x.key = encZ k ∧ WideElems.rd P ti (fun _ => some ((.nil : DataW Unit), [])) x = some (.int .i64 k, .nil) := fun x hx => by
  have : x.key ∈ en.toList.map (·.key) := List.mem_map.2 ⟨x, hx, rfl⟩
  rw [hkeys] at this
  obtain ⟨k, hk, hkx⟩ := List.mem_map.1 this
  refine ⟨k, hk, hkx.symm, ?_⟩
  unfold WideElems.rd
  rw [← hkx, Maps.keyOf_int_mk hti (hwf k hk)]
  rfl
 have hown : w.ownsMap P ti (fun _ => some ((.nil : DataW Unit), [])) b en.size (.map ((en.toList.map (WideElems.rg P ti fun _ => some ((.nil : DataW Unit), []))).foldr DataW.insert [])) := by
  refine ⟨en, ck, e2, ⟨by rw [hensz]; unfold maxLen; omega, ⟨e7, e6, ?_⟩, fun x hx => ?_⟩, Nat.le_refl _, rfl⟩
  ·rw [hkeys]
   exact List.pairwise_map.2 (hnd.imp fun hne h => hne (encZ_inj h))
  ·obtain ⟨k, _, _, h⟩ := hrd x hx
   exact ⟨_, h⟩
 have hik : (intKeys (.map ((en.toList.map (WideElems.rg P ti fun _ => some ((.nil : DataW Unit), []))).foldr DataW.insert []))).Perm ks := by
  show ((_ : List (Lit × DataW Unit)).map fun p => intOf p.1).Perm ks
  refine ((WideShapes.sorted_perm _).map _).trans ?_
  rw [List.map_map]
  have : en.toList.map ((fun p : Lit × DataW Unit => intOf p.1) ∘ WideElems.rg P ti fun _ => some ((.nil : DataW Unit), [])) = ks := by
   have h6 : (en.toList.map (·.key)).map (fun v => match v with | .int _ a => a | _ => 0) = ks := by rw [hkeys, List.map_map]; exact List.map_id' ks
   rw [List.map_map] at h6
   refine Eq.trans (List.map_congr_left fun x hx => ?_) h6
   obtain ⟨k, _, h7, h8⟩ := hrd x hx
   simp only [Function.comp, WideElems.rg_of h8, intOf, h7]
  rw [this]
 have hdsz : Maps.size (.map ((en.toList.map (WideElems.rg P ti fun _ => some ((.nil : DataW Unit), []))).foldr DataW.insert []) : DataW Unit) = ks.length := by
  show List.length _ = _
  rw [(WideShapes.sorted_perm _).length_eq, List.length_map, Array.length_toList, hensz]
 -- maps.Keys
 have hv1 := compO_sound ht c1
 obtain ⟨us1, us2, hev1, hu1, hu2⟩ := hv1.fn_inv
 have z1 : us1 = #[] := by have := hu1.nil_r; exact Array.toList_inj.1 (by simpa using this)
 have z2 : us2 = #[] := by have := hu2.nil_r; exact Array.toList_inj.1 (by simpa using this)
 subst z1; subst z2
 obtain ⟨fn1, hfn1, hbody1, hname1⟩ := hb1
 obtain ⟨fn2, hfn2, hbody2, hname2⟩ := hb2
 have hexe1 : (execOp a.eval o1).run P w = .ok (.enter fK #[.map (some b)]) w := by
  simp only [execOp, q1.1, resolve, hev1, hev, Deferred.ofValue, Sem.run_bind, Sem.run_pure, Result.andThen_ok, invoke, callFunc, run_program, hfn1, hname1, hbody1, Bool.false_eq_true, if_false, List.map_toArray, List.map_cons, List.map_nil]
  rfl
 have step1 : ∀ {K : Exit → Act → World → Prop} {i : Nat} {rest : List Nat} {o : Oper} {a : Act} {w : World} {f : FuncId} {args : Array Value} {R : Ending → World → Prop}, ops[i]? = some o → o.guard = none → (execOp a.eval o).run P w = .ok (.enter f args) w → Calls P f args w R → (∀ e w', R e w' → ∃ x, e = .returned x ∧ wpOps P ops K rest (a.put o.dst x) w') → wpOps P ops K (i :: rest) a w := by
  intro K i rest o a w f args R ho hg hx hcl hn
  simp only [wpOps, ho]
  rw [if_pos (by simp [Region.wanted, hg])]
  refine .inl ?_
  unfold Oper.wp
  rw [hx, Oper.upon_enter]
  refine Calls.mono hcl fun e w' he => ?_
  obtain ⟨x, rfl, h⟩ := hn e w' he
  exact h
 refine step1 hg1 q1.2.2 hexe1 (hK (some b) w) ?_
 rintro _ w1 ⟨rfl, rfl⟩
 refine ⟨_, rfl, ?_⟩
 rw [q1.2.1]
 -- slices.Sorted
 have htsz := tmps_size ht
 have hv2 := compO_sound ht c2
 obtain ⟨us3, us4, hev2, hu3, hu4⟩ := hv2.fn_inv
 have z3 : us3 = #[] := by have := hu3.nil_r; exact Array.toList_inj.1 (by simpa using this)
 have z4 : us4 = #[] := by have := hu4.nil_r; exact Array.toList_inj.1 (by simpa using this)
 subst z3; subst z4
 have hg2e : (a.put (some d1) (.func (.func fC) #[] #[.pointer (some ⟨w.heap.size, 0, none⟩)])).eval g2 = a.eval g2 := by
  cases g2 <;> first | rfl | (simp [compO] at c2)
 have hd1e : (a.put (some d1) (.func (.func fC) #[] #[.pointer (some ⟨w.heap.size, 0, none⟩)])).eval (.tmp d1) = .func (.func fC) #[] #[.pointer (some ⟨w.heap.size, 0, none⟩)] := tmps_put_eq (by omega)
 have hexe2 : (execOp (a.put (some d1) (.func (.func fC) #[] #[.pointer (some ⟨w.heap.size, 0, none⟩)])).eval o2).run P (w.alloc (.cells #[.map (some b)] tc)) = .ok (.enter fS #[.func (.func fC) #[] #[.pointer (some ⟨w.heap.size, 0, none⟩)]]) (w.alloc (.cells #[.map (some b)] tc)) := by
  simp only [execOp, q2.1, resolve, hg2e, hev2, hd1e, Deferred.ofValue, Sem.run_bind, Sem.run_pure, Result.andThen_ok, invoke, callFunc, run_program, hfn2, hname2, hbody2, Bool.false_eq_true, if_false, List.map_toArray, List.map_cons, List.map_nil]
  rfl
 refine step1 hg2 q2.2.2 hexe2 (hS b en.size _ _ w hown (by rw [hdsz]; unfold maxLen; omega) (by rw [hdsz]; omega)) ?_
 rintro _ w2 ⟨v, ss, rfl, hperm, hrow, hnil, hbel⟩
 refine ⟨_, rfl, ?_⟩
 rw [q2.2.1]
 have hb0 : RowKit.Below w.heap.size w (w.alloc (.cells #[.map (some b)] tc)) := (RowKit.Below.refl _ _).alloc (Nat.le_refl _) _
 have hbw : RowKit.Below w.heap.size w w2 := hb0.trans (hbel.mono hb0.size)
 have hss : ss.Perm ks := hperm.trans hik
 have hms : ss.mergeSort (fun x y => decide (x ≤ y)) = ks.mergeSort (fun x y => decide (x ≤ y)) := mergeSort_of_perm_i hss
 rw [hms] at hrow
 have hll : (ks.mergeSort (fun x y => decide (x ≤ y))).length = ss.length := by rw [List.length_mergeSort, hss.length_eq]
 obtain ⟨rp, sp⟩ := rep_below (S' := fun q => S q ∨ (w.heap.size ≤ q ∧ q < w2.heap.size)) r (fun q h => .inl h) (fun q h => h.imp (fun h => h) And.left) (fun q h => h.elim (fun h => by have := r.sb q h; have := hbw.size; omega) And.right) hbw
 have hrel : VRel (fun q => S q ∨ (w.heap.size ≤ q ∧ q < w2.heap.size)) m w2 (keysV (ks.mergeSort fun x y => decide (x ≤ y))) v := by
  refine keysV_rel (base := w.heap.size) (ti := ti) ?_ ?_ (fun g h1 h2 => .inr ⟨h1, h2⟩)
  ·rw [hll]
   obtain ⟨k1, k2⟩ := hrow
   refine ⟨k1, k2.imp (fun h => h) ?_⟩
   rintro ⟨g, cap, cur, k3, k4, k5⟩
   exact ⟨g, cap, cur, k3, by simp at k4; omega, k5⟩
  ·rw [hnil]
   constructor
   ·intro h; rw [h] at hll; exact List.eq_nil_of_length_eq_zero hll
   ·intro h; rw [h] at hll; exact List.eq_nil_of_length_eq_zero hll.symm
 have ht2 : TRel (fun q => S q ∨ (w.heap.size ≤ q ∧ q < w2.heap.size)) m w2 (put (put s1.t (some d1) .dead) (some d2) (keysV (ks.mergeSort fun x y => decide (x ≤ y)))) ((a.put (some d1) (.func (.func fC) #[] #[.pointer (some ⟨w.heap.size, 0, none⟩)])).put (some d2) v).tmps :=
  TRel.put (TRel.put (ht.keep (sp.kp r)) _ .dead) _ hrel
 refine runOps_part hC [] post (pre.length + 2) lpost _ s2 _ m w2 _ hg3 hpost hrun2 rp ht2 fun S' m' w' a' r' ht' hst' hdf' => ?_
 refine ⟨.normal, s2, ⟨rfl, rfl⟩, ?_⟩
 exact ⟨by simp [exRel], S', m', r', ht', (hst.trans sp).trans hst', hdf'.trans hdf⟩
open Go
noncomputable def pureFH (k : Nat) (g : List AV → Option AV) : GF := fun args h => match mapO (frz h k) args with
 | some args' => match g args' with
  | some r => if scal r then some (r, h, none) else none
  | none => none
 | none => none
theorem pureFH_ok {P : Program} {f : FuncId} {k : Nat} {g : List AV → Option AV} (hb : Body P f) (hg : ∀ args r, g args = some r → PureS P f args r) : GOk P f (pureFH k g) := by
 intro args h r h' lo hc
 unfold pureFH at hc
 split at hc <;> first | (cases hc; done) | skip
 rename_i args' ha
 split at hc <;> first | (cases hc; done) | skip
 rename_i r' hr
 split at hc <;> cases hc
 rename_i hfl
 refine ⟨Pre.refl _ _, .inl ⟨hb, fun S m w vals r0 hL => ?_⟩⟩
 have hL' : LRel (Frz S m h) (fun _ => none) w args' vals.toList := frz_list (n := k) (fun v v' x hv hx => frz_sound r0 k v v' x hv hx) ha hL
 refine Calls.mono (hg _ _ hr (Frz S m h) w vals (fun b hb => by
  rcases hb with hb | ⟨id, ho⟩
  ·exact r0.sb b hb
  ·exact owns_lt r0 ho) hL') fun e w' he => ?_
 obtain ⟨v, S', rfl, h1, h2, h3, h4, h5⟩ := he
 obtain ⟨rp, sp⟩ := rep_below (S' := S) r0 (fun _ h => h) (fun _ h => .inl h) (fun b hb => by have := r0.sb b hb; have := h5.size; omega) h5
 exact ⟨v, S, m, rfl, h1.scal hfl S m w', rp, sp⟩
theorem Cl.pureH {Γ : FuncId → Option GF} {tbl : FuncId → Option AFunc} {f : FuncId} {k : Nat} {g : List AV → Option AV} {args args' : List AV} {h : List Blk} {r : AV} (hg : Γ f = some (pureFH k g)) (ha : mapO (frz h k) args = some args') (h1 : g args' = some r) (h2 : scal r = true) : Cl Γ tbl f args h (r, h, none) :=
 Cl.known hg (by simp [pureFH, ha, h1, h2])
def frV (st : Nat) (es : List (List AV)) (id : Nat) : AV := if es.isEmpty then .nils else .sl id st 0 es.length es.length false
def frH (es : List (List AV)) (h : List Blk) : List Blk := if es.isEmpty then h else h ++ [.cells es.flatten]
noncomputable def freshG (k st : Nat) (g : List AV → Option (List (List AV))) : GF := fun args h => match mapO (frz h k) args with
 | some args' => match g args' with
  | some es => some (frV st es h.length, frH es h, none)
  | none => none
 | none => none
theorem LRel.scal' {S m w vs xs} (h : LRel S m w vs xs) (hs : scalL vs = true) (S' : Nat → Prop) (m' : Emb) (w' : World) : LRel S' m' w' vs xs := ⟨h.1, fun i hi => (h.2 i hi).scal (scalL_getD hs i) S' m' w'⟩
theorem freshG_ok {P : Program} {f : FuncId} {k st : Nat} {g : List AV → Option (List (List AV))} (hb : Body P f) (hg : ∀ args es, g args = some es → scalL es.flatten = true ∧ ∃ h' id, AMS P f args [] (frV st es id) h' ∧ (es ≠ [] → Built st es h' id false)) : GOk P f (freshG k st g) := by
 intro args h r h' lo hc
 unfold freshG at hc
 split at hc <;> first | (cases hc; done) | skip
 rename_i args' ha
 split at hc <;> cases hc
 rename_i es hr
 obtain ⟨hsc, h2, id, hams, hbt⟩ := hg _ _ hr
 refine ⟨?_, .inl ⟨hb, fun S m w vals r0 hL => ?_⟩⟩
 ·unfold frH
  split
  ·exact Pre.refl _ _
  ·exact Pre.append _ _ _
 have hL' : LRel (Frz S m h) (fun _ => none) w args' vals.toList := frz_list (n := k) (fun v v' x hv hx => frz_sound r0 k v v' x hv hx) ha hL
 refine Calls.mono (hams (Frz S m h) (fun _ => none) w vals ⟨fun b hb => by
  rcases hb with hb | ⟨id, ho⟩
  ·exact r0.sb b hb
  ·exact owns_lt r0 ho, fun _ _ => rfl, fun id bl hb => by simp at hb, fun i j b hi => by obtain ⟨_, bl, hb, _⟩ := hi; simp at hb⟩ hL') fun e w' he => ?_
 obtain ⟨v, S', m', rfl, k1, k2, k3⟩ := he
 have hbw : RowKit.Below w.heap.size w w' := k3.below
 unfold frV frH at *
 cases hes : es.isEmpty with
 | true =>
  rw [hes] at k1
  simp only [if_true] at k1 ⊢
  obtain ⟨rp, sp⟩ := rep_below (S' := S) r0 (fun _ h => h) (fun _ h => .inl h) (fun b hb => by have := r0.sb b hb; have := hbw.size; omega) hbw
  cases k1
  exact ⟨_, S, m, rfl, .nils, rp, sp⟩
 | false =>
  rw [hes] at k1
  simp only [Bool.false_eq_true, if_false] at k1 ⊢
  have hne : es ≠ [] := fun h => by subst h; cases hes
  have hB := hbt hne
  obtain ⟨b, d, t, fz, c, e1, e2, e3, e4, e5, e6⟩ := k2.blk _ _ hB.blk
  have hbge : w.heap.size ≤ b := by
   refine Nat.le_of_not_lt fun hlt => ?_
   obtain ⟨id', _, bl, h1, _⟩ := k3.own id b ⟨⟨_, _, e1⟩, _, hB.blk, by simp⟩ hlt
   simp at h1
  have hdom : m h.length = none := r0.dom _ (Nat.le_refl _)
  have hk : Kp S m w S (upd m h.length (b, d, c.size)) w' := ⟨fun _ h => h, fun q hq => hbw.block q (r0.sb q hq), upd_le hdom⟩
  have hbl : b < w'.heap.size := (Array.getElem?_eq_some_iff.1 e2).1
  have hSb : ¬ S b := fun hS => by have := r0.sb b hS; omega
  have hown : ∀ j q, owns (h ++ [.cells es.flatten]) (upd m h.length (b, d, c.size)) j q → (j = h.length ∧ q = b) ∨ (j < h.length ∧ owns h m j q) := by
   rintro j q ⟨⟨d', z', hm⟩, bl, h1, h3⟩
   by_cases hj : j < h.length
   ·rw [List.getElem?_append_left hj] at h1
    rw [upd_ne (by omega)] at hm
    exact .inr ⟨hj, ⟨_, _, hm⟩, bl, h1, h3⟩
   ·have := lt_of_get h1
    simp at this
    have e : j = h.length := by omega
    subst e
    rw [upd_self] at hm
    cases hm
    exact .inl ⟨rfl, rfl⟩
  refine ⟨v, S, upd m h.length (b, d, c.size), rfl, ?_, ⟨fun q hq => by have := r0.sb q hq; have := hbw.size; omega, fun j hj => ?_, fun j bl hj => ?_, fun i j q hi hj => ?_⟩, ⟨fun _ h => h, upd_le hdom, hbw.os, hbw.tape, hbw.output, hbw.size, by simp, fun q hq _ => hbw.block q hq, fun j q ho hq => ?_, fun _ h => .inl h⟩⟩
  ·generalize hn : es.length = n at k1 ⊢
   cases k1 with
   | sl g1 hx hc hl hz =>
    rw [e1] at g1
    cases g1
    exact .sl upd_self hx hc hl hz
   | sle g1 =>
    exact absurd (List.eq_nil_of_length_eq_zero hn) hne
  ·simp at hj
   rw [upd_ne (by omega)]
   exact r0.dom _ (by omega)
  ·by_cases hlt : j < h.length
   ·rw [List.getElem?_append_left hlt] at hj
    refine (r0.blk j bl hj).keep r0 hk fun q hm hg => ?_
    have ho : owns h m j q := ⟨hm, bl, hj, hg⟩
    exact ⟨hbw.block q (owns_lt r0 ho), owns_not_S r0 ho⟩
   ·have := lt_of_get hj
    simp at this
    have e : j = h.length := by omega
    subst e
    rw [List.getElem?_append_right (Nat.le_refl _), Nat.sub_self] at hj
    cases hj
    exact ⟨b, d, t, fz, c, upd_self, e2, e3, e4, e5.scal' hsc _ _ _, hSb⟩
  ·rcases hown i q hi with ⟨a1, a2⟩ | ⟨a1, a2⟩ <;> rcases hown j q hj with ⟨b1, b2⟩ | ⟨b1, b2⟩
   ·omega
   ·have := owns_lt r0 b2; omega
   ·have := owns_lt r0 a2; omega
   ·exact r0.inj i j q a2 b2
  ·rcases hown j q ho with ⟨a1, a2⟩ | ⟨a1, a2⟩
   ·omega
   ·exact ⟨j, a2⟩
theorem Cl.fresh {Γ : FuncId → Option GF} {tbl : FuncId → Option AFunc} {f : FuncId} {k st : Nat} {g : List AV → Option (List (List AV))} {args args' : List AV} {h : List Blk} {es : List (List AV)} (hg : Γ f = some (freshG k st g)) (ha : mapO (frz h k) args = some args') (h1 : g args' = some es) : Cl Γ tbl f args h (frV st es h.length, frH es h, none) :=
 Cl.known hg (by simp [freshG, ha, h1])
open Go Go.RowKit
def Lies (w : World) : Nat → Prop := fun b => b < w.heap.size
def ARd {α : Type} (P : Program) (T : TypeId) (en : α → AV) (Q : α → Prop) : Prop :=
 ∀ {H : Type} {enc : TypeId × Value → H} {w : World} {base : Nat} {spare : Nat → Bool} {held : Bool} {fuel : Nat} {cs : List Value} {x : DataW H × List MemPlace}, DataW.trod enc P w base spare held fuel T cs = some x → ∃ a, LRel (Lies w) (fun _ => none) w (en a).cells cs ∧ Q a
theorem LRel.one {S m w v x} (h : VRel S m w v x) (ho : v.one = true) : LRel S m w v.cells [x] := by rw [cells_one ho]; exact LRel.cons h LRel.nil
theorem ard_int {P : Program} {T : TypeId} {k : IntKind} (h : P.underlying T = some (.int k)) : ARd P T (AV.int k) (fun n => (Lit.int k n).wf = true) := by
 intro H enc w base spare held fuel cs x hx
 obtain ⟨n, rfl, _, hw⟩ := DataW.trod_int h hx
 exact ⟨n, LRel.one .int rfl, hw⟩
theorem ard_string {P : Program} {T : TypeId} (h : P.underlying T = some .string) : ARd P T AV.str (fun s => s.length ≤ maxLen) := by
 intro H enc w base spare held fuel cs x hx
 obtain ⟨s, rfl, _, hw⟩ := DataW.trod_string h hx
 exact ⟨s.data.toList, LRel.one (.str rfl) rfl, by simpa [ByteArray.size_data] using hw⟩
theorem ard_list {α : Type} {R : Nat → α → Prop} : ∀ m : Nat, (∀ i, i < m → ∃ a, R i a) → ∃ l : List α, l.length = m ∧ ∀ i a, l[i]? = some a → R i a
 | 0, _ => ⟨[], rfl, fun i a h => by simp at h⟩
 | m + 1, h => by
  obtain ⟨l, hl, hR⟩ := ard_list m (fun i hi => h i (by omega))
  obtain ⟨a, ha⟩ := h m (by omega)
  refine ⟨l ++ [a], by simp [hl], fun i b hb => ?_⟩
  rcases Nat.lt_or_ge i m with h1 | h1
  ·rw [List.getElem?_append_left (by omega)] at hb
   exact hR i b hb
  ·rw [List.getElem?_append_right (by omega)] at hb
   have : i = m := by
    rcases Nat.lt_or_ge (i - l.length) 1 with h2 | h2
    ·omega
    ·rw [List.getElem?_eq_none (by simpa using h2)] at hb
     cases hb
   subst this
   rw [hl, Nat.sub_self] at hb
   injection hb with hb
   subst hb
   exact ha
theorem ard_slice {α : Type} {P : Program} {T e : TypeId} {en : α → AV} {st : Nat} {Q : α → Prop} (h : P.underlying T = some (.slice e)) (hst : P.cellsOf e = st) (h0 : 0 < st) (hr : ARd P e en Q) : ARd P T (fun l : List α => AV.ro (l.map en) st false) (fun l => l.length ≤ maxLen ∧ ∀ a ∈ l, Q a) := by
 intro H enc w base spare held fuel cs x hx
 rcases DataW.trod_slice h hx with ⟨rfl, _⟩ | ⟨a, len, cap, elems, rest, n, rfl, rfl, _, _, hl, hcap, he, hel, _, _⟩
 ·exact ⟨[], LRel.one (.ro0 (by simp)) rfl, Nat.zero_le _, fun a ha => by cases ha⟩
 ·have hj : ∀ i, i < len → ∃ a', Q a' ∧ ∃ c : List Value, c.length = st ∧ LRel (Lies w) (fun _ => none) w (en a').cells c ∧ ∀ j u, c[j]? = some u → w.cell? (a.add (i * st + j)) = some u := by
   intro i hi
   have h1 := hel i hi
   rw [List.getElem?_eq_getElem (by omega)] at h1
   obtain ⟨c, hc1, hc2⟩ := Option.bind_eq_some_iff.1 h1
   obtain ⟨a', hk, hq⟩ := hr hc2
   rw [hst] at hc1
   obtain ⟨_, h3, h4⟩ := World.cells?_some hc1
   refine ⟨a', hq, c, h3, hk, fun j u hu => ?_⟩
   have hjl : j < st := by
    rw [← h3]
    exact (List.getElem?_eq_some_iff.1 hu).1
   have h5 := h4 j hjl
   rw [hu] at h5
   rw [← h5, Addr.add_add]
  obtain ⟨l, hll, hR⟩ := ard_list len hj
  refine ⟨l, LRel.one ?_ rfl, by rw [hll]; exact Nat.le_trans hl hcap, fun b hb => ?_⟩
  ·cases hlen : l with
   | nil => rw [hlen] at hll; simp at hll; subst hll; exact .ro0 (by simp)
   | cons y ys =>
    rw [← hlen]
    have hpos : 0 < len := by rw [← hll, hlen]; simp
    obtain ⟨_, c0, h1, h2, h3⟩ := hR 0 y (by rw [hlen]; rfl)
    have hc0 := h3 0 _ (List.getElem?_eq_getElem (by omega))
    -- where the row lies
    obtain ⟨b, off, spot⟩ := a
    have hsp : spot = none := by
     simp only [Nat.zero_mul, Nat.add_zero] at hc0
     rw [show Addr.add ⟨b, off, spot⟩ 0 = ⟨b, off, spot⟩ by simp [Addr.add]] at hc0
     unfold World.cell? at hc0
     split at hc0
     ·cases spot
      ·rfl
      ·simp at hc0
     ·cases hc0
    subst hsp
    have hb : b < w.heap.size := by
     simp only [Nat.zero_mul, Nat.add_zero] at hc0
     rw [show Addr.add ⟨b, off, none⟩ 0 = ⟨b, off, none⟩ by simp [Addr.add]] at hc0
     unfold World.cell? at hc0
     split at hc0
     ·rename_i hbb; exact (Array.getElem?_eq_some_iff.1 hbb).1
     ·cases hc0
    have hel' : ∀ i, i < (l.map en).length → ∃ y c, l[i]? = some y ∧ (l.map en).getD i .dead = en y ∧ c.length = st ∧ LRel (Lies w) (fun _ => none) w (en y).cells c ∧ ∀ j u, c[j]? = some u → w.cell? ⟨b, off + (i * st + j), none⟩ = some u := by
     intro i hi
     simp only [List.length_map] at hi
     obtain ⟨_, c, h1, h2, h3⟩ := hR i _ (List.getElem?_eq_getElem hi)
     exact ⟨l[i], c, List.getElem?_eq_getElem hi, by simp [List.getD_eq_getElem?_getD, List.getElem?_eq_getElem hi], h1, h2, fun j u hu => by rw [← add_mk]; exact h3 j u hu⟩
    have hlm : (l.map en).length = len := by simp [hll]
    rw [← hlm]
    refine .ro (fun i j => (w.cell? ⟨b, off + (i * st + j), none⟩).getD undef) hb ?_ ?_ ?_ (by simp) (by rw [hlm]; exact hl)
    ·intro i j hi hj
     obtain ⟨y, c, g1, g2, g3, g4, g5⟩ := hel' i hi
     rw [g5 j _ (List.getElem?_eq_getElem (by omega))]; rfl
    ·intro i hi
     obtain ⟨y, c, g1, g2, g3, g4, g5⟩ := hel' i hi
     rw [g2, g4.1]; exact g3
    ·intro i j hi hj
     obtain ⟨y, c, g1, g2, g3, g4, g5⟩ := hel' i hi
     have h7 := g4.2 j (by rw [g4.1]; omega)
     rw [g2, g5 j _ (List.getElem?_eq_getElem (by omega))]
     simpa [List.getD_eq_getElem?_getD, List.getElem?_eq_getElem (show j < c.length by omega)] using h7
  ·obtain ⟨i, hi, rfl⟩ := List.getElem_of_mem hb
   exact (hR i _ (List.getElem?_eq_getElem hi)).1
def ARdF {α : Type} (P : Program) (fs : List Field) (off : Nat) (sz : Nat) (en : α → List AV) (Q : α → Prop) : Prop :=
 ∀ {H : Type} {enc : TypeId × Value → H} {w : World} {base : Nat} {spare : Nat → Bool} {held : Bool} {fuel : Nat} {cs : List Value}, (∀ f ∈ fs, ∃ y, DataW.trod enc P w base spare held fuel f.type ((cs.drop f.offset).take (P.cellsOf f.type)) = some y) → cs.length = off + sz → ∃ a, LRel (Lies w) (fun _ => none) w (en a) (cs.drop off) ∧ Q a
theorem ardF_one {α : Type} {P : Program} {f : Field} {off sz : Nat} {en : α → AV} {Q : α → Prop} (ho : f.offset = off) (hc : P.cellsOf f.type = sz) (hr : ARd P f.type en Q) : ARdF P [f] off sz (fun a => (en a).cells) Q := by
 intro H enc w base spare held fuel cs h hl
 obtain ⟨y, hy⟩ := h f (List.mem_cons_self ..)
 rw [ho, hc, List.take_of_length_le (by rw [List.length_drop]; omega)] at hy
 exact hr hy
theorem ardF_cons {α β : Type} {P : Program} {f : Field} {fs : List Field} {off sz sz' : Nat} {en : α → AV} {en' : β → List AV} {Q : α → Prop} {Q' : β → Prop} (ho : f.offset = off) (hc : P.cellsOf f.type = sz) (hr : ARd P f.type en Q) (hs : ARdF P fs (off + sz) sz' en' Q') :
  ARdF P (f :: fs) off (sz + sz') (fun x : α × β => (en x.1).cells ++ en' x.2) (fun x => Q x.1 ∧ Q' x.2) := by
 intro H enc w base spare held fuel cs h hl
 obtain ⟨y, hy⟩ := h f (List.mem_cons_self ..)
 rw [ho, hc] at hy
 obtain ⟨a, ha, hq⟩ := hr hy
 obtain ⟨b, hb, hq'⟩ := hs (cs := cs) (fun f' hf' => h f' (List.mem_cons_of_mem _ hf')) (by omega)
 refine ⟨(a, b), ?_, hq, hq'⟩
 have e : cs.drop off = (cs.drop off).take sz ++ cs.drop (off + sz) := by
  rw [show cs.drop (off + sz) = (cs.drop off).drop sz from by rw [List.drop_drop]]
  exact (List.take_append_drop ..).symm
 rw [e]
 exact ha.append hb
theorem ard_struct {α β : Type} {P : Program} {T : TypeId} {fs : Array Field} {sz : Nat} {en : α → List AV} {Q : α → Prop} (mk : α → β) (en' : β → AV) (hen : ∀ a, en' (mk a) = .agg (en a)) (h : P.underlying T = some (.struct fs)) (hc : P.cellsOf T = sz) (hr : ARdF P fs.toList 0 sz en Q) : ARd P T en' (fun b => ∃ a, mk a = b ∧ Q a) := by
 intro H enc w base spare held fuel cs x hx
 obtain ⟨xs, n, rfl, rfl, hl, hxs, hf⟩ := DataW.trod_struct h hx
 obtain ⟨a, h1, h2⟩ := hr (enc := enc) (w := w) (base := base) (spare := spare) (held := held) (fuel := n) (cs := cs) (fun f hfm => by
  obtain ⟨i, hi, rfl⟩ := List.getElem_of_mem hfm
  have hi' : i < fs.size := by simpa using hi
  have h1 := hf i fs.toList[i] (by simp [hi'])
  rw [List.getElem?_eq_getElem (by omega)] at h1
  exact ⟨_, h1⟩) (by omega)
 rw [List.drop_zero] at h1
 exact ⟨mk a, by rw [hen]; exact h1, a, rfl, h2⟩
theorem ard_mono {α : Type} {P : Program} {T : TypeId} {en : α → AV} {Q Q' : α → Prop} (h : ∀ a, Q a → Q' a) (hr : ARd P T en Q) : ARd P T en Q' := by
 intro H enc w base spare held fuel cs x hx
 obtain ⟨a, hk, hq⟩ := hr hx
 exact ⟨a, hk, h a hq⟩
theorem ard_arg {α : Type} {P : Program} {T : TypeId} {en : α → AV} {Q : α → Prop} (hr : ARd P T en Q) {H : Type} {enc : TypeId × Value → H} {w : World} {base : Nat} {spare : Nat → Bool} {held : Bool} {v : Value} {x : DataW H} {ps : List MemPlace}
  (h : DataW.Trod enc P w base spare held T v x ps) : ∃ a, LRel (Lies w) (fun _ => none) w (en a).cells v.cells.toList ∧ Q a := by
 obtain ⟨fuel, hf⟩ := h
 exact hr hf
theorem ard_one {S m w v x} (h : LRel S m w v.cells [x]) (hv : v.one = true) : VRel S m w v x := by
 rw [cells_one hv] at h
 obtain ⟨y, r, h1, h2, _⟩ := h.head
 cases h1
 exact h2
end Go.Proofs.Ytlhbfikfnecknaa.AM

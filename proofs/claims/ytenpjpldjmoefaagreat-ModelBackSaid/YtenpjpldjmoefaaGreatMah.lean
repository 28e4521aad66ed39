/-
  'gauger's law ModelBack holds of every input: it returns true, and each argument reads behind the call as it read before.
  This text: part 8 of 22 of the proof (AmBits, AmPt, AmUn, AmLo, AmGr, AmRg, AmDc, AmCl, AmEv, AmFo, AmFq, AmIn, AmKy, AmKs).
-/
import Derived.Test.YtenpjpldjmoefaaGreatMae
import Derived.Test.YtenpjpldjmoefaaGreatMag
import Derived.Test.YtenpjpldjmoefaaGreatMaf
import Derived.Maps.RangeRun
import Derived.KernelRfl
import Derived.Lib.AppendZeros
import Derived.Maps.Own
import Derived.Lib.SlKeysI
import Derived.WideShapes
import Derived.Sort.KeysCollected
set_option linter.unusedVariables false
set_option linter.unusedSimpArgs false
namespace Go.Proofs.YtenpjpldjmoefaaGreat.AM
open Go
theorem ints3 {S m w k1 k2 k3 a b c} {vals : Array Value} (hL : LRel S m w [.int k1 a, .int k2 b, .int k3 c] vals.toList) : vals = #[.int k1 a, .int k2 b, .int k3 c] := by
 obtain ⟨x, r, h0, h1, h2⟩ := hL.head
 obtain ⟨y, r', rfl, h3, h4⟩ := h2.head
 obtain ⟨z, r'', rfl, h5, h6⟩ := h4.head
 cases h1; cases h3; cases h5
 have := h6.nil_r
 subst this
 apply Array.toList_inj.1
 exact h0
def xAdd : List AV → Option AV
 | [.int .u64 x, .int .u64 y, .int .u64 c] => if decide (0 ≤ x) && decide (0 ≤ y) && decide (0 ≤ c) && decide (c ≤ 1) then some (.tup [.int .u64 ((x + y + c) % 18446744073709551616), .int .u64 ((x + y + c) / 18446744073709551616)]) else none
 | _ => none
def xSub : List AV → Option AV
 | [.int .u64 x, .int .u64 y, .int .u64 c] => if decide (0 ≤ x) && decide (0 ≤ y) && decide (y < 18446744073709551616) && decide (0 ≤ c) && decide (c ≤ 1) then some (.tup [.int .u64 ((x - y - c) % 18446744073709551616), .int .u64 (if x < y + c then 1 else 0)]) else none
 | _ => none
theorem xAdd_ok : GOk Tryz.prog 173 (extG xAdd) := by
 refine extG_ok fun args r hr S m w vals hL => ?_
 unfold xAdd at hr
 split at hr
 ·split at hr <;> cases hr
  rename_i x y c hc
  simp only [Bool.and_eq_true, decide_eq_true_eq] at hc
  obtain ⟨⟨⟨h1, h2⟩, h3⟩, h4⟩ := hc
  rw [ints3 hL]
  exact ⟨_, add64 x y c h1 h2 h3 h4 w, LRel.tup (LRel.cons .int (LRel.cons .int LRel.nil))⟩
 ·cases hr
theorem xSub_ok : GOk Tryz.prog 172 (extG xSub) := by
 refine extG_ok fun args r hr S m w vals hL => ?_
 unfold xSub at hr
 split at hr
 ·split at hr <;> cases hr
  rename_i x y c hc
  simp only [Bool.and_eq_true, decide_eq_true_eq] at hc
  obtain ⟨⟨⟨⟨h1, h2⟩, h3⟩, h4⟩, h5⟩ := hc
  rw [ints3 hL]
  exact ⟨_, sub64 x y c h1 h2 h3 h4 h5 w, LRel.tup (LRel.cons .int (LRel.cons .int LRel.nil))⟩
 ·cases hr
open Go
abbrev ap (H : List Blk) (c : List AV) : List Blk := H ++ [.cells c]
abbrev apm (H : List Blk) : List Blk := H ++ [.map []]
theorem gl {H : List Blk} {b : Blk} : (H ++ [b])[H.length]? = some b := by simp
theorem ga {H : List Blk} {b x : Blk} {i : Nat} (h : H[i]? = some x) : (H ++ [b])[i]? = some x := by
 rw [List.getElem?_append_left (List.getElem?_eq_some_iff.1 h).1]; exact h
theorem gset {H : List Blk} {b x : Blk} {i : Nat} (h : H[i]? = some x) : (H.set i b)[i]? = some b := List.getElem?_set_self (List.getElem?_eq_some_iff.1 h).1
theorem gne {H : List Blk} {b x : Blk} {i j : Nat} (hne : i ≠ j) (h : H[j]? = some x) : (H.set i b)[j]? = some x := by rw [List.getElem?_set_ne hne]; exact h
theorem glt {H : List Blk} {x : Blk} {i : Nat} (h : H[i]? = some x) : i < H.length := (List.getElem?_eq_some_iff.1 h).1
theorem ldC {H : List Blk} {id off : Nat} {cs : List AV} {n : Option Nat} {v : AV} (hb : H[id]? = some (.cells cs)) (hv : (bif Nat.ble (off + cellsN n) cs.length then asVar n ((cs.drop off).take (cellsN n)) else none) = some v) : pOp evC H (.load n (.c (.ptr id off))) = some v := by
 simp only [pOp, evC, rdPtr, rdCells, hb]
 cases hb2 : Nat.ble (off + cellsN n) cs.length with
 | true => rw [hb2] at hv; rw [if_pos (Nat.le_of_ble_eq_true hb2)]; exact hv
 | false => rw [hb2] at hv; cases hv
theorem stC {H : List Blk} {id off n : Nat} {cs : List AV} {v : AV} (hb : H[id]? = some (.cells cs)) (h1 : v.cells.length = n) (h2 : Nat.ble (off + n) cs.length = true) (h3 : v.cells.all AV.one = true) : wOp evC H (.store n (.c (.ptr id off)) (.c v)) = some (.tup [], H.set id (.cells (splice cs off v.cells)), some id) := by
 simp only [wOp, evC, h1, if_true, wrCells, hb]
 rw [if_pos (by rw [h3, Bool.and_true, decide_eq_true]; exact Nat.le_of_ble_eq_true h2)]
 rfl
theorem stLast {H : List Blk} {n : Nat} {z : List AV} {v : AV} (h1 : v.cells.length = n) (h2 : z.length = n) (h3 : v.cells.all AV.one = true) : wOp evC (H ++ [.cells z]) (.store n (.c (.ptr H.length 0)) (.c v)) = some (.tup [], H ++ [.cells v.cells], some H.length) := by
 rw [stC gl h1 (by rw [h2, Nat.zero_add]; simp) h3]
 have : splice z 0 v.cells = v.cells := by
  unfold splice
  rw [List.take_zero, List.nil_append, Nat.zero_add, List.drop_eq_nil_of_le (by omega), List.append_nil]
 rw [this, List.set_append_right _ _ (Nat.le_refl _), Nat.sub_self]
 rfl
section
variable {Γ : FuncId → Option GF} {tbl : FuncId → Option AFunc}
theorem path4 {nt live} {k : ACode} {t : List AV} {h : List Blk} {lo : Option Nat} (ds : List Dec) (outs : List Nat) {e : AExit} {vals : List AV} {h' : List Blk} (cs : List Prop) (hl : Lv nt live t)
  (hp : ∀ t0, (symC Γ tbl k { t := mkT nt live t0, h := h, lo := lo } ds).map (fun x => (x.1, outs.map (getX x.2.1.t), x.2.1.h, x.2.2.2)) = some (e, vals, h', cs)) (hc : allP cs) :
  Wp Γ tbl k { t := t, h := h, lo := lo } fun e2 s2 => e2 = e ∧ ∃ t2 lo2, s2 = { t := t2, h := h', lo := lo2 } ∧ Lv nt (outs.zip vals) t2 := by
 have h1 := hp t
 rw [← hl.eq, Option.map_eq_some_iff] at h1
 obtain ⟨x, h2, h3⟩ := h1
 obtain ⟨x1, x2, x3, x4⟩ := x
 cases h3
 refine (symC_sound k _ ds _ _ _ _ h2 hc).mono ?_
 rintro e2 s2 ⟨rfl, rfl⟩
 exact ⟨rfl, s2.t, s2.lo, rfl, Lv.of ((symC_len k _ _ _ _ _ _ h2).trans hl.len) rfl⟩
theorem clB {f : FuncId} {af : AFunc} {args : List AV} {h : List Blk} (hg : Γ f = none) (ht : tbl f = some af) (hle : Nat.ble args.length af.nt = true) (Q : AV → List Blk → Prop)
  (hw : Wp Γ tbl af.body { t := args ++ List.replicate (af.nt - args.length) (.tup []), h := h } fun e s => (∀ i, e ≠ .exit i) ∧ ∃ vs, resAll s af.res = some vs ∧ Q (packRes vs) s.h) : ∃ r h' lo, Q r h' ∧ Cl Γ tbl f args h (r, h', lo) := by
 obtain ⟨n, e, s, h1, h2, vs, h3, h4⟩ := hw
 exact ⟨_, _, s.lo, h4, Cl.of hg ht (Nat.le_of_ble_eq_true hle) ⟨n, e, s, h1, h2, vs, h3, rfl, rfl, rfl⟩⟩
end
open Go
def rnds (b : ACode) : Nat → ACode
 | 0 => .bad
 | n + 1 => .seq b (rnds b n)
def unr (k : Nat) : ACode → ACode
 | .seq a b => .seq (unr k a) (unr k b)
 | .cond c a b => .cond c (unr k a) (unr k b)
 | .block i b => .block i (unr k b)
 | .loop b => rnds (unr k b) k
 | c => c
section
variable {Γ : FuncId → Option GF} {tbl : FuncId → Option AFunc}
theorem Wp.inv_seq {a b s} {Q : AExit → St → Prop} (h : Wp Γ tbl (.seq a b) s Q) : Wp Γ tbl a s fun e s' => match e with | .normal => Wp Γ tbl b s' Q | e => Q e s' := by
 obtain ⟨n, e, s', h1, h2⟩ := h
 cases n with
 | zero => simp [exec] at h1
 | succ n =>
  rw [exec] at h1
  split at h1
  ·rename_i s1 he
   exact ⟨n + 1, .normal, s1, exec_mono (callF_mono _ _ (Nat.le_refl _)) n (n + 1) (by omega) _ _ _ he, n + 1, e, s', exec_mono (callF_mono _ _ (Nat.le_refl _)) n (n + 1) (by omega) _ _ _ h1, h2⟩
  ·rename_i hr
   have he : exec (callF Γ tbl (n + 1)) (n + 1) a s = some (e, s') := exec_mono (callF_mono _ _ (Nat.le_refl _)) n (n + 1) (by omega) _ _ _ h1
   refine ⟨n + 1, e, s', he, ?_⟩
   cases e with
   | normal => exact absurd h1 (hr s')
   | exit i => exact h2
   | ret => exact h2
theorem Wp.inv_block {i b s} {Q : AExit → St → Prop} (h : Wp Γ tbl (.block i b) s Q) : Wp Γ tbl b s fun e s' => match e with | .exit j => Q (if j = i then .normal else .exit j) s' | e => Q e s' := by
 obtain ⟨n, e, s', h1, h2⟩ := h
 cases n with
 | zero => simp [exec] at h1
 | succ n =>
  rw [exec] at h1
  split at h1
  ·rename_i j s1 he
   cases h1
   exact ⟨n + 1, _, _, exec_mono (callF_mono _ _ (Nat.le_refl _)) n (n + 1) (by omega) _ _ _ he, h2⟩
  ·rename_i hr
   refine ⟨n + 1, e, s', exec_mono (callF_mono _ _ (Nat.le_refl _)) n (n + 1) (by omega) _ _ _ h1, ?_⟩
   cases e with
   | normal => exact h2
   | exit j => exact absurd h1 (hr j s')
   | ret => exact h2
theorem Wp.inv_cond {c a b s} {Q : AExit → St → Prop} (h : Wp Γ tbl (.cond c a b) s Q) : ∃ v, evalO s.t c = .bool v ∧ Wp Γ tbl (if v then a else b) s Q := by
 obtain ⟨n, e, s', h1, h2⟩ := h
 cases n with
 | zero => simp [exec] at h1
 | succ n =>
  rw [exec] at h1
  split at h1
  ·rename_i hv
   exact ⟨true, hv, n + 1, e, s', exec_mono (callF_mono _ _ (Nat.le_refl _)) n (n + 1) (by omega) _ _ _ h1, h2⟩
  ·rename_i hv
   exact ⟨false, hv, n + 1, e, s', exec_mono (callF_mono _ _ (Nat.le_refl _)) n (n + 1) (by omega) _ _ _ h1, h2⟩
  ·cases h1
theorem Wp.round {b s} {Q : AExit → St → Prop} (h : Wp Γ tbl b s fun e s' => match e with | .normal => Wp Γ tbl (.loop b) s' Q | e => Q e s') : Wp Γ tbl (.loop b) s Q := by
 obtain ⟨n, e, s', h1, h2⟩ := h
 cases e with
 | normal =>
  obtain ⟨m, e2, s2, h3, h4⟩ := h2
  have l1 : n ≤ n + m + 1 := by omega
  have l2 : m ≤ n + m + 1 := by omega
  refine ⟨n + m + 1, e2, s2, ?_, h4⟩
  rw [exec, exec_mono (callF_mono n _ l1) n (n + m) (by omega) _ _ _ h1]
  exact exec_mono (callF_mono m _ l2) m (n + m) (by omega) _ _ _ h3
 | exit i => exact ⟨n + 1, _, _, by rw [exec, exec_mono (callF_mono n _ (by omega)) n n (by omega) _ _ _ h1], h2⟩
 | ret => exact ⟨n + 1, _, _, by rw [exec, exec_mono (callF_mono n _ (by omega)) n n (by omega) _ _ _ h1], h2⟩
theorem Wp.no {s} {Q : AExit → St → Prop} (h : Wp Γ tbl .bad s Q) : False := by
 obtain ⟨n, e, s', h1, h2⟩ := h
 cases n <;> simp [exec] at h1
theorem rnds_sound {b b' : ACode} (hb : ∀ s (Q : AExit → St → Prop), Wp Γ tbl b' s Q → Wp Γ tbl b s Q) : ∀ n s (Q : AExit → St → Prop), Wp Γ tbl (rnds b' n) s Q → Wp Γ tbl (.loop b) s Q
 | 0, s, Q, h => (Wp.no h).elim
 | n + 1, s, Q, h => Wp.round (hb _ _ ((Wp.inv_seq h).mono fun e s' h' => by
   cases e with
   | normal => exact rnds_sound hb n s' Q h'
   | exit i => exact h'
   | ret => exact h'))
theorem unr_sound (k : Nat) : ∀ (c : ACode) (s : St) (Q : AExit → St → Prop), Wp Γ tbl (unr k c) s Q → Wp Γ tbl c s Q
 | .seq a b, s, Q, h => Wp.seq (unr_sound k a _ _ ((Wp.inv_seq h).mono fun e s' h' => by
   cases e with
   | normal => exact unr_sound k b _ _ h'
   | exit i => exact h'
   | ret => exact h'))
 | .cond c a b, s, Q, h => by
  obtain ⟨v, h1, h2⟩ := Wp.inv_cond h
  refine Wp.cond v h1 ?_
  cases v
  ·exact unr_sound k b _ _ h2
  ·exact unr_sound k a _ _ h2
 | .block i b, s, Q, h => Wp.block (unr_sound k b _ _ ((Wp.inv_block h).mono fun e s' h' => h'))
 | .loop b, s, Q, h => rnds_sound (unr_sound k b) k s Q h
 | .skip, _, _, h => h
 | .reg _, _, _, h => h
 | .dreg _, _, _, h => h
 | .exit _, _, _, h => h
 | .ret, _, _, h => h
 | .bad, _, _, h => h
end
def resK (t : List AV) (h : List Blk) : List ARes → List AV → Option (List AV × List Prop)
 | [], [] => some ([], [])
 | .t n :: l, cv => (resK t h l cv).map fun x => ((t[n]?).getD .dead :: x.1, x.2)
 | .cell a n :: l, v :: cv => (resK t h l cv).map fun x => (v :: x.1, (pOp evC h (.load n (.c ((t[a]?).getD .dead))) = some v) :: x.2)
 | _, _ => none
theorem resK_sound {s : St} : ∀ {l : List ARes} {cv vs : List AV} {c : List Prop}, resK s.t s.h l cv = some (vs, c) → allP c → resAll s l = some vs
 | [], [], vs, c, h, _ => by cases h; rfl
 | [], _ :: _, vs, c, h, _ => by cases h
 | .t n :: l, cv, vs, c, h, hc => by
  simp only [resK, Option.map_eq_some_iff] at h
  obtain ⟨x, h1, h2⟩ := h
  cases h2
  simp only [resAll, resOf, resK_sound h1 hc]
 | .cell a n :: l, [], vs, c, h, hc => by cases h
 | .cell a n :: l, v :: cv, vs, c, h, hc => by
  simp only [resK, Option.map_eq_some_iff] at h
  obtain ⟨x, h1, h2⟩ := h
  cases h2
  have e : (rdPtr s.h (cellsN n) ((s.t[a]?).getD .dead)).bind (asVar n) = some v := hc.1
  simp only [resAll, resOf, e, resK_sound h1 hc.2]
section
variable {Γ : FuncId → Option GF} {tbl : FuncId → Option AFunc}
theorem clC (k : Nat) {f : FuncId} {af : AFunc} {args : List AV} {h : List Blk} (ds : List Dec) (cv : List AV) {r : AV} {h' : List Blk} (cs : List Prop) (hg : Γ f = none) (ht : tbl f = some af) (hle : Nat.ble args.length af.nt = true)
  (hp : (symC Γ tbl (unr k af.body) { t := args ++ List.replicate (af.nt - args.length) (.tup []), h := h } ds).bind (fun x => match x.1 with
   | .exit _ => none
   | _ => (resK x.2.1.t x.2.1.h af.res cv).map fun y => (packRes y.1, x.2.1.h, x.2.2.2 ++ y.2)) = some (r, h', cs)) (hc : allP cs) : ∃ lo, Cl Γ tbl f args h (r, h', lo) := by
 rw [Option.bind_eq_some_iff] at hp
 obtain ⟨⟨e, s, ds', c⟩, h1, h2⟩ := hp
 have hx : ∀ i, e ≠ .exit i := by rintro i rfl; cases h2
 have h3 : (resK s.t s.h af.res cv).map (fun y => (packRes y.1, s.h, c ++ y.2)) = some (r, h', cs) := by cases e <;> first | exact h2 | exact absurd rfl (hx _)
 rw [Option.map_eq_some_iff] at h3
 obtain ⟨y, h4, h5⟩ := h3
 cases h5
 have hc2 := allP_append hc
 refine ⟨s.lo, Cl.of hg ht (Nat.le_of_ble_eq_true hle) ((unr_sound k _ _ _ (symC_sound _ _ _ _ _ _ _ h1 hc2.1)).mono ?_)⟩
 rintro e2 s2 ⟨rfl, rfl⟩
 exact ⟨hx, _, resK_sound h4 hc2.2, rfl, rfl, rfl⟩
end
def opAll (o : AOp) (v : AV) : List (List Blk) → Prop
 | [] => True
 | h :: r => pOp evC h o = some v ∧ opAll o v r
theorem stays_op {d : Option Nat} {o : AOp} {g : Option (Nat × Bool)} {k e : Nat} {v : AV} {Hs L : List (List Blk)} (hd : (Hs.drop k).take (e + 1 - k) = L) (hv : eqv v v = true) (h : opAll o v L) : stays evC ⟨d, o, g, k, e⟩ v Hs = true := by
 have : ∀ L : List (List Blk), opAll o v L → (L.all fun h => match pOp evC h o with
  | some v' => eqv v' v
  | none => false) = true := by
  intro L
  induction L with
  | nil => intro _; rfl
  | cons a r ih =>
   intro h
   rw [List.all_cons, h.1]
   simp only [hv, Bool.true_and]
   exact ih h.2
 unfold stays
 simp only [hd]
 have := this L h
 exact (congrArg (fun b => !o.reads || Nat.ble e k || b) this).trans (Bool.or_true _)
open Go
theorem Lv.sub {nt live live' t} (h : Lv nt live t) (hs : ∀ p ∈ live', p ∈ live) : Lv nt live' t := ⟨h.len, fun p hp => h.get p (hs p hp)⟩
theorem getX_put {t : List AV} {d j : Nat} {v : AV} (hne : j ≠ d) : getX (put t (some d) v) j = getX t j := by
 rw [getX_eq, getX_eq]
 unfold put
 simp only
 rw [List.getElem?_set_ne (Ne.symm hne)]
theorem getX_put_eq {t : List AV} {d : Nat} {v : AV} (hlt : d < t.length) : getX (put t (some d) v) d = v := by
 rw [getX_eq]
 unfold put
 simp only
 rw [List.getElem?_set_self hlt]
 rfl
theorem Lv.put {nt live t} (h : Lv nt live t) {d : Nat} {v : AV} (hf : ∀ p ∈ live, p.1 ≠ d) : Lv nt live (AM.put t (some d) v) := ⟨(put_len t _ _).trans h.len, fun p hp => (getX_put (hf p hp)).trans (h.get p hp)⟩
theorem Lv.put' {nt live t} (h : Lv nt live t) {d : Nat} {v : AV} (hd : d < nt) (hf : ∀ p ∈ live, p.1 ≠ d) : Lv nt ((d, v) :: live) (AM.put t (some d) v) := ⟨(put_len t _ _).trans h.len, fun p hp => by
 rcases List.mem_cons.1 hp with rfl | hp
 ·exact getX_put_eq (by rw [h.len]; exact hd)
 ·exact (getX_put (hf p hp)).trans (h.get p hp)⟩
theorem Lv.ev {nt live t} (h : Lv nt live t) {n : Nat} {v : AV} (hm : (n, v) ∈ live) : evalO t (.t n) = v := by
 have := h.get _ hm
 rw [getX_eq] at this
 exact this
section
variable {Γ : FuncId → Option GF} {tbl : FuncId → Option AFunc}
abbrev rngC (B i n c d : Nat) (body : ACode) : ACode := .block B (.loop (.seq (.reg [⟨some c, .bin .lss (.t i) (.t n), none, 0, 0⟩]) (.seq (.cond (.t c) .skip (.exit B)) (.seq body (.reg [⟨some d, .bin .add (.t i) (.c (.int .i64 1)), none, 0, 0⟩, ⟨some i, .mv (.t d), none, 0, 0⟩])))))
theorem rangeL {nt B i n c d : Nat} {body : ACode} {X : Type} {N : Nat} (live : Nat → X → List (Nat × AV)) (hp : Nat → X → List Blk) (P : Nat → X → Prop) (QR : St → Prop)
  (hN : N ≤ 9223372036854775807) (hi : i < nt) (hc : c < nt) (hd : d < nt) (hci : c ≠ i) (hdi : d ≠ i)
  (hfr0 : ∀ k x, ((live k x).all fun p => !(Nat.beq p.1 i || (Nat.beq p.1 c || Nat.beq p.1 d))) = true) (hn0 : ∀ k x, assocO (live k x) n = some (AV.int .i64 (N : Int)))
  (hb : ∀ k x t lo, k < N → P k x → Lv nt ((i, .int .i64 (k : Int)) :: live k x) t → Wp Γ tbl body { t := t, h := hp k x, lo := lo } fun e s =>
   (e = .normal ∧ ∃ x' t' lo', s = { t := t', h := hp (k + 1) x', lo := lo' } ∧ P (k + 1) x' ∧ Lv nt ((i, .int .i64 (k : Int)) :: live (k + 1) x') t') ∨ (e = .ret ∧ QR s))
  {x0 : X} {t : List AV} {lo : Option Nat} (h0 : P 0 x0) (hl : Lv nt ((i, .int .i64 0) :: live 0 x0) t) :
  Wp Γ tbl (rngC B i n c d body) { t := t, h := hp 0 x0, lo := lo } fun e s =>
   (e = .normal ∧ ∃ x t' lo', s = { t := t', h := hp N x, lo := lo' } ∧ P N x ∧ Lv nt (live N x) t') ∨ (e = .ret ∧ QR s) := by
 have hfr : ∀ k x, ∀ p ∈ live k x, p.1 ≠ i ∧ p.1 ≠ c ∧ p.1 ≠ d := fun k x p hp => by
  have := List.all_eq_true.1 (hfr0 k x) p hp
  simp only [Bool.not_eq_true', Bool.or_eq_false_iff] at this
  have key : ∀ {a b : Nat}, Nat.beq a b = false → a ≠ b := fun {a b} hb h => by subst h; rw [Nat.beq_refl] at hb; cases hb
  exact ⟨key this.1, key this.2.1, key this.2.2⟩
 have hn : ∀ k x, (n, AV.int .i64 (N : Int)) ∈ live k x := fun k x => assocO_mem (hn0 k x)
 refine Wp.block ?_
 refine (Wp.loop (Q := fun e s => (e = .exit B ∧ ∃ x t' lo', s = { t := t', h := hp N x, lo := lo' } ∧ P N x ∧ Lv nt (live N x) t') ∨ (e = .ret ∧ QR s)) (fun q s => ∃ k x t lo, q = N - k ∧ k ≤ N ∧ s = { t := t, h := hp k x, lo := lo } ∧ P k x ∧ Lv nt ((i, .int .i64 (k : Int)) :: live k x) t) ?_ N _ ⟨0, x0, t, lo, by omega, by omega, rfl, h0, hl⟩).mono ?_
 ·rintro q s ⟨k, x, t, lo, rfl, hk, rfl, hP, hl⟩
  have e1 : evalO t (.t i) = .int .i64 (k : Int) := hl.ev List.mem_cons_self
  have e2 : evalO t (.t n) = .int .i64 (N : Int) := hl.ev (List.mem_cons_of_mem _ (hn k x))
  refine Wp.seq (Wp.reg (WpO.pure (.bool (decide ((k : Int) < (N : Int)))) rfl rfl (by simp only [pOp, e1, e2, abin, if_pos, aint]) (WpO.nil ?_)))
  have hl2 : Lv nt ((i, .int .i64 (k : Int)) :: live k x) (put t (some c) (.bool (decide ((k : Int) < (N : Int))))) := hl.put fun p hp => by
   rcases List.mem_cons.1 hp with rfl | hp
   ·exact Ne.symm hci
   ·exact (hfr k x p hp).2.1
  refine Wp.seq ?_
  by_cases hlt : k < N
  ·refine Wp.cond true (by rw [decide_eq_true (by omega : (k : Int) < (N : Int))]; exact Lv.ev (live := [(c, .bool true)]) ⟨(put_len _ _ _).trans hl.len, fun p hp => by rw [List.mem_singleton.1 hp]; exact getX_put_eq (by rw [hl.len]; exact hc)⟩ List.mem_cons_self) ?_
   simp only [if_true]
   refine Wp.skip (Wp.seq ((hb k x _ _ hlt hP hl2).mono ?_))
   rintro e s (⟨rfl, x', t', lo', rfl, hP', hl'⟩ | ⟨rfl, hq⟩)
   ·have e3 : evalO t' (.t i) = .int .i64 (k : Int) := hl'.ev List.mem_cons_self
    have hw : IntKind.i64.wrap ((k : Int) + 1) = ((k + 1 : Nat) : Int) := by rw [i64_succ (by omega) (by omega)]; omega
    refine Wp.reg (WpO.pure (.int .i64 (((k + 1 : Nat) : Int))) rfl rfl (by simp only [pOp, e3]; show abin .add (.int .i64 (k : Int)) (.int .i64 1) = _; simp only [abin, if_pos, aint, hw]) ?_)
    have hl3 : Lv nt (live (k + 1) x') (put t' (some d) (.int .i64 (((k + 1 : Nat) : Int)))) := (hl'.sub fun p hp => List.mem_cons_of_mem _ hp).put fun p hp => (hfr _ _ p hp).2.2
    refine WpO.pure (.int .i64 (((k + 1 : Nat) : Int))) rfl rfl (by
     have : evalO (put t' (some d) (.int .i64 (((k + 1 : Nat) : Int)))) (.t d) = .int .i64 (((k + 1 : Nat) : Int)) := Lv.ev (nt := nt) (live := [(d, .int .i64 (((k + 1 : Nat) : Int)))]) ⟨(put_len _ _ _).trans hl'.len, fun p hp => by rw [List.mem_singleton.1 hp]; exact getX_put_eq (by rw [hl'.len]; exact hd)⟩ List.mem_cons_self
     simp only [pOp]
     rw [this]) (WpO.nil ?_)
    exact ⟨N - (k + 1), by omega, k + 1, x', _, lo', rfl, by omega, rfl, hP', hl3.put' hi fun p hp => (hfr _ _ p hp).1⟩
   ·exact .inr ⟨rfl, hq⟩
  ·have : k = N := by omega
   subst this
   refine Wp.cond false (by rw [decide_eq_false (by omega : ¬ (k : Int) < (k : Int))]; exact Lv.ev (nt := nt) (live := [(c, .bool false)]) ⟨(put_len _ _ _).trans hl.len, fun p hp => by rw [List.mem_singleton.1 hp]; exact getX_put_eq (by rw [hl.len]; exact hc)⟩ List.mem_cons_self) ?_
   simp only [Bool.false_eq_true, if_false]
   exact Wp.exit (.inl ⟨rfl, x, _, _, rfl, hP, hl2.sub fun p hp => List.mem_cons_of_mem _ hp⟩)
 ·rintro e s (⟨rfl, h⟩ | ⟨rfl, h⟩)
  ·exact .inl ⟨if_pos rfl, h⟩
  ·exact .inr ⟨rfl, h⟩
theorem clE {f : FuncId} {af : AFunc} {args : List AV} {h : List Blk} (hg : Γ f = none) (ht : tbl f = some af) (hle : Nat.ble args.length af.nt = true) (Q : AV → List Blk → Prop)
  (hw : Wp Γ tbl af.body { t := args ++ List.replicate (af.nt - args.length) (.tup []), h := h } fun e s => e = .ret ∧ ∃ vs, resAll s af.res = some vs ∧ Q (packRes vs) s.h) : ∃ r h' lo, Q r h' ∧ Cl Γ tbl f args h (r, h', lo) :=
 clB hg ht hle Q (hw.mono fun e s h => ⟨(fun i hi => by rw [h.1] at hi; cases hi), h.2⟩)
end
theorem Lv.start {nt : Nat} {args : List AV} {live : List (Nat × AV)} (hle : Nat.ble args.length nt = true) (hm : ∀ p ∈ live, p.1 < args.length ∧ args[p.1]? = some p.2) : Lv nt live (args ++ List.replicate (nt - args.length) (.tup [])) := by
 have := Nat.le_of_ble_eq_true hle
 refine ⟨by simp; omega, fun p hp => ?_⟩
 rw [getX_eq, List.getElem?_append_left (hm p hp).1, (hm p hp).2]
 rfl
open Go
def svId : AV → Option Nat
 | .sl id _ _ _ _ _ => some id
 | _ => none
def Gro (st : Nat) (es : List (List AV)) (H : List Blk) (sv : AV) : Prop := (es = [] ∧ sv = .nils) ∨ ∃ id, sv = bSl st es id false ∧ Built st es H id false
theorem Gro.nil (st : Nat) (H : List Blk) : Gro st [] H .nils := .inl ⟨rfl, rfl⟩
theorem Gro.grow {st es H H' sv} (h : Gro st es H sv) (hk : ∀ i, svId sv = some i → ∀ x, H[i]? = some x → H'[i]? = some x) : Gro st es H' sv := by
 rcases h with h | ⟨id, rfl, hb⟩
 ·exact .inl h
 ·exact .inr ⟨id, rfl, hb.grow (by rw [hb.blk]; exact hk id rfl _ hb.blk)⟩
theorem Gro.lt {st es H sv i} (h : Gro st es H sv) (hi : svId sv = some i) : i < H.length := by
 rcases h with ⟨rfl, rfl⟩ | ⟨id, rfl, hb⟩
 ·cases hi
 ·cases hi; exact hb.lt
theorem Gro.app {st by_ : Nat} {es : List (List AV)} {H : List Blk} {sv : AV} {e : List AV} {jd : Nat} (h : Gro st es H sv) (he : e.length = st) (h1 : e.all AV.one = true) (hj : H[jd]? = some (.cells e)) (hl : (es.length + 1) * by_ ≤ 140737488355328) :
  ∃ sv' H' lo, wOp evC H (.append st by_ (.c sv) (.c (.sl jd st 0 1 1 true))) = some (sv', H', lo) ∧ Gro st (es ++ [e]) H' sv' ∧ sv' = .sl H.length st 0 (es.length + 1) (es.length + 1) false ∧ H'.length = H.length + 1 ∧ ∀ (i : Nat) (x : Blk), svId sv ≠ some i → H[i]? = some x → H'[i]? = some x := by
 rcases h with ⟨rfl, rfl⟩ | ⟨id, rfl, hb⟩
 ·have hx : elems H st (.sl jd st 0 1 1 true) = some e := by
   simp only [elems, if_pos, Nat.one_ne_zero, if_false, rdCells, hj, Nat.one_mul, Nat.zero_add, List.drop_zero]
   rw [if_pos (by omega), List.take_of_length_le (by omega)]
  refine ⟨.sl H.length st 0 1 1 false, H ++ [.cells e], none, ?_, .inr ⟨H.length, rfl, ⟨by simp, (fun h => by cases h), (fun _ => by simp), fun x hx => ?_, fun x hx => ?_⟩⟩, rfl, by simp, fun i x _ hi => ga hi⟩
  ·simp only [wOp, lenOf, hx, Nat.one_ne_zero, if_false]
   rw [if_pos (by simp at hl; simp [hl, h1])]
  ·rw [List.mem_singleton.1 hx]; exact he
  ·rw [List.mem_singleton.1 hx]; exact h1
 ·refine ⟨_, _, _, app_one hb he h1 hj hl, .inr ⟨H.length, by simp [bSl], hb.app he h1⟩, rfl, appH_len _ _ _ _, fun i x hi hx => ?_⟩
  rw [appH_get (glt hx) (fun e => hi (by rw [e]; rfl))]
  exact hx
theorem Gro.one {st es H sv} (h : Gro st es H sv) : sv.one = true := by
 rcases h with ⟨rfl, rfl⟩ | ⟨id, rfl, hb⟩ <;> rfl
theorem one3 {k k' : IntKind} {a b : Int} {v : AV} (h : v.one = true) : (AV.agg [.int k a, .int k' b, v]).cells.all AV.one = true := by
 simp only [AV.cells, List.all_cons, h]
 rfl
theorem Gro.eqv {st es H sv} (h : Gro st es H sv) : eqv sv sv = true := by
 rcases h with ⟨rfl, rfl⟩ | ⟨id, rfl, hb⟩ <;> simp [AM.eqv]
theorem frz3 {h : List Blk} {n : Nat} {k k' : IntKind} {a b : Int} {v r : AV} (hf : AM.frz h (n + 1) v = some r) : AM.frz h (n + 2) (.agg [.int k a, .int k' b, v]) = some (.agg [.int k a, .int k' b, r]) := by
 show (mapO (AM.frz h (n + 1)) [.int k a, .int k' b, v]).map AV.agg = _
 rw [mapO, mapO, mapO, hf]
 rfl
def Cv (a b : AV) : Prop := ∀ (S : Nat → Prop) (m : Emb) (w : World) (x : Value), VRel S m w a x → VRel S m w b x
def CvL (a b : List AV) : Prop := a.length = b.length ∧ ∀ i, i < a.length → Cv (a.getD i .dead) (b.getD i .dead)
theorem Cv.refl (a : AV) : Cv a a := fun _ _ _ _ h => h
theorem CvL.refl (a : List AV) : CvL a a := ⟨rfl, fun _ _ => Cv.refl _⟩
theorem CvL.nil : CvL [] [] := CvL.refl []
theorem CvL.cons {a b l r} (h : Cv a b) (t : CvL l r) : CvL (a :: l) (b :: r) := ⟨by simp [t.1], fun i hi => by
 cases i with
 | zero => exact h
 | succ i => exact t.2 i (by simpa using hi)⟩
theorem Cv.nils {st : Nat} : Cv .nils (.ro [] st false) := fun _ _ _ _ h => by cases h; exact .ro0 fun h => by cases h
theorem Cv.nilsT {st : Nat} : Cv .nils (.ro [] st true) := fun _ _ _ _ h => by cases h; exact .ro0 fun _ => rfl
theorem Cv.agg {a b} (h : CvL a b) : Cv (.agg a) (.agg b) := fun S m w x hx => by
 cases hx with
 | agg hl hr => exact .agg (h.1.symm.trans hl) fun i hi => h.2 i (by rw [h.1]; exact hi) _ _ _ _ (hr i (by rw [h.1]; exact hi))
theorem Cv.ro {es es' : List AV} {st : Nat} {ex : Bool} (hl : es.length = es'.length) (h : ∀ i, i < es.length → CvL (es.getD i .dead).cells (es'.getD i .dead).cells) : Cv (.ro es st ex) (.ro es' st false) := fun S m w x hx => by
 cases hx with
 | ro f hS hc hlen hr hx hn =>
  have e := VRel.ro (S := S) (m := m) (w := w) (es := es') (st := st) (ex := false) f hS (fun i j hi hj => hc i j (by omega) hj) (fun i hi => by rw [← (h i (by omega)).1]; exact hlen i (by omega)) (fun i j hi hj => (h i (by omega)).2 j (by rw [hlen i (by omega)]; exact hj) _ _ _ _ (hr i j (by omega) hj)) (fun h => by cases h) (by rw [← hl]; exact hn)
  rw [← hl] at e
  exact e
 | ro0 hx =>
  have : es' = [] := List.eq_nil_of_length_eq_zero (by simpa using hl.symm)
  subst this
  exact .ro0 fun h => by cases h
theorem Cv.ex {es : List AV} {st : Nat} {ex : Bool} : Cv (.ro es st ex) (.ro es st false) := Cv.ro rfl fun _ _ => CvL.refl _
theorem PureS.cv {P : Program} {f args r r'} (h : PureS P f args r) (hc : Cv r r') : PureS P f args r' := fun S w vals hS hL => Calls.mono (h S w vals hS hL) fun e w' he => by
 obtain ⟨v, S', h1, h2, h3⟩ := he
 exact ⟨v, S', h1, hc _ _ _ _ h2, h3⟩
theorem pureS_clf {P : Program} {Γ : FuncId → Option GF} {tbl : FuncId → Option AFunc} (K : Known Γ tbl P) {f args r h' lo k r'} (hc : Cl Γ tbl f args [] (r, h', lo)) (hb : Γ f = none) (hf : frz h' k r = some r') : PureS P f args r' := by
 obtain ⟨n, hc⟩ := hc
 exact pureS_frz K hc hb hf
theorem Gro.frz {st n : Nat} {es : List (List AV)} {H : List Blk} {sv : AV} (h : Gro st es H sv) (h0 : 0 < st) (hs : ∀ e ∈ es, mapO (AM.frz H n) e = some e) : ∃ r, AM.frz H (n + 1) sv = some r ∧ Cv r (.ro (es.map (elt st)) st false) := by
 rcases h with ⟨rfl, rfl⟩ | ⟨id, rfl, hb⟩
 ·exact ⟨.nils, rfl, Cv.nils⟩
 ·obtain ⟨ex', he⟩ := hb.frz (n := n) (es' := es) h0 rfl (fun i e e' h1 h2 => by rw [h1] at h2; cases h2; exact hs e (List.mem_of_getElem? h1)) hb.len hb.one
  exact ⟨_, he, Cv.ex⟩
open Go
open Go.ChangeMaps (setBlock)
section
variable {P : Program} {call : CallF}
def DC (P : Program) (code : Code) (s : St) (Q : AExit → St → Prop) : Prop :=
 ∀ (S : Nat → Prop) (m : Emb) (w : World) (a : Act), Rep S m s.h w → TRel S m w s.t a.tmps → code.wp P (fun ex a' w' => ∃ e s', Q e s' ∧ Post S m s.h w a e s' ex a' w') a w
theorem DC.mono {code : Code} {s : St} {Q R : AExit → St → Prop} (h : DC P code s Q) (hqr : ∀ e s', Q e s' → R e s') : DC P code s R :=
 fun S m w a r ht => wp_mono (h S m w a r ht) fun ex a' w' hp => by
  obtain ⟨e, s', h1, h2⟩ := hp
  exact ⟨e, s', hqr e s' h1, h2⟩
theorem DC.am (hm : P.follows .mixedOrders = true) (hC : CallOK P call) {n : Nat} {c : ACode} {s : St} {e : AExit} {s' : St} {code : Code} (hc : compC P code = some c) (he : exec call n c s = some (e, s')) {Q : AExit → St → Prop} (hq : Q e s') : DC P code s Q :=
 fun S m w a r ht => wp_mono (exec_sound hm hC n c s e s' code hc he S m w a r ht) fun ex a' w' hp => ⟨e, s', hq, hp⟩
theorem DC.seq {x y : Code} {s : St} {Q R : AExit → St → Prop} (hx : DC P x s Q) (hn : ∀ s', Q .normal s' → DC P y s' R) (he : ∀ e s', e ≠ .normal → Q e s' → R e s') : DC P (.seq x y) s R := by
 intro S m w a r ht
 refine wp_seq (wp_mono (hx S m w a r ht) fun ex a' w' hp => ?_)
 obtain ⟨e, s', h1, h2⟩ := hp
 obtain ⟨g1, S', m', g2, g3, g4, g5⟩ := h2
 cases ex with
 | normal =>
  cases e <;> simp only [exRel] at g1
  refine wp_mono (hn s' h1 S' m' w' a' g2 g3) fun ex2 a2 w2 hp2 => ?_
  obtain ⟨e2, s2, k1, k2⟩ := hp2
  exact ⟨e2, s2, k1, Post.trans g4 g5 k2⟩
 | exit i =>
  cases e <;> simp only [exRel] at g1
  exact ⟨_, s', he _ s' (by simp) h1, ⟨g1, S', m', g2, g3, g4, g5⟩⟩
 | ret =>
  cases e <;> simp only [exRel] at g1
  exact ⟨_, s', he _ s' (by simp) h1, ⟨trivial, S', m', g2, g3, g4, g5⟩⟩
 | goto l => cases e <;> simp only [exRel] at g1
 | panic c => cases e <;> simp only [exRel] at g1
 | outgrown => cases e <;> simp only [exRel] at g1
theorem runOps_part (hC : CallOK P call) {ops : Array Oper} {Q : Exit → Act → World → Prop} (rest : List Nat) : ∀ (os : List Oper) (i : Nat) (l : List AOper) (s s' : St) (S : Nat → Prop) (m : Emb) (w : World) (a : Act), (∀ j, j < os.length → ops[i + j]? = os[j]?) → compL (compOper P ops) os = some l → runOps call l s = some s' →
  Rep S m s.h w → TRel S m w s.t a.tmps → (∀ S' m' w' a', Rep S' m' s'.h w' → TRel S' m' w' s'.t a'.tmps → Stp S m s.h w S' m' s'.h w' → a'.defers = a.defers → wpOps P ops Q rest a' w') → wpOps P ops Q (List.range' i os.length ++ rest) a w
 | [], i, l, s, s', S, m, w, a, ho, hl, hr, r, ht, hQ => by
  cases hl
  cases hr
  exact hQ S m w a r ht (Stp.refl ..) rfl
 | o :: os, i, l, s, s', S, m, w, a, ho, hl, hr, r, ht, hQ => by
  obtain ⟨ao, l', rfl, h1, h2⟩ := compL_cons hl
  have hoi : ops[i]? = some o := by simpa using ho 0 (by simp)
  have hos : ∀ j, j < os.length → ops[i + 1 + j]? = os[j]? := fun j hj => by
   have := ho (j + 1) (by simp; omega)
   rw [show i + 1 + j = i + (j + 1) by omega, this]
   rfl
  rw [List.length_cons, List.range'_succ, List.cons_append]
  rw [runOps] at hr
  have go : ∀ (x : Value) (v : AV) (S' : Nat → Prop) (m' : Emb) (w' : World) (h' : List Blk) (lo : Option Nat), runOps call l' { t := put s.t ao.d v, h := h', lo := lo } = some s' → ao.d = o.dst → VRel S' m' w' v x → Rep S' m' h' w' → Stp S m s.h w S' m' h' w' →
    wpOps P ops Q (List.range' (i + 1) os.length ++ rest) (a.put o.dst x) w' := by
   intro x v S' m' w' h' lo g1 g2 g3 g4 g5
   refine runOps_part hC rest os (i + 1) l' _ s' S' m' w' (a.put o.dst x) hos h2 g1 g4 ?_ ?_
   ·rw [g2]; exact TRel.put (ht.keep (g5.kp r)) _ g3
   ·intro S2 m2 w2 a2 k1 k2 k3 k4
    exact hQ S2 m2 w2 a2 k1 k2 (g5.trans k3) (k4.trans (by cases o.dst <;> rfl))
  simp only [wpOps, hoi]
  split at hr <;> first | (cases hr; done) | skip
  ·rename_i hw
   obtain ⟨k1, k2, k3⟩ := wanted_sound (P := P) ht h1 hw
   rw [if_neg (by rw [k1]; decide)]
   exact go undef (.tup []) S m w s.h s.lo hr k3 (LRel.tup LRel.nil) r (Stp.refl ..)
  ·rename_i hw
   obtain ⟨k1, k2, k3⟩ := wanted_sound (P := P) ht h1 hw
   rw [if_pos k1]
   refine .inl ?_
   split at hr
   ·split at hr <;> first | (cases hr; done) | skip
    rename_i v h' lo hv
    exact lOp_sound hC (fun x y hx => compO_sound ht hx) r (k2 (lOp_ne_bad hv)) hv _ _ fun x S' m' w' g1 g2 g3 => go x v S' m' w' h' _ hr k3 g1 g2 g3
   ·split at hr <;> first | (cases hr; done) | skip
    rename_i v hv
    exact pOp_wp (fun x y hx => compO_sound ht hx) r (k2 (pOp_ne_bad hv)) hv _ _ fun x g1 => go x v S m w s.h s.lo hr k3 g1 r (Stp.refl ..)
theorem tmps_put_eq {a : Act} {d : Nat} {x : Value} (hlt : d < a.tmps.size) : (a.put (some d) x).tmps.getD d undef = x := by
 show (a.tmps.setIfInBounds d x).getD d undef = _
 rw [Array.getD_eq_getD_getElem?, Array.getElem?_setIfInBounds, if_pos rfl, if_pos hlt]
 rfl
theorem tmps_size {S m w t} {tmps : Array Value} (h : TRel S m w t tmps) : tmps.size = t.length := by
 have := h.1
 simpa using this.symm
theorem wpOps_val {ops : Array Oper} {Q : Exit → Act → World → Prop} {i : Nat} {rest : List Nat} {a : Act} {w w' : World} {o : Oper} {x : Value} (ho : ops[i]? = some o) (hg : o.guard = none) (hx : (execOp a.eval o).run P w = .ok (.value x) w') (hn : wpOps P ops Q rest (a.put o.dst x) w') : wpOps P ops Q (i :: rest) a w := by
 simp only [wpOps, ho]
 rw [if_pos (by simp [Region.wanted, hg])]
 refine .inl ?_
 unfold Oper.wp
 rw [hx]
 exact hn
end
open Go
theorem DC.wp {P : Program} {Γ : FuncId → Option GF} {tbl : FuncId → Option AFunc} (K : Known Γ tbl P) {c : ACode} {code : Code} {s : St} {Q : AExit → St → Prop} (hc : compC P code = some c) (hw : Wp Γ tbl c s Q) : DC P code s Q := by
 obtain ⟨n, e, s', h1, h2⟩ := hw
 exact DC.am K.mixed (callF_sound Γ tbl K n) hc h1 h2
theorem DC.ams {P : Program} {f : FuncId} {fn : Func} {body : Code} {rs : List ARes} (hfn : P.funcs[f]? = some fn) (hbody : fn.body = some body) (hrs : compL (compRes P) fn.results.toList = some rs) {args : List AV} {h : List Blk} {r : AV} {h' : List Blk}
  (hd : DC P body { t := args ++ List.replicate (fn.ntmps - args.length) (.tup []), h := h } fun e s => (∀ i, e ≠ .exit i) ∧ ∃ vs, resAll s rs = some vs ∧ r = packRes vs ∧ h' = s.h) : AMS P f args h r h' := by
 intro S m w vals r0 hL
 have hvl : vals.size = args.length := by have := hL.1; simp at this; exact this.symm
 have ht : TRel S m w (args ++ List.replicate (fn.ntmps - args.length) (.tup [])) (vals ++ Array.replicate (fn.ntmps - vals.size) undef) := by
  show LRel S m w _ _
  rw [Array.toList_append, Array.toList_replicate, hvl]
  exact hL.append (LRel.replicate _ (LRel.tup LRel.nil))
 refine calls_of_wp hfn hbody (wp_mono (hd S m w { tmps := vals ++ Array.replicate (fn.ntmps - vals.size) undef, defers := [] } r0 ht) fun ex a' w' hp => ?_)
 obtain ⟨e, s, ⟨hne, vs, hres, rfl, rfl⟩, g1, S', m', g2, g3, g4, g5⟩ := hp
 obtain ⟨xs, h7, h8⟩ := resAll_sound g2 g3 fn.results.toList rs vs hrs hres
 have hrun : (results fn a'.tmps).run P w' = .ok (if h : xs.toArray.size = 1 then xs.toArray[0] else .tuple xs.toArray) w' := by
  unfold results
  rw [Array.mapM_eq_mapM_toList]
  simp only [Sem.run_bind, Sem.run_map]
  exact (congrArg (fun q : Result (List Value) => (q.andThen fun a w' => Result.ok a.toArray w').andThen fun a w' => Sem.run P (pure (if h : a.size = 1 then a[0] else .tuple a)) w') h7).trans rfl
 have fin : a'.defers = [] ∧ ∃ v, (results fn a'.tmps).run P w' = .ok v w' ∧ ∃ v_1 S'_1 m'_1, Ending.returned v = .returned v_1 ∧ VRel S'_1 m'_1 w' (packRes vs) v_1 ∧ Rep S'_1 m'_1 s.h w' ∧ Stp S m h w S'_1 m'_1 s.h w' :=
  ⟨g5, _, hrun, _, S', m', rfl, pack_sound h8, g2, g4⟩
 cases ex with
 | normal => exact fin
 | ret => exact fin
 | exit i => cases e <;> simp only [exRel] at g1; exact absurd rfl (hne _)
 | goto l => cases e <;> simp only [exRel] at g1
 | panic c => cases e <;> simp only [exRel] at g1
 | outgrown => cases e <;> simp only [exRel] at g1
open Classical in
noncomputable def anyG (P : Program) (f : FuncId) (I : List AV → List Blk → AV → List Blk → Prop) : GF := fun args h =>
 if x : ∃ y : AV × List Blk, I args h y.1 y.2 ∧ AMS P f args h y.1 y.2 ∧ h.length ≤ y.2.length then some (x.choose.1, x.choose.2, some 0) else none
theorem anyG_ok {P : Program} {f : FuncId} {I : List AV → List Blk → AV → List Blk → Prop} (hb : Body P f) : GOk P f (anyG P f I) := by
 intro args h r h' lo hc
 unfold anyG at hc
 split at hc <;> cases hc
 rename_i x
 exact ⟨⟨x.choose_spec.2.2, fun i _ hl => absurd (hl 0 rfl) (by omega)⟩, .inl ⟨hb, x.choose_spec.2.1⟩⟩
theorem anyG_cl {P : Program} {Γ : FuncId → Option GF} {tbl : FuncId → Option AFunc} {f : FuncId} {I : List AV → List Blk → AV → List Blk → Prop} (hg : Γ f = some (anyG P f I)) {args : List AV} {h : List Blk} {r : AV} {h' : List Blk} (hi : I args h r h') (ha : AMS P f args h r h') (hl : h.length ≤ h'.length) :
  ∃ r h' lo, I args h r h' ∧ Cl Γ tbl f args h (r, h', lo) := by
 have x : ∃ y : AV × List Blk, I args h y.1 y.2 ∧ AMS P f args h y.1 y.2 ∧ h.length ≤ y.2.length := ⟨(r, h'), hi, ha, hl⟩
 refine ⟨x.choose.1, x.choose.2, some 0, x.choose_spec.1, Cl.known hg ?_⟩
 unfold anyG
 rw [dif_pos x]
theorem DC.det {P : Program} {Γ : FuncId → Option GF} {tbl : FuncId → Option AFunc} (K : Known Γ tbl P) {c : ACode} {code : Code} {s : St} {Q : AExit → St → Prop} (hc : compC P code = some c) (hw : Wp Γ tbl c s Q) : ∃ e s', Q e s' ∧ DC P code s fun e2 s2 => e2 = e ∧ s2 = s' := by
 obtain ⟨n, e, s', h1, h2⟩ := hw
 exact ⟨e, s', h2, DC.am K.mixed (callF_sound Γ tbl K n) hc h1 ⟨rfl, rfl⟩⟩
theorem pathO {Γ : FuncId → Option GF} {tbl : FuncId → Option AFunc} {nt live} {k : List AOper} {t : List AV} {h : List Blk} {lo : Option Nat} (ds : List Dec) (outs : List Nat) {vals : List AV} {h' : List Blk} (cs : List Prop) (hl : Lv nt live t)
  (hp : ∀ t0, (symOps Γ tbl k { t := mkT nt live t0, h := h, lo := lo } ds).map (fun x => (outs.map (getX x.1.t), x.1.h, x.2.2)) = some (vals, h', cs)) (hc : allP cs) :
  ∃ n t2 lo2, runOps (callF Γ tbl n) k { t := t, h := h, lo := lo } = some { t := t2, h := h', lo := lo2 } ∧ Lv nt (outs.zip vals) t2 := by
 have h1 := hp t
 rw [← hl.eq, Option.map_eq_some_iff] at h1
 obtain ⟨x, h2, h3⟩ := h1
 obtain ⟨x1, x2, x3⟩ := x
 cases h3
 obtain ⟨n, s', h4, rfl⟩ := symOps_sound k _ ds _ _ _ h2 hc
 exact ⟨n, s'.t, s'.lo, h4, Lv.of ((symOps_len k _ ds _ _ _ h2).trans hl.len) rfl⟩
def ghd : Code → Code
 | .seq a _ => a
 | c => c
def gtl : Code → Code
 | .seq _ b => b
 | c => c
def gid : Code → Nat
 | .region i _ _ => i
 | _ => 0
def gops : Code → List Oper
 | .region _ o _ => o.toList
 | _ => []
open Go
theorem isNilS {P : Program} {w : World} {op : BinOp} {t e : TypeId} {px py : Operand} {p} {n' c' n c : Nat} (ht : P.underlying t = some (.slice e)) (hop : op = .eql ∨ op = .neq) :
  (do eqGuard op t px py (.slice p n' c') (.slice none n c); binOp op t (.slice p n' c') (.slice none n c) : Sem Value).run P w = .ok (.bool (if op = .neq then !p.isNone else p.isNone)) w := by
 have hu : (Op.equal t (.slice p n' c') (.slice none n c)).run P w = .ok p.isNone w := by
  have : (Op.equalIn (9999 + 1) t (.slice p n' c') (.slice none n c)).run P w = .ok p.isNone w := by
   cases p <;> (rw [Op.equalIn]; simp only [Sem.run_bind, und_run ht, Result.andThen_ok, Sem.run_pure, Option.isNone_none, Option.isNone_some])
  exact this
 have gs : eqGuard op t px py (.slice p n' c') (.slice none n c) = pure () := by cases op <;> rfl
 rw [gs]
 rcases hop with rfl | rfl
 ·show (do pure (.bool (← Op.equal t _ _)) : Sem Value).run P w = _
  simp [hu]
 ·show (do pure (.bool (!(← Op.equal t _ _))) : Sem Value).run P w = _
  simp [hu]
theorem DC.nilAny {P : Program} {call : CallF} (hC : CallOK P call) {i0 tx d : Nat} {ops : Array Oper} (pre post : List Oper) {o : Oper} {op : BinOp} {t e u : TypeId} {n c : Nat} (h0 : ops.toList = pre ++ o :: post)
  (q1 : o.op = .binOp op t (.tmp tx) (.const (.slice none n c)) u) (q2 : o.dst = some d) (q3 : o.guard = none) (hop : op = .eql ∨ op = .neq) (ht : P.underlying t = some (.slice e))
  {s s1 : St} {lpre lpost : List AOper} (hpre : compL (compOper P ops) pre = some lpre) (hrun : runOps call lpre s = some s1) {st : Nat} {ex : Bool} (hval : (s1.t[tx]?).getD .dead = .ro [] st ex)
  (hpost : compL (compOper P ops) post = some lpost) (s2 : Bool → St) (hrun2 : ∀ b, runOps call lpost { t := put s1.t (some d) (.bool b), h := s1.h } = some (s2 b)) :
  DC P (.region i0 ops false) s fun e s' => e = .normal ∧ ∃ b, s' = s2 b := by
 intro S0 m0 w0 a0 r0 ht0
 have hsz0 : ops.size = pre.length + (post.length + 1) := by
  rw [← Array.length_toList, h0]
  simp
 have hrg : List.range ops.size = List.range' 0 pre.length ++ (pre.length :: (List.range' (pre.length + 1) post.length ++ [])) := by
  rw [hsz0, List.range_eq_range', List.append_nil, ← List.range'_append (s := 0) (m := pre.length) (n := post.length + 1) (step := 1)]
  simp only [Nat.zero_add, Nat.one_mul, List.range'_succ]
 have hget : ∀ j, j < pre.length → ops[0 + j]? = pre[j]? := fun j hj => by
  rw [← Array.getElem?_toList, h0, Nat.zero_add, List.getElem?_append_left hj]
 have hg1 : ops[pre.length]? = some o := by
  rw [← Array.getElem?_toList, h0, List.getElem?_append_right (Nat.le_refl _), Nat.sub_self]
  rfl
 have hg3 : ∀ j, j < post.length → ops[pre.length + 1 + j]? = post[j]? := fun j hj => by
  rw [← Array.getElem?_toList, h0, List.getElem?_append_right (by omega), show pre.length + 1 + j - pre.length = j + 1 by omega]
  rfl
 refine wp_region ?_
 rw [hrg]
 refine runOps_part hC _ pre 0 lpre s s1 S0 m0 w0 a0 hget hpre hrun r0 ht0 fun S m w a r ht1 hst hdf => ?_
 have hv := TRel.get ht1 tx
 rw [hval] at hv
 obtain ⟨p, rc, hx⟩ : ∃ p rc, a.tmps.getD tx undef = .slice p 0 rc := by
  generalize a.tmps.getD tx undef = x at hv
  generalize hes : ([] : List AV) = es at hv
  cases hv with
  | ro => subst hes; exact ⟨_, _, rfl⟩
  | ro0 => exact ⟨_, _, rfl⟩
 have hexe : (execOp a.eval o).run P w = .ok (.value (.bool (if op = .neq then !p.isNone else p.isNone))) w := by
  have e1 : a.eval (.tmp tx) = .slice p 0 rc := hx
  have := isNilS (P := P) (w := w) (op := op) (t := t) (px := .tmp tx) (py := .const (.slice none n c)) (p := p) (n' := 0) (c' := rc) (n := n) (c := c) ht hop
  rw [← e1] at this
  have e2 : execOp a.eval o = (do pure (.value (← (do eqGuard op t (.tmp tx) (.const (.slice none n c)) (a.eval (.tmp tx)) (a.eval (.const (.slice none n c))); binOp op t (a.eval (.tmp tx)) (a.eval (.const (.slice none n c))) : Sem Value)))) := by simp only [execOp, q1]
  rw [e2]
  have e3 : a.eval (.const (.slice none n c)) = .slice none n c := rfl
  rw [e3]
  generalize (do eqGuard op t (.tmp tx) (.const (.slice none n c)) (a.eval (.tmp tx)) (.slice none n c); binOp op t (a.eval (.tmp tx)) (.slice none n c) : Sem Value) = sm at this ⊢
  simp [this]
 refine wpOps_val hg1 q3 hexe ?_
 rw [q2]
 have ht2 : TRel S m w (put s1.t (some d) (.bool (if op = .neq then !p.isNone else p.isNone))) (a.put (some d) (.bool (if op = .neq then !p.isNone else p.isNone))).tmps := TRel.put ht1 _ .bool
 refine runOps_part hC [] post (pre.length + 1) lpost _ (s2 (if op = .neq then !p.isNone else p.isNone)) _ m w _ hg3 hpost (hrun2 _) r ht2 fun S' m' w' a' r' ht' hst' hdf' => ?_
 refine ⟨.normal, s2 (if op = .neq then !p.isNone else p.isNone), ⟨rfl, _, rfl⟩, ?_⟩
 exact ⟨by simp [exRel], S', m', r', ht', hst.trans hst', hdf'.trans hdf⟩
theorem DC.pureS {P : Program} {f : FuncId} {fn : Func} {body : Code} {rs : List ARes} (hfn : P.funcs[f]? = some fn) (hbody : fn.body = some body) (hrs : compL (compRes P) fn.results.toList = some rs) {args : List AV} {k : Nat} {r' : AV}
  (hd : DC P body { t := args ++ List.replicate (fn.ntmps - args.length) (.tup []), h := [] } fun e s => (∀ i, e ≠ .exit i) ∧ ∃ vs r1, resAll s rs = some vs ∧ frz s.h k (packRes vs) = some r1 ∧ Cv r1 r') : PureS P f args r' := by
 intro S w vals hS hL
 have r0 : Rep S (fun _ => none) [] w := ⟨hS, fun _ _ => rfl, fun id bl hb => by simp at hb, fun i j b hi => by obtain ⟨_, bl, hb, _⟩ := hi; simp at hb⟩
 have hvl : vals.size = args.length := by have := hL.1; simp at this; exact this.symm
 have ht : TRel S (fun _ => none) w (args ++ List.replicate (fn.ntmps - args.length) (.tup [])) (vals ++ Array.replicate (fn.ntmps - vals.size) undef) := by
  show LRel S _ w _ _
  rw [Array.toList_append, Array.toList_replicate, hvl]
  exact hL.append (LRel.replicate _ (LRel.tup LRel.nil))
 refine calls_of_wp hfn hbody (wp_mono (hd S _ w { tmps := vals ++ Array.replicate (fn.ntmps - vals.size) undef, defers := [] } r0 ht) fun ex a' w' hp => ?_)
 obtain ⟨e, s, ⟨hne, vs, r1, hres, hf, hcv⟩, g1, S', m', g2, g3, g4, g5⟩ := hp
 obtain ⟨xs, h7, h8⟩ := resAll_sound g2 g3 fn.results.toList rs vs hrs hres
 have hrun : (results fn a'.tmps).run P w' = .ok (if h : xs.toArray.size = 1 then xs.toArray[0] else .tuple xs.toArray) w' := by
  unfold results
  rw [Array.mapM_eq_mapM_toList]
  simp only [Sem.run_bind, Sem.run_map]
  exact (congrArg (fun q : Result (List Value) => (q.andThen fun a w' => Result.ok a.toArray w').andThen fun a w' => Sem.run P (pure (if h : a.size = 1 then a[0] else .tuple a)) w') h7).trans rfl
 have hfz := frz_sound g2 k (packRes vs) r1 _ hf (pack_sound h8)
 have fin : a'.defers = [] ∧ ∃ v, (results fn a'.tmps).run P w' = .ok v w' ∧ ∃ v_1 S'_1, Ending.returned v = .returned v_1 ∧ VRel S'_1 (fun _ => none) w' r' v_1 ∧ (∀ b, S b → S'_1 b) ∧ (∀ b, S'_1 b → S b ∨ w.heap.size ≤ b) ∧ (∀ b, S'_1 b → b < w'.heap.size) ∧ RowKit.Below w.heap.size w w' := by
  refine ⟨g5, _, hrun, _, Frz S' m' s.h, rfl, hcv _ _ _ _ hfz, fun b hb => .inl (g4.ts b hb), ?_, ?_, g4.below⟩
  ·rintro b (hb | ⟨id, ho⟩)
   ·exact g4.sn0 b hb
   ·rcases Nat.lt_or_ge b w.heap.size with hlt | hge
    ·obtain ⟨id', ho'⟩ := g4.own id b ho hlt
     obtain ⟨_, bl, hb', _⟩ := ho'
     simp at hb'
    ·exact .inr hge
  ·rintro b (hb | ⟨id, ho⟩)
   ·exact g2.sb b hb
   ·exact owns_lt g2 ho
 cases ex with
 | normal => exact fin
 | ret => exact fin
 | exit i => cases e <;> simp only [exRel] at g1; exact absurd rfl (hne _)
 | goto l => cases e <;> simp only [exRel] at g1
 | panic c => cases e <;> simp only [exRel] at g1
 | outgrown => cases e <;> simp only [exRel] at g1
inductive CvB : Blk → Blk → Prop
 | refl (b : Blk) : CvB b b
 | cells {a b : List AV} (h : CvL a b) : CvB (.cells a) (.cells b)
def CvH (h h' : List Blk) : Prop := h.length = h'.length ∧ ∀ (i : Nat) (b' : Blk), h'[i]? = some b' → ∃ b, h[i]? = some b ∧ CvB b b'
theorem CvH.live {h h' : List Blk} (hc : CvH h h') {i : Nat} (hl : live h' i) : live h i := by
 obtain ⟨b', h1, h2⟩ := hl
 obtain ⟨b, h3, h4⟩ := hc.2 i b' h1
 refine ⟨b, h3, ?_⟩
 cases h4 with
 | refl => exact h2
 | cells => intro h; cases h
theorem LRel.cvl {S m w a b xs} (h : LRel S m w a xs) (hc : CvL a b) : LRel S m w b xs := ⟨hc.1.symm.trans h.1, fun i hi => hc.2 i (by rw [hc.1]; exact hi) _ _ _ _ (h.2 i (by rw [hc.1]; exact hi))⟩
theorem Rep.cvH {S m w} {h h' : List Blk} (r : Rep S m h w) (hc : CvH h h') : Rep S m h' w := by
 refine ⟨r.sb, fun id hid => r.dom id (by rw [hc.1]; exact hid), fun id bl hb => ?_, fun i j b h1 h2 => r.inj i j b ⟨h1.1, hc.live h1.2⟩ ⟨h2.1, hc.live h2.2⟩⟩
 obtain ⟨b, h1, h2⟩ := hc.2 id bl hb
 have := r.blk id b h1
 cases h2 with
 | refl => exact this
 | cells hl =>
  obtain ⟨bb, d, t, fz, c, g1, g2, g3, g4, g5, g6⟩ := this
  rw [hl.1] at g3 g5
  exact ⟨bb, d, t, fz, c, g1, g2, g3, g4, g5.cvl hl, g6⟩
theorem AMS.cv {P : Program} {f : FuncId} {args : List AV} {h h' h2 : List Blk} {r r2 : AV} (hs : AMS P f args h r h') (hc : CvH h' h2) (hv : Cv r r2) : AMS P f args h r2 h2 := by
 intro S m w vals r0 hL
 refine Calls.mono (hs S m w vals r0 hL) fun e w' he => ?_
 obtain ⟨v, S', m', h1, h2', h3, h4⟩ := he
 refine ⟨v, S', m', h1, hv _ _ _ _ h2', h3.cvH hc, ⟨h4.ts, h4.tm, h4.os, h4.tape, h4.output, h4.size, ?_, h4.fr, fun id b ho hb => h4.own id b ⟨ho.1, hc.live ho.2⟩ hb, h4.sn⟩⟩
 rw [← hc.1]; exact h4.len
open Go
inductive Ev where
 | f (o : AOp) (v : AV)
 | g (o : AOp) (v : AV)
 | q (o : AOp) (x : Bool)
 | fh (h : List Blk) (o : AOp) (v : AV)
 | gh (h : List Blk) (o : AOp) (v : AV)
 | qh (h : List Blk) (o : AOp) (x : Bool)
 | b (c x : Bool)
 | e (l : List AV) (i : Nat) (v : AV)
 | w (o : AOp) (v : AV) (h : List Blk) (lo : Option Nat)
 | r (f : Nat) (a : List AV) (v : AV) (h : List Blk) (lo : Option Nat)
 | l (o : AOp) (v : AV)
 | p (p : Prop)
def evD : List Ev → List Dec
 | [] => []
 | .f _ v :: r | .fh _ _ v :: r => .f v :: evD r
 | .g _ v :: r | .gh _ _ v :: r => .g v :: evD r
 | .q _ x :: r | .qh _ _ x :: r | .b _ x :: r => .b x :: evD r
 | .e _ _ v :: r => .v v :: evD r
 | .w _ v h lo :: r => .w v h lo :: evD r
 | .r _ _ v h lo :: r => .r v h lo :: evD r
 | .l _ _ :: r | .p _ :: r => evD r
section
variable (Γ : FuncId → Option GF) (tbl : FuncId → Option AFunc)
def evP : List Blk → List Ev → List Prop
 | _, [] => []
 | h, .f o v :: r | h, .g o v :: r | h, .l o v :: r => (pOp evC h o = some v) :: evP h r
 | h, .q o x :: r => (pOp evC h o = some (.bool x)) :: evP h r
 | h, .fh h1 o v :: r | h, .gh h1 o v :: r => (pOp evC h1 o = some v) :: evP h r
 | h, .qh h1 o x :: r => (pOp evC h1 o = some (.bool x)) :: evP h r
 | h, .b c x :: r => cB c x :: evP h r
 | h, .e l i v :: r => (l[i]? = some v) :: evP h r
 | h, .w o v h1 lo :: r => (wOp evC h o = some (v, h1, lo)) :: evP h1 r
 | h, .r f a v h1 lo :: r => Cl Γ tbl f a h (v, h1, lo) :: evP h1 r
 | h, .p p :: r => p :: evP h r
end
section
variable {Γ : FuncId → Option GF} {tbl : FuncId → Option AFunc}
theorem pathE {nt live} {k : ACode} {t : List AV} {h : List Blk} {lo : Option Nat} (evs : List Ev) (outs : List Nat) {e : AExit} {vals : List AV} {h' : List Blk} (hl : Lv nt live t)
  (hp : ∀ t0, (symC Γ tbl k { t := mkT nt live t0, h := h, lo := lo } (evD evs)).map (fun x => (x.1, outs.map (getX x.2.1.t), x.2.1.h, x.2.2.2)) = some (e, vals, h', evP Γ tbl h evs)) (hc : allP (evP Γ tbl h evs)) :
  Wp Γ tbl k { t := t, h := h, lo := lo } fun e2 s2 => e2 = e ∧ ∃ t2 lo2, s2 = { t := t2, h := h', lo := lo2 } ∧ Lv nt (outs.zip vals) t2 := path4 (evD evs) outs _ hl hp hc
theorem clV (k : Nat) {f : FuncId} {af : AFunc} {args : List AV} {h : List Blk} (evs : List Ev) (cv : List AV) {r : AV} {h' : List Blk} (hg : Γ f = none) (hc : allP (evP Γ tbl h evs)) (ht : tbl f = some af := by kernel_rfl) (hle : Nat.ble args.length af.nt = true := by kernel_rfl)
  (hp : (symC Γ tbl (unr k af.body) { t := args ++ List.replicate (af.nt - args.length) (.tup []), h := h } (evD evs)).bind (fun x => match x.1 with
   | .exit _ => none
   | _ => (resK x.2.1.t x.2.1.h af.res cv).map fun y => (packRes y.1, x.2.1.h, x.2.2.2 ++ y.2)) = some (r, h', evP Γ tbl h evs) := by kernel_rfl) : ∃ lo, Cl Γ tbl f args h (r, h', lo) := clC k (evD evs) cv _ hg ht hle hp hc
end
theorem ldV {H : List Blk} {id off : Nat} {cs : List AV} {n : Option Nat} {v : AV} (hb : H[id]? = some (.cells cs)) (hv : (bif Nat.ble (off + cellsN n) cs.length then asVar n ((cs.drop off).take (cellsN n)) else none) = some v := by kernel_rfl) : pOp evC H (.load n (.c (.ptr id off))) = some v := ldC hb hv
theorem stK {H : List Blk} {id off n : Nat} {cs : List AV} {v : AV} (hb : H[id]? = some (.cells cs)) (h1 : v.cells.length = n := by kernel_rfl) (h2 : Nat.ble (off + n) cs.length = true := by kernel_rfl) (h3 : v.cells.all AV.one = true := by kernel_rfl) : wOp evC H (.store n (.c (.ptr id off)) (.c v)) = some (.tup [], H.set id (.cells (splice cs off v.cells)), some id) := stC hb h1 h2 h3
theorem stZ {H : List Blk} {n : Nat} {z : List AV} {v : AV} (h1 : v.cells.length = n := by kernel_rfl) (h2 : z.length = n := by kernel_rfl) (h3 : v.cells.all AV.one = true := by kernel_rfl) : wOp evC (H ++ [.cells z]) (.store n (.c (.ptr H.length 0)) (.c v)) = some (.tup [], H ++ [.cells v.cells], some H.length) := stLast h1 h2 h3
theorem stays2 {d : Option Nat} {o : AOp} {g : Option (Nat × Bool)} {k e : Nat} {v : AV} {Hs : List (List Blk)} (hv : eqv v v = true) (h : opAll o v ((Hs.drop k).take (e + 1 - k))) : stays evC ⟨d, o, g, k, e⟩ v Hs = true := stays_op rfl hv h
open Go
section
variable {Γ : FuncId → Option GF} {tbl : FuncId → Option AFunc}
abbrev forC (B i a b : Nat) (cond body : ACode) : ACode := .block B (.loop (.seq cond (.seq body (.reg [⟨some a, .mv (.t i), none, 0, 0⟩, ⟨some b, .bin .add (.t a) (.c (.int .i64 1)), none, 0, 0⟩, ⟨some i, .mv (.t b), none, 0, 0⟩]))))
theorem forL {nt B i a b : Nat} {cond body : ACode} {X : Type} {N : Nat} (live : Nat → X → List (Nat × AV)) (hp : Nat → X → List Blk) (P : Nat → X → Prop) (QR : St → Prop)
  (hN : N < 9223372036854775807) (hi : i < nt) (ha : a < nt) (hb : b < nt) (hai : a ≠ i) (hbi : b ≠ i)
  (hfr0 : ∀ k x, ((live k x).all fun p => !(Nat.beq p.1 i || (Nat.beq p.1 a || Nat.beq p.1 b))) = true)
  (hc : ∀ k x t lo, k < N → P k x → Lv nt ((i, .int .i64 (k : Int)) :: live k x) t → Wp Γ tbl cond { t := t, h := hp k x, lo := lo } fun e s => e = .normal ∧ ∃ t' lo', s = { t := t', h := hp k x, lo := lo' } ∧ Lv nt ((i, .int .i64 (k : Int)) :: live k x) t')
  (he : ∀ x t lo, P N x → Lv nt ((i, .int .i64 (N : Int)) :: live N x) t → Wp Γ tbl cond { t := t, h := hp N x, lo := lo } fun e s => e = .exit B ∧ ∃ t' lo', s = { t := t', h := hp N x, lo := lo' } ∧ Lv nt (live N x) t')
  (hbd : ∀ k x t lo, k < N → P k x → Lv nt ((i, .int .i64 (k : Int)) :: live k x) t → Wp Γ tbl body { t := t, h := hp k x, lo := lo } fun e s =>
   (e = .normal ∧ ∃ x' t' lo', s = { t := t', h := hp (k + 1) x', lo := lo' } ∧ P (k + 1) x' ∧ Lv nt ((i, .int .i64 (k : Int)) :: live (k + 1) x') t') ∨ (e = .ret ∧ QR s))
  {x0 : X} {t : List AV} {lo : Option Nat} (h0 : P 0 x0) (hl : Lv nt ((i, .int .i64 0) :: live 0 x0) t) :
  Wp Γ tbl (forC B i a b cond body) { t := t, h := hp 0 x0, lo := lo } fun e s =>
   (e = .normal ∧ ∃ x t' lo', s = { t := t', h := hp N x, lo := lo' } ∧ P N x ∧ Lv nt (live N x) t') ∨ (e = .ret ∧ QR s) := by
 have hfr : ∀ k x, ∀ p ∈ live k x, p.1 ≠ i ∧ p.1 ≠ a ∧ p.1 ≠ b := fun k x p hp => by
  have := List.all_eq_true.1 (hfr0 k x) p hp
  simp only [Bool.not_eq_true', Bool.or_eq_false_iff] at this
  have key : ∀ {a b : Nat}, Nat.beq a b = false → a ≠ b := fun {a b} hb h => by subst h; rw [Nat.beq_refl] at hb; cases hb
  exact ⟨key this.1, key this.2.1, key this.2.2⟩
 refine Wp.block ?_
 refine (Wp.loop (Q := fun e s => (e = .exit B ∧ ∃ x t' lo', s = { t := t', h := hp N x, lo := lo' } ∧ P N x ∧ Lv nt (live N x) t') ∨ (e = .ret ∧ QR s)) (fun q s => ∃ k x t lo, q = N - k ∧ k ≤ N ∧ s = { t := t, h := hp k x, lo := lo } ∧ P k x ∧ Lv nt ((i, .int .i64 (k : Int)) :: live k x) t) ?_ N _ ⟨0, x0, t, lo, by omega, by omega, rfl, h0, hl⟩).mono ?_
 ·rintro q s ⟨k, x, t, lo, rfl, hk, rfl, hP, hl⟩
  refine Wp.seq ?_
  by_cases hlt : k < N
  ·refine (hc k x t lo hlt hP hl).mono ?_
   rintro e s ⟨rfl, t1, lo1, rfl, hl1⟩
   refine Wp.seq ((hbd k x t1 lo1 hlt hP hl1).mono ?_)
   rintro e s (⟨rfl, x', t', lo', rfl, hP', hl'⟩ | ⟨rfl, hq⟩)
   ·have e3 : evalO t' (.t i) = .int .i64 (k : Int) := hl'.ev List.mem_cons_self
    have hw : IntKind.i64.wrap ((k : Int) + 1) = ((k + 1 : Nat) : Int) := by rw [i64_succ (by omega) (by omega)]; omega
    have hla : Lv nt (live (k + 1) x') (put t' (some a) (.int .i64 (k : Int))) := (hl'.sub fun p hp => List.mem_cons_of_mem _ hp).put fun p hp => (hfr _ _ p hp).2.1
    have hea : evalO (put t' (some a) (.int .i64 (k : Int))) (.t a) = .int .i64 (k : Int) := Lv.ev (nt := nt) (live := [(a, .int .i64 (k : Int))]) ⟨(put_len _ _ _).trans hl'.len, fun p hp => by rw [List.mem_singleton.1 hp]; exact getX_put_eq (by rw [hl'.len]; exact ha)⟩ List.mem_cons_self
    refine Wp.reg (WpO.pure (.int .i64 (k : Int)) rfl rfl (by simp only [pOp, e3]) ?_)
    generalize put t' (some a) (.int .i64 (k : Int)) = t2 at hla hea
    refine WpO.pure (.int .i64 (((k + 1 : Nat) : Int))) rfl rfl (by simp only [pOp, hea]; show abin .add (.int .i64 (k : Int)) (.int .i64 1) = _; simp only [abin, if_pos, aint, hw]) ?_
    have hlb : Lv nt (live (k + 1) x') (put t2 (some b) (.int .i64 (((k + 1 : Nat) : Int)))) := hla.put fun p hp => (hfr _ _ p hp).2.2
    refine WpO.pure (.int .i64 (((k + 1 : Nat) : Int))) rfl rfl (by
     have : evalO (put t2 (some b) (.int .i64 (((k + 1 : Nat) : Int)))) (.t b) = .int .i64 (((k + 1 : Nat) : Int)) := Lv.ev (nt := nt) (live := [(b, .int .i64 (((k + 1 : Nat) : Int)))]) ⟨(put_len _ _ _).trans hla.len, fun p hp => by rw [List.mem_singleton.1 hp]; exact getX_put_eq (by rw [hla.len]; exact hb)⟩ List.mem_cons_self
     simp only [pOp]
     rw [this]) (WpO.nil ?_)
    exact ⟨N - (k + 1), by omega, k + 1, x', _, lo', rfl, by omega, rfl, hP', hlb.put' hi fun p hp => (hfr _ _ p hp).1⟩
   ·exact .inr ⟨rfl, hq⟩
  ·have : k = N := by omega
   subst this
   refine (he x t lo hP hl).mono ?_
   rintro e s ⟨rfl, t1, lo1, rfl, hl1⟩
   exact .inl ⟨rfl, x, t1, lo1, rfl, hP, hl1⟩
 ·rintro e s (⟨rfl, h⟩ | ⟨rfl, h⟩)
  ·exact .inl ⟨if_pos rfl, h⟩
  ·exact .inr ⟨rfl, h⟩
end
open Go
structure SubH (hB h : List Blk) : Prop where
 len : hB.length = h.length
 sub : ∀ (i : Nat) (bl : Blk), hB[i]? = some bl → bl ≠ Blk.gone → h[i]? = some bl
structure RestH (hB h h1 : List Blk) : Prop where
 len : h1.length = h.length
 sub : ∀ (i : Nat) (bl : Blk), h1[i]? = some bl → bl ≠ Blk.gone → h[i]? = some bl ∧ (∀ b : Blk, hB[i]? = some b → b = Blk.gone)
theorem SubH.owns {hB h : List Blk} (s : SubH hB h) {m : Emb} {id b : Nat} (ho : AM.owns hB m id b) : AM.owns h m id b := by
 obtain ⟨h1, bl, h2, h3⟩ := ho
 exact ⟨h1, bl, s.sub _ _ h2 h3, h3⟩
theorem RestH.owns {hB h h1 : List Blk} (s : RestH hB h h1) {m : Emb} {id b : Nat} (ho : AM.owns h1 m id b) : AM.owns h m id b := by
 obtain ⟨k1, bl, k2, k3⟩ := ho
 exact ⟨k1, bl, (s.sub _ _ k2 k3).1, k3⟩
theorem RestH.not {S m w} {hB h h1 : List Blk} (r : Rep S m h w) (s : SubH hB h) (t : RestH hB h h1) {i j b : Nat} (ho : AM.owns h1 m i b) (hq : AM.owns hB m j b) : False := by
 have := r.inj _ _ _ (t.owns ho) (s.owns hq)
 subst this
 obtain ⟨_, bl, h2, h3⟩ := ho
 obtain ⟨_, bl', h2', h3'⟩ := hq
 exact h3' ((t.sub _ _ h2 h3).2 _ h2')
theorem SubH.rep {S m w} {hB h : List Blk} (r : Rep S m h w) (s : SubH hB h) : Rep S m hB w := by
 refine ⟨r.sb, fun id hid => r.dom id (by rw [← s.len]; exact hid), fun id bl hb => ?_, fun i j b h1 h2 => r.inj i j b (s.owns h1) (s.owns h2)⟩
 by_cases hg : bl = .gone
 ·subst hg; trivial
 ·exact r.blk id bl (s.sub id bl hb hg)
theorem rest_rep {S m w} {hB h h1 : List Blk} (r : Rep S m h w) (s : SubH hB h) (t : RestH hB h h1) : Rep (Frz S m hB) m h1 w ∧ Stp S m h w (Frz S m hB) m h1 w := by
 have hk : Kp S m w (Frz S m hB) m w := ⟨fun b hb => .inl hb, fun _ _ => rfl, fun _ _ h => h⟩
 refine ⟨⟨?_, fun id hid => r.dom id (by rw [← t.len]; exact hid), fun id bl hb => ?_, fun i j b k1 k2 => r.inj i j b (t.owns k1) (t.owns k2)⟩, ⟨fun b hb => .inl hb, fun _ _ h => h, rfl, rfl, rfl, Nat.le_refl _, by rw [t.len]; exact Nat.le_refl _, fun _ _ _ => rfl, fun id b ho _ => ⟨id, t.owns ho⟩, ?_⟩⟩
 ·rintro b (hb | ⟨id, ho⟩)
  ·exact r.sb b hb
  ·exact owns_lt r (s.owns ho)
 ·by_cases hg : bl = .gone
  ·subst hg; trivial
  ·refine (r.blk id bl (t.sub id bl hb hg).1).keep r hk fun b hm hne => ⟨rfl, ?_⟩
   have ho : AM.owns h1 m id b := ⟨hm, bl, hb, hg⟩
   rintro (hS | ⟨j, hj⟩)
   ·exact owns_not_S r (t.owns ho) hS
   ·exact RestH.not r s t ho hj
 ·rintro b (hb | ⟨id, ho⟩)
  ·exact .inl hb
  ·exact .inr (.inr ⟨id, s.owns ho⟩)
def FrzO (hB : List Blk) (k : Nat) (v v' : AV) : Prop := v' = v ∨ frz hB k v = some v'
theorem FrzO.rel {S m w} {hB h : List Blk} {k : Nat} {v v' : AV} {x : Value} (r : Rep S m h w) (s : SubH hB h) (hf : FrzO hB k v v') (hv : VRel S m w v x) : VRel (Frz S m hB) m w v' x := by
 rcases hf with rfl | hf
 ·exact hv.keep ⟨fun b hb => .inl hb, fun _ _ => rfl, fun _ _ h => h⟩
 ·exact (frz_sound (SubH.rep r s) k v v' x hf hv).keep ⟨fun _ h => h, fun _ _ => rfl, fun _ _ h => by cases h⟩
inductive FrzL (hB : List Blk) (k : Nat) : List AV → List AV → Prop
 | nil : FrzL hB k [] []
 | cons {v v' l l'} (h : FrzO hB k v v') (t : FrzL hB k l l') : FrzL hB k (v :: l) (v' :: l')
theorem FrzL.rel {S m w} {hB h : List Blk} {k : Nat} (r : Rep S m h w) (s : SubH hB h) : ∀ {l l' : List AV} {xs : List Value}, FrzL hB k l l' → LRel S m w l xs → LRel (Frz S m hB) m w l' xs
 | [], [], xs, _, hL => by rw [hL.nil_r]; exact LRel.nil
 | v :: l, v' :: l', xs, .cons h t, hL => by
  obtain ⟨x, q, rfl, h1, h2⟩ := hL.head
  exact LRel.cons (h.rel r s h1) (FrzL.rel r s t h2)
theorem AMS.freezeA {P : Program} {f : FuncId} {k : Nat} {args args' : List AV} {h h1 h' hB : List Blk} {r : AV} (s : SubH hB h) (t : RestH hB h h1) (ha : FrzL hB k args args') (hs : AMS P f args' h1 r h') : AMS P f args h r h' := by
 intro S m w vals r0 hL
 obtain ⟨r1, st⟩ := rest_rep r0 s t
 refine Calls.mono (hs _ m w vals r1 (FrzL.rel r0 s ha hL)) fun e w' he => ?_
 obtain ⟨v, S', m', h1, h2, h3, h4⟩ := he
 exact ⟨v, S', m', h1, h2, h3, st.trans h4⟩
theorem AMS.freezeR {P : Program} {f : FuncId} {k : Nat} {args : List AV} {h h1 h' hB : List Blk} {r r' : AV} (s : SubH hB h') (t : RestH hB h' h1) (hf : frz hB k r = some r') (hs : AMS P f args h r h') : AMS P f args h r' h1 := by
 intro S m w vals r0 hL
 refine Calls.mono (hs S m w vals r0 hL) fun e w' he => ?_
 obtain ⟨v, S', m', h1, h2, h3, h4⟩ := he
 obtain ⟨r1, st⟩ := rest_rep h3 s t
 exact ⟨v, _, m', h1, FrzO.rel h3 s (.inr hf) h2, r1, h4.trans st⟩
def subB (B : List Nat) (h : List Blk) : List Blk := h.mapIdx fun i b => if B.contains i then b else .gone
def offB (B : List Nat) (h : List Blk) : List Blk := h.mapIdx fun i b => if B.contains i then .gone else b
theorem subB_get {B : List Nat} {h : List Blk} {i : Nat} {bl : Blk} (hi : h[i]? = some bl) (hB : i ∈ B) : (subB B h)[i]? = some bl := by
 simp [subB, hi, hB]
theorem offB_get {B : List Nat} {h : List Blk} {i : Nat} {bl : Blk} (hi : h[i]? = some bl) (hB : i ∉ B) : (offB B h)[i]? = some bl := by
 simp [offB, hi, hB]
theorem offB_len (B h) : (offB B h).length = h.length := by simp [offB]
theorem subB_ok (B : List Nat) (h : List Blk) : SubH (subB B h) h := ⟨by simp [subB], fun i bl hb hg => by
 simp only [subB, List.getElem?_mapIdx, Option.map_eq_some_iff] at hb
 obtain ⟨b, h1, h2⟩ := hb
 split at h2
 ·rw [h1, h2]
 ·exact absurd h2.symm hg⟩
theorem offB_ok (B : List Nat) (h : List Blk) : RestH (subB B h) h (offB B h) := ⟨by simp [offB], fun i bl hb hg => by
 simp only [offB, List.getElem?_mapIdx, Option.map_eq_some_iff] at hb
 obtain ⟨b, h1, h2⟩ := hb
 split at h2
 ·exact absurd h2.symm hg
 ·rename_i hc
  refine ⟨by rw [h1, h2], fun b' hb' => ?_⟩
  simp only [subB, List.getElem?_mapIdx, h1, Option.map_some, hc] at hb'
  cases hb'; rfl⟩
open Go
theorem DC.one {P : Program} {call : CallF} (hC : CallOK P call) {i0 : Nat} {d : Option Nat} {ops : Array Oper} (pre post : List Oper) {o : Oper} (h0 : ops.toList = pre ++ o :: post) (q2 : o.dst = d) (q3 : o.guard = none)
  {s s1 : St} {lpre lpost : List AOper} (hpre : compL (compOper P ops) pre = some lpre) (hrun : runOps call lpre s = some s1) (v : AV) (h' : List Blk)
  (hop : ∀ (S : Nat → Prop) (m : Emb) (w : World) (a : Act), Rep S m s1.h w → TRel S m w s1.t a.tmps → ∃ x w' S' m', (execOp a.eval o).run P w = .ok (.value x) w' ∧ VRel S' m' w' v x ∧ Rep S' m' h' w' ∧ Stp S m s1.h w S' m' h' w')
  (hpost : compL (compOper P ops) post = some lpost) {s2 : St} (hrun2 : runOps call lpost { t := put s1.t d v, h := h' } = some s2) :
  DC P (.region i0 ops false) s fun e s' => e = .normal ∧ s' = s2 := by
 intro S0 m0 w0 a0 r0 ht0
 have hsz0 : ops.size = pre.length + (post.length + 1) := by
  rw [← Array.length_toList, h0]
  simp
 have hrg : List.range ops.size = List.range' 0 pre.length ++ (pre.length :: (List.range' (pre.length + 1) post.length ++ [])) := by
  rw [hsz0, List.range_eq_range', List.append_nil, ← List.range'_append (s := 0) (m := pre.length) (n := post.length + 1) (step := 1)]
  simp only [Nat.zero_add, Nat.one_mul, List.range'_succ]
 have hget : ∀ j, j < pre.length → ops[0 + j]? = pre[j]? := fun j hj => by
  rw [← Array.getElem?_toList, h0, Nat.zero_add, List.getElem?_append_left hj]
 have hg1 : ops[pre.length]? = some o := by
  rw [← Array.getElem?_toList, h0, List.getElem?_append_right (Nat.le_refl _), Nat.sub_self]
  rfl
 have hg3 : ∀ j, j < post.length → ops[pre.length + 1 + j]? = post[j]? := fun j hj => by
  rw [← Array.getElem?_toList, h0, List.getElem?_append_right (by omega), show pre.length + 1 + j - pre.length = j + 1 by omega]
  rfl
 refine wp_region ?_
 rw [hrg]
 refine runOps_part hC _ pre 0 lpre s s1 S0 m0 w0 a0 hget hpre hrun r0 ht0 fun S m w a r ht1 hst hdf => ?_
 obtain ⟨x, w', S', m', hexe, hv, r', st'⟩ := hop S m w a r ht1
 refine wpOps_val hg1 q3 hexe ?_
 rw [q2]
 have ht2 : TRel S' m' w' (put s1.t d v) (a.put d x).tmps := TRel.put (ht1.keep (st'.kp r)) _ hv
 have hdp : (a.put d x).defers = a.defers := by cases d <;> rfl
 refine runOps_part hC [] post (pre.length + 1) lpost _ s2 S' m' w' _ hg3 hpost hrun2 r' ht2 fun S2 m2 w2 a' r2 ht' hst' hdf' => ?_
 refine ⟨.normal, s2, ⟨rfl, rfl⟩, ?_⟩
 exact ⟨by simp [exRel], S2, m2, r2, ht', (hst.trans st').trans hst', hdf'.trans (hdp.trans hdf)⟩
theorem cap_op {P : Program} {o : Oper} {x : Operand} {ats : Array TypeId} {t e : TypeId} (ho : o.op = .call { callee := .builtin .cap, args := #[x], argTypes := ats }) (hat : ats[0]? = some t) (ht : P.underlying t = some (.slice e)) {S m w} {a : Act} {id st off len cap : Nat} (hx : VRel S m w (.sl id st off len cap true) (a.eval x)) :
  (execOp a.eval o).run P w = .ok (.value (.int .i64 cap)) w := by
 have hm : #[x].map a.eval = #[a.eval x] := by simp
 have exe : execOp a.eval o = (do pure (.value (← Builtin.cap_ ats o.type #[a.eval x]))) := by rw [exe_builtin ho, hm]; rfl
 have hr : (Builtin.cap_ ats o.type #[a.eval x]).run P w = .ok (.int .i64 cap) w := by
  have a0 : (#[a.eval x] : Array Value)[0]? = some (a.eval x) := rfl
  unfold Builtin.cap_
  simp only [hat, a0, Sem.run_bind, und_run ht, Result.andThen_ok]
  generalize a.eval x = y at hx
  cases hx with
  | sl h1 h2 h3 h4 h5 => rw [h2 rfl]; rfl
  | sle h1 => rfl
 rw [exe]
 simp [hr]
open Go.Lib in
theorem appz_run {P : Program} (w : World) (t tn ty e : TypeId) (i : TypeInfo) (z : Value) (k kn : IntKind) (ht : P.underlying t = some (.slice e)) (htn : P.underlying tn = some (.int kn)) (hi : P.info? e = some i) (hz : i.zero = some z)
  (base : Option Addr) (sLen sCap n : Nat) (h0 : 0 < n) (hs : 0 < i.size) (hby : 0 < i.bytes) (hlt : sCap < sLen + n) (hfit : (sLen + n) * i.bytes ≤ 140737488355328) {old : Array Value} (hold : (Builtin.firstCells i.size sLen (.slice base sLen sCap)).run P w.drew = .ok old w.drew) :
  ∃ nc, sLen + n ≤ nc ∧ (Builtin.append_ #[t, tn] ty #[.slice base sLen sCap, .int k n]).run P w =
   .ok (.slice (some ⟨w.heap.size, 0, none⟩) (sLen + n) nc) (w.drew.alloc (.cells (old ++ Builtin.zeroCells z.cells n ++ Builtin.zeroCells z.cells (nc - (sLen + n))) e)) := by
 have hle : sLen + n ≤ 140737488355328 := Nat.le_trans (Nat.le_mul_of_pos_right _ hby) hfit
 have hw : IntKind.i64.wrap (n : Int) = n := by rw [IntKind.wrap_i64]; omega
 have hneg : ¬ ((n : Int) < 0) := by omega
 have hnb : n * i.bytes ≤ 140737488355328 := Nat.le_trans (Nat.mul_le_mul_right _ (by omega)) hfit
 have h48 : ¬ ((n : Int) * (i.bytes : Int) > 2 ^ 48) := by
  rw [← Int.natCast_mul]
  omega
 have hns : ¬ (n * i.size = 0) := Nat.mul_ne_zero (by omega) (by omega)
 have c1 : ¬ (Builtin.nextslicecap (sLen + n) sCap * i.bytes > 2 ^ 48) := by
  have := growslice_fits (bytes := i.bytes) hlt hfit
  omega
 have c2 : ¬ (((sLen + n : Nat) : Int) > IntKind.i64.max) := by
  have : IntKind.i64.max = 9223372036854775807 := rfl
  rw [this]; omega
 have hq : (Question.appendCap (sLen + n) sCap e).forced = false := rfl
 refine ⟨(Question.appendCap (sLen + n) sCap e).cut (w.tape w.drawn (.appendCap (sLen + n) sCap e)), by simp only [Question.cut]; omega, ?_⟩
 have hsr : ∀ W : World, (sizeOf e).run P W = .ok i.size W := fun W => by simp [sizeOf, info_run hi]
 have hzr : ∀ W : World, (zeroValue e).run P W = .ok z W := fun W => zero_run hi hz
 have hty : ∀ W : World, (typeInfo e).run P W = .ok i W := fun W => info_run hi
 have a0 : (#[Value.slice base sLen sCap, Value.int k n] : Array Value)[0]? = some (.slice base sLen sCap) := rfl
 have a1 : (#[Value.slice base sLen sCap, Value.int k n] : Array Value)[1]? = some (.int k n) := rfl
 have t0 : (#[t, tn] : Array TypeId)[0]? = some t := rfl
 have t1 : (#[t, tn] : Array TypeId)[1]? = some tn := rfl
 have hasI : ∀ W : World, (asInt (.int k n)).run P W = .ok (n : Int) W := fun W => rfl
 unfold Builtin.append_
 simp only [t0, t1, a0, a1, Sem.run_bind, und_run ht, Result.andThen_ok, hsr, und_run htn, Sem.run_pure, if_true, hasI, hw]
 rw [if_neg hneg]
 simp only [Sem.run_bind, hty, Result.andThen_ok]
 rw [if_neg h48]
 simp only [Sem.run_bind, Result.andThen_ok, Sem.run_pure, Int.toNat_natCast]
 rw [if_neg (by omega)]
 simp only [Sem.run_bind, hty, Result.andThen_ok]
 rw [if_neg (fun h => c2 h.1)]
 simp only [Sem.run_bind, hty, Result.andThen_ok]
 rw [if_neg c1]
 simp only [Sem.run_bind, run_choose, hq, Bool.false_eq_true, if_false, Result.andThen_ok, hty, run_askRoom]
 have ho : (Builtin.firstCells i.size sLen (.slice base sLen sCap)).run P { w with drawn := w.drawn + 1 } = .ok old { w with drawn := w.drawn + 1 } := hold
 simp only [ho, Bool.not_true, Bool.false_eq_true, if_false, if_neg hns, Sem.run_bind, Result.andThen_ok, hzr, newRow_run, Sem.run_pure]
 rfl
theorem appz_op {P : Program} {o : Oper} {s x : Operand} {t tn e : TypeId} {kn : IntKind} (ho : o.op = .call { callee := .builtin .append, args := #[s, x], argTypes := #[t, tn] }) (ht : P.underlying t = some (.slice e)) (htn : P.underlying tn = some (.int kn))
  {st by_ : Nat} {z : List AV} (he : elem? P e = some (st, z, by_)) {S m h w} (r : Rep S m h w) {a : Act} {id len cap n : Nat} {os : List AV} (hs : VRel S m w (.sl id st 0 len cap true) (a.eval s)) (hos : elems h st (.sl id st 0 len cap true) = some os) (hx : VRel S m w (.int .i64 n) (a.eval x))
  (h0 : 0 < n) (hlt : cap < len + n) (hfit : (len + n) * by_ ≤ 140737488355328) :
  ∃ y w' S' m', (execOp a.eval o).run P w = .ok (.value y) w' ∧ VRel S' m' w' (.sl h.length st 0 (len + n) (len + n) false) y ∧ Rep S' m' (h ++ [.cells (os ++ (List.replicate n z).flatten)]) w' ∧ Stp S m h w S' m' (h ++ [.cells (os ++ (List.replicate n z).flatten)]) w' := by
 obtain ⟨i, zv, hi, hz, hsz, hby, h3, h4, h5, h6, h7⟩ := elem?_sound he
 have hm : #[s, x].map a.eval = #[a.eval s, a.eval x] := by simp
 have exe : execOp a.eval o = (do pure (.value (← Builtin.append_ #[t, tn] o.type #[a.eval s, a.eval x]))) := by rw [exe_builtin ho, hm]; rfl
 have hxi : a.eval x = .int .i64 n := by
  generalize a.eval x = y at hx
  cases hx; rfl
 obtain ⟨base, hsv⟩ : ∃ base, a.eval s = .slice base len cap := by
  generalize a.eval s = y at hs
  cases hs with
  | sl g1 g2 g3 g4 g5 => rw [g2 rfl]; exact ⟨_, rfl⟩
  | sle g1 => exact ⟨_, rfl⟩
 obtain ⟨old, k, o1, o2, o3, o4, o5⟩ := first_sound (P := P) (drew_keep r).1 hos (vdrew hs) h4
 simp only [lenOf, Option.some.injEq] at o2
 subst o2
 have hold : LRel S m w os old := ⟨o1.1, fun i hi => vundrew (o1.2 i hi)⟩
 have hq := o5 len (Nat.le_refl _)
 rw [List.take_of_length_le (by omega), hsv, ← hsz] at hq
 rw [← hsz] at h4
 rw [← hby] at h5 hfit
 obtain ⟨nc, g1, g2⟩ := appz_run (P := P) w t tn o.type e i zv .i64 kn ht htn hi hz base len cap n h0 h4 h5 hlt hfit hq
 have hzc : zv.cells.size = st := by have := (h7 S m w).1; simp at this; omega
 have hf := rep_flat (zero := zv.cells) hzc n
 have hLz : LRel S m w (List.replicate n z).flatten (Builtin.zeroCells zv.cells n).toList := by
  unfold Builtin.zeroCells
  rw [show n * zv.cells.size = n * st by rw [hzc], hf]
  exact (h7 S m w).flat _
 have hLL : LRel S m w (os ++ (List.replicate n z).flatten) (old ++ (Builtin.zeroCells zv.cells n).toList) := hold.append hLz
 have hcs : (old.toArray ++ Builtin.zeroCells zv.cells n ++ Builtin.zeroCells zv.cells (nc - (len + n))).size = nc * st := by
  simp only [Array.size_append, List.size_toArray, zeroCells_size, hzc, o3]
  rw [← Nat.add_mul, ← Nat.add_mul]
  congr 1; omega
 have hos2 : (os ++ (List.replicate n z).flatten).length = (len + n) * st := by
  rw [hLL.1, List.length_append, o3, Array.length_toList, zeroCells_size, hzc, Nat.add_mul]
 obtain ⟨a1, a2, a3⟩ := new_sl (st := st) (len := len + n) (cap := len + n) (rc := nc) (ex := false) (c := old.toArray ++ Builtin.zeroCells zv.cells n ++ Builtin.zeroCells zv.cells (nc - (len + n))) (cs := os ++ (List.replicate n z).flatten) (w' := w.drew.alloc (.cells (old.toArray ++ Builtin.zeroCells zv.cells n ++ Builtin.zeroCells zv.cells (nc - (len + n))) e)) r e ⟨rfl, rfl, rfl⟩ rfl
  (by
   have e1 : (old.toArray ++ Builtin.zeroCells zv.cells n ++ Builtin.zeroCells zv.cells (nc - (len + n))).toList.take (os ++ (List.replicate n z).flatten).length = old ++ (Builtin.zeroCells zv.cells n).toList := by
    simp only [Array.toList_append]
    rw [hLL.1]
    exact List.take_left' rfl
   rw [e1]; exact hLL)
  (by rw [hcs, hos2]; exact Nat.mul_le_mul_right _ g1) (by simp) g1 (Nat.le_refl _) (by rw [hcs]; exact Nat.le_refl _)
 exact ⟨_, _, _, _, by rw [exe, hsv, hxi]; simp [g2], a1, a2, a3⟩
theorem DC.cond {P : Program} {n : Nat} {x y : Code} {s : St} {Q : AExit → St → Prop} (v : Bool) (hv : evalO s.t (.t n) = .bool v) (h : DC P (if v then x else y) s Q) : DC P (.cond (.tmp n) x y) s Q := by
 intro S m w a r ht
 have hv' := compO_sound ht (x := .tmp n) (y := .t n) rfl
 rw [hv] at hv'
 cases v with
 | true => exact wp_cond (vbool hv') (h S m w a r ht)
 | false => exact wp_cond (vbool hv') (h S m w a r ht)
theorem AMS.room {P : Program} {f : FuncId} {b st n : Nat} {cs rest : List AV} {h h' : List Blk} {r : AV} (hb : h[b]? = some (.cells cs)) (hn : 0 < n) (hl : cs.length = n * st)
  (hs : ∀ c, n ≤ c → AMS P f (.sl b st 0 n c true :: rest) (h.set b (.cells (cs ++ List.replicate ((c - n) * st) .dead))) r h') : AMS P f (.sl b st 0 n n false :: rest) h r h' := by
 intro S m w vals r0 hL
 obtain ⟨x, q, hv, hx, hq⟩ := hL.head
 have hlt := (List.getElem?_eq_some_iff.1 hb).1
 cases hx with
 | @sl _ _ _ _ _ _ b' d z rc g1 g2 g3 g4 g5 =>
  obtain ⟨b2, d2, t, fz, c, k1, k2, k3, k4, k5, k6⟩ := r0.blk b _ hb
  rw [g1] at k1
  cases k1
  have hsz : cs.length + (rc - n) * st = rc * st := by rw [hl, ← Nat.add_mul]; congr 1; omega
  have hg : ∀ id bl, (h.set b (.cells (cs ++ List.replicate ((rc - n) * st) .dead)))[id]? = some bl → (id = b ∧ bl = .cells (cs ++ List.replicate ((rc - n) * st) .dead)) ∨ (id ≠ b ∧ h[id]? = some bl) := fun id bl hbl => by
   by_cases he : id = b
   ·subst he
    rw [List.getElem?_set_self hlt] at hbl
    cases hbl
    exact .inl ⟨rfl, rfl⟩
   ·rw [List.getElem?_set_ne (Ne.symm he)] at hbl
    exact .inr ⟨he, hbl⟩
  have hown : ∀ id q, owns (h.set b (.cells (cs ++ List.replicate ((rc - n) * st) .dead))) m id q → owns h m id q := by
   rintro id q ⟨h1, bl, h2, h3⟩
   rcases hg id bl h2 with ⟨rfl, rfl⟩ | ⟨_, h4⟩
   ·exact ⟨h1, _, hb, by intro e; cases e⟩
   ·exact ⟨h1, bl, h4, h3⟩
  have rp : Rep S m (h.set b (.cells (cs ++ List.replicate ((rc - n) * st) .dead))) w := by
   refine ⟨r0.sb, fun id hid => r0.dom id (by simpa using hid), fun id bl hbl => ?_, fun i j q h1 h2 => r0.inj i j q (hown i q h1) (hown j q h2)⟩
   rcases hg id bl hbl with ⟨rfl, rfl⟩ | ⟨_, h4⟩
   ·refine ⟨b', d, t, fz, c, g1, k2, ?_, k4, ?_, k6⟩
    ·rw [List.length_append, List.length_replicate]; omega
    ·refine ⟨by simp; omega, fun i hi => ?_⟩
     by_cases hic : i < cs.length
     ·have := k5.2 i hic
      simp only [List.getD_eq_getElem?_getD, List.getElem?_take, if_pos hic] at this
      rw [List.getD_eq_getElem?_getD, List.getElem?_append_left hic, List.getD_eq_getElem?_getD, List.getElem?_take, if_pos hi]
      exact this
     ·rw [List.getD_eq_getElem?_getD, List.getElem?_append_right (by omega), List.getElem?_replicate]
      split <;> exact .dead
   ·exact r0.blk id bl h4
  have sp : Stp S m h w S m (h.set b (.cells (cs ++ List.replicate ((rc - n) * st) .dead))) w := ⟨fun _ h => h, fun _ _ h => h, rfl, rfl, rfl, Nat.le_refl _, by simp, fun _ _ _ => rfl, fun id q ho _ => ⟨id, hown id q ho⟩, fun _ h => .inl h⟩
  refine Calls.mono (hs rc g3 S m w vals rp (by rw [hv]; exact LRel.cons (.sl g1 (fun _ => rfl) (Nat.le_refl _) g3 g5) hq)) fun e w' he => ?_
  obtain ⟨v, S', m', h1, h2, h3, h4⟩ := he
  exact ⟨v, S', m', h1, h2, h3, sp.trans h4⟩
 | sle g1 => omega
theorem AMS.drop {P : Program} {f : FuncId} {args : List AV} {h h' h2 : List Blk} {r : AV} (hs : AMS P f args h r h') (hl2 : h'.length ≤ h2.length) (hsub : ∀ (i : Nat) (bl : Blk), h2[i]? = some bl → bl ≠ Blk.gone → h'[i]? = some bl) : AMS P f args h r h2 := by
 intro S m w vals r0 hL
 refine Calls.mono (hs S m w vals r0 hL) fun e w' he => ?_
 obtain ⟨v, S', m', h1, h2', h3, h4⟩ := he
 have hown : ∀ id q, owns h2 m' id q → owns h' m' id q := by
  rintro id q ⟨k1, bl, k2, k3⟩
  exact ⟨k1, bl, hsub id bl k2 k3, k3⟩
 refine ⟨v, S', m', h1, h2', ⟨h3.sb, fun id hid => h3.dom id (by omega), fun id bl hb => ?_, fun i j q k1 k2 => h3.inj i j q (hown i q k1) (hown j q k2)⟩, ⟨h4.ts, h4.tm, h4.os, h4.tape, h4.output, h4.size, by have := h4.len; omega, h4.fr, fun id q ho hq => h4.own id q (hown id q ho) hq, h4.sn⟩⟩
 by_cases hg : bl = .gone
 ·subst hg; trivial
 ·exact h3.blk id bl (hsub id bl hb hg)
theorem Cl.ams {P : Program} {Γ : FuncId → Option GF} {tbl : FuncId → Option AFunc} (K : Known Γ tbl P) {f args h r h' lo} (hc : Cl Γ tbl f args h (r, h', lo)) (hb : Γ f = none) : AMS P f args h r h' := by
 obtain ⟨n, hc⟩ := hc
 cases n with
 | zero => simp [callF] at hc
 | succ n => exact (code_sound Γ tbl K n (callF_sound Γ tbl K n) hb hc).2.2
open Go
theorem rep_below {S m h} {w w' : World} {S' : Nat → Prop} (r : Rep S m h w) (h2 : ∀ b, S b → S' b) (h3 : ∀ b, S' b → S b ∨ w.heap.size ≤ b) (h4 : ∀ b, S' b → b < w'.heap.size) (h5 : RowKit.Below w.heap.size w w') : Rep S' m h w' ∧ Stp S m h w S' m h w' := by
 have hk : Kp S m w S' m w' := ⟨h2, fun b hb => h5.block b (r.sb b hb), fun _ _ h => h⟩
 refine ⟨⟨h4, r.dom, ?_, r.inj⟩, ⟨h2, fun _ _ h => h, h5.os, h5.tape, h5.output, h5.size, Nat.le_refl _, fun b hb _ => h5.block b hb, fun id b ho _ => ⟨id, ho⟩, fun b hb => (h3 b hb).imp id .inl⟩⟩
 intro id bl hb
 refine (r.blk id bl hb).keep r hk fun b hm hg => ?_
 have ho : owns h m id b := ⟨hm, bl, hb, hg⟩
 refine ⟨h5.block b (owns_lt r ho), fun hS' => ?_⟩
 rcases h3 b hS' with h | h
 ·exact owns_not_S r ho h
 ·have := owns_lt r ho; omega
def KeysC (P : Program) (fK fC : FuncId) (tc : TypeId) : Prop := ∀ (mb : Option Nat) (W : World), Calls P fK #[.map mb] W fun e w' => e = .returned (.func (.func fC) #[] #[.pointer (some ⟨W.heap.size, 0, none⟩)]) ∧ w' = W.alloc (.cells #[.map mb] tc)
open Go
open Go.Proofs (encStr)
theorem encStr_of {s : ByteArray} {l : List UInt8} (h : s.data.toList = l) : Value.string s = encStr l := by
 subst h
 simp [encStr]
theorem keyOf_str_mk {P : Program} {k : TypeId} (hk : P.underlying k = some .string) {l : List UInt8} (h : l.length ≤ maxLen) : keyOf P k (encStr l) = some (.string l) := by
 simp [keyOf, hk, mapKey, encStr]
 exact h
def SortedS (P : Program) (fS fC : FuncId) (tc ti : TypeId) : Prop := ∀ (b nn : Nat) (D0 : DataW Unit) (R : Value → Option (DataW Unit × List MemPlace)) (w : World), w.ownsMap P ti R b nn D0 → Maps.size D0 ≤ maxLen → Maps.size D0 * 16 ≤ 140737488355328 →
 Calls P fS #[.func (.func fC) #[] #[.pointer (some ⟨w.heap.size, 0, none⟩)]] (w.alloc (.cells #[.map (some b)] tc)) fun e w' => ∃ (v : Value) (ss : List (List UInt8)), e = .returned v ∧ ss.Perm (strKeys D0) ∧
  w'.ownsRow (w.alloc (.cells #[.map (some b)] tc)).heap.size ti 1 v ss.length ((ss.mergeSort (fun x y => decide (x ≤ y))).map encStr) ∧ (v = .slice none 0 0 ↔ ss = []) ∧ RowKit.Below (w.alloc (.cells #[.map (some b)] tc)).heap.size (w.alloc (.cells #[.map (some b)] tc)) w'
def keyRow (ks : List (List UInt8)) : AV := if ks = [] then .nils else .ro (ks.map AV.str) 1 false
theorem keyRow_rel {S : Nat → Prop} {m : Emb} {w : World} {base : Nat} {ti : TypeId} {v : Value} {ss : List (List UInt8)} (h : w.ownsRow base ti 1 v ss.length (ss.map encStr)) (hn : v = .slice none 0 0 ↔ ss = []) (hS : ∀ g, base ≤ g → g < w.heap.size → S g) : VRel S m w (keyRow ss) v := by
 unfold keyRow
 by_cases he : ss = []
 ·rw [if_pos he, hn.2 he]; exact .nils
 ·rw [if_neg he]
  obtain ⟨_, ⟨h1, _⟩ | ⟨g, cap, cur, rfl, hb, hg, hc, _, hsz, ht⟩⟩ := h
  ·exact absurd (hn.1 h1) he
  have hgl : g < w.heap.size := (Array.getElem?_eq_some_iff.1 hg).1
  have hlm : (ss.map AV.str).length = ss.length := by simp
  have hcell : ∀ i, i < ss.length → w.cell? ⟨g, i, none⟩ = some (encStr (ss.getD i [])) := fun i hi => by
   have h2 : (cur.toList.take (ss.length * 1))[i]? = (ss.map encStr)[i]? := by rw [ht]
   rw [List.getElem?_take_of_lt (by omega), List.getElem?_map, List.getElem?_eq_getElem hi] at h2
   simp only [World.cell?, hg]
   rw [← Array.getElem?_toList, h2, List.getD_eq_getElem?_getD, List.getElem?_eq_getElem hi]
   rfl
  have := VRel.ro (S := S) (m := m) (w := w) (es := ss.map AV.str) (st := 1) (ex := false) (b := g) (d := 0) (rc := cap) (fun i _ => encStr (ss.getD i [])) (hS g hb hgl)
   (fun i j hi hj => by rw [hlm] at hi; rw [show 0 + (i * 1 + j) = i by omega]; exact hcell i hi) (fun i hi => by
    rw [hlm] at hi
    rw [List.getD_eq_getElem?_getD, List.getElem?_map, List.getElem?_eq_getElem hi]
    rfl) (fun i j hi hj => by
    rw [hlm] at hi
    have hj0 : j = 0 := by omega
    subst hj0
    rw [List.getD_eq_getElem?_getD (l := ss.map _), List.getElem?_map, List.getD_eq_getElem?_getD (l := ss), List.getElem?_eq_getElem hi]
    exact .str (by simp)) (fun h => by cases h) (by rw [hlm]; exact hc)
  rw [hlm] at this
  exact this
set_option maxHeartbeats 1600000 in
theorem DC.keysS {P : Program} {call : CallF} (hC : CallOK P call) {fK fS fC : FuncId} {tc ti tm d1 d2 i0 : Nat} (hK : KeysC P fK fC tc) (hS : SortedS P fS fC tc ti) (hti : P.underlying ti = some .string) (hb1 : Body P fK) (hb2 : Body P fS)
  {ops : Array Oper} (pre post : List Oper) {o1 o2 : Oper} {g1 g2 : Operand} {ats1 ats2 : Array TypeId} (h0 : ops.toList = pre ++ o1 :: o2 :: post)
  (q1 : o1.op = .call { callee := .value g1, args := #[.tmp tm], argTypes := ats1 } ∧ o1.dst = some d1 ∧ o1.guard = none) (q2 : o2.op = .call { callee := .value g2, args := #[.tmp d1], argTypes := ats2 } ∧ o2.dst = some d2 ∧ o2.guard = none)
  (c1 : compO g1 = some (.c (.fn (.func fK) [] []))) (c2 : compO g2 = some (.c (.fn (.func fS) [] [])))
  {s s1 : St} {lpre lpost : List AOper} (hpre : compL (compOper P ops) pre = some lpre) (hrun : runOps call lpre s = some s1) {id : Nat} {ks : List (List UInt8)} {vs : List AV} (hvl : vs.length = ks.length) (hmap : (s1.t[tm]?).getD .dead = .map id) (hes : s1.h[id]? = some (.map ((ks.map AV.str).zip vs)))
  (hnd : ks.Nodup) (hwf : ∀ k ∈ ks, k.length ≤ maxLen) (hlen : ks.length ≤ 1000000) (hd1 : d1 < s1.t.length)
  (hpost : compL (compOper P ops) post = some lpost) {s2 : St} (hrun2 : runOps call lpost { t := put (put s1.t (some d1) .dead) (some d2) (keyRow (ks.mergeSort fun x y => decide (x ≤ y))), h := s1.h } = some s2) :
  DC P (.region i0 ops false) s fun e s' => e = .normal ∧ s' = s2 := by
 intro S0 m0 w0 a0 r0 ht0
 have hsz0 : ops.size = pre.length + (post.length + 2) := by
  rw [← Array.length_toList, h0]
  simp
 have hrg : List.range ops.size = List.range' 0 pre.length ++ (pre.length :: (pre.length + 1) :: (List.range' (pre.length + 2) post.length ++ [])) := by
  rw [hsz0, List.range_eq_range', List.append_nil, ← List.range'_append (s := 0) (m := pre.length) (n := post.length + 2) (step := 1)]
  simp only [Nat.zero_add, Nat.one_mul, List.range'_succ]
 have hget : ∀ j, j < pre.length → ops[0 + j]? = pre[j]? := fun j hj => by
  rw [← Array.getElem?_toList, h0, Nat.zero_add, List.getElem?_append_left hj]
 have hg1 : ops[pre.length]? = some o1 := by
  rw [← Array.getElem?_toList, h0, List.getElem?_append_right (Nat.le_refl _), Nat.sub_self]
  rfl
 have hg2 : ops[pre.length + 1]? = some o2 := by
  rw [← Array.getElem?_toList, h0, List.getElem?_append_right (by omega), show pre.length + 1 - pre.length = 1 by omega]
  rfl
 have hg3 : ∀ j, j < post.length → ops[pre.length + 2 + j]? = post[j]? := fun j hj => by
  rw [← Array.getElem?_toList, h0, List.getElem?_append_right (by omega), show pre.length + 2 + j - pre.length = j + 2 by omega]
  rfl
 refine wp_region ?_
 rw [hrg]
 refine runOps_part hC _ pre 0 lpre s s1 S0 m0 w0 a0 hget hpre hrun r0 ht0 fun S m w a r ht hst hdf => ?_
 -- the map
 have hmv := TRel.get ht tm
 rw [hmap] at hmv
 obtain ⟨b, ck, en, e1, e2, e3, e4, e5, e6, e7⟩ := r.blk _ _ hes
 have hev : a.eval (.tmp tm) = .map (some b) := by
  show a.tmps.getD tm undef = _
  generalize a.tmps.getD tm undef = x at hmv
  cases hmv with
  | map g => rw [e1] at g; cases g; rfl
 have hz1 : ((ks.map AV.str).zip vs).map (·.1) = ks.map AV.str := List.map_fst_zip (by simp [hvl])
 rw [hz1] at e3
 have hkeys : en.toList.map (·.key) = ks.map encStr := by
  apply List.ext_getElem?
  intro i
  have hl := e3.1
  simp only [List.length_map] at hl
  by_cases hi : i < ks.length
  ·have h5 := e3.2 i (by simpa using hi)
   have hi2 : i < en.toList.length := by omega
   rw [List.getElem?_map, List.getElem?_map, List.getElem?_eq_getElem hi, List.getElem?_eq_getElem hi2]
   simp only [List.getD_eq_getElem?_getD, List.getElem?_map, List.getElem?_eq_getElem hi, List.getElem?_eq_getElem hi2, Option.map_some, Option.getD_some] at h5
   simp only [Option.map_some, Option.some.injEq]
   generalize (en.toList[i]).key = y at h5 ⊢
   cases h5 with
   | str h => exact encStr_of h
  ·rw [List.getElem?_eq_none (by rw [List.length_map]; omega), List.getElem?_eq_none (by rw [List.length_map]; omega)]
 have hensz : en.size = ks.length := by
  have := congrArg List.length hkeys
  simpa using this
 have hrd : ∀ x ∈ en.toList, ∃ k ∈ ks, x.key = encStr k ∧ WideElems.rd P ti (fun _ => some ((.nil : DataW Unit), [])) x = some (.string k, .nil) := fun x hx => by
  have : x.key ∈ en.toList.map (·.key) := List.mem_map.2 ⟨x, hx, rfl⟩
  rw [hkeys] at this
  obtain ⟨k, hk, hkx⟩ := List.mem_map.1 this
  refine ⟨k, hk, hkx.symm, ?_⟩
  unfold WideElems.rd
  rw [← hkx, keyOf_str_mk hti (hwf k hk)]
  rfl
 have hown : w.ownsMap P ti (fun _ => some ((.nil : DataW Unit), [])) b en.size (.map ((en.toList.map (WideElems.rg P ti fun _ => some ((.nil : DataW Unit), []))).foldr DataW.insert [])) := by
  refine ⟨en, ck, e2, ⟨by rw [hensz]; unfold maxLen; omega, ⟨e7, e6, ?_⟩, fun x hx => ?_⟩, Nat.le_refl _, rfl⟩
  ·rw [hkeys]
   exact List.pairwise_map.2 (hnd.imp fun hne h => hne (encStr_inj h))
  ·obtain ⟨k, _, _, h⟩ := hrd x hx
   exact ⟨_, h⟩
 have hik : (strKeys (.map ((en.toList.map (WideElems.rg P ti fun _ => some ((.nil : DataW Unit), []))).foldr DataW.insert []))).Perm ks := by
  show ((_ : List (Lit × DataW Unit)).map fun p => strOf p.1).Perm ks
  refine ((WideShapes.sorted_perm _).map _).trans ?_
  rw [List.map_map]
  have : en.toList.map ((fun p : Lit × DataW Unit => strOf p.1) ∘ WideElems.rg P ti fun _ => some ((.nil : DataW Unit), [])) = ks := by
   have h6 : (en.toList.map (·.key)).map (fun v => match v with | .string s => s.data.toList | _ => []) = ks := by rw [hkeys, List.map_map]; exact List.map_id' ks
   rw [List.map_map] at h6
   refine Eq.trans (List.map_congr_left fun x hx => ?_) h6
   obtain ⟨k, _, h7, h8⟩ := hrd x hx
   simp only [Function.comp, WideElems.rg_of h8, strOf, h7]
  rw [this]
 have hdsz : Maps.size (.map ((en.toList.map (WideElems.rg P ti fun _ => some ((.nil : DataW Unit), []))).foldr DataW.insert []) : DataW Unit) = ks.length := by
  show List.length _ = _
  rw [(WideShapes.sorted_perm _).length_eq, List.length_map, Array.length_toList, hensz]
 -- maps.Keys
 have hv1 := compO_sound ht c1
 obtain ⟨us1, us2, hev1, hu1, hu2⟩ := hv1.fn_inv
 have z1 : us1 = #[] := by have := hu1.nil_r; exact Array.toList_inj.1 (by simpa using this)
 have z2 : us2 = #[] := by have := hu2.nil_r; exact Array.toList_inj.1 (by simpa using this)
 subst z1; subst z2
 obtain ⟨fn1, hfn1, hbody1, hname1⟩ := hb1
 obtain ⟨fn2, hfn2, hbody2, hname2⟩ := hb2
 have hexe1 : (execOp a.eval o1).run P w = .ok (.enter fK #[.map (some b)]) w := by
  simp only [execOp, q1.1, resolve, hev1, hev, Deferred.ofValue, Sem.run_bind, Sem.run_pure, Result.andThen_ok, invoke, callFunc, run_program, hfn1, hname1, hbody1, Bool.false_eq_true, if_false, List.map_toArray, List.map_cons, List.map_nil]
  rfl
 have step1 : ∀ {K : Exit → Act → World → Prop} {i : Nat} {rest : List Nat} {o : Oper} {a : Act} {w : World} {f : FuncId} {args : Array Value} {R : Ending → World → Prop}, ops[i]? = some o → o.guard = none → (execOp a.eval o).run P w = .ok (.enter f args) w → Calls P f args w R → (∀ e w', R e w' → ∃ x, e = .returned x ∧ wpOps P ops K rest (a.put o.dst x) w') → wpOps P ops K (i :: rest) a w := by
  intro K i rest o a w f args R ho hg hx hcl hn
  simp only [wpOps, ho]
  rw [if_pos (by simp [Region.wanted, hg])]
  refine .inl ?_
  unfold Oper.wp
  rw [hx, Oper.upon_enter]
  refine Calls.mono hcl fun e w' he => ?_
  obtain ⟨x, rfl, h⟩ := hn e w' he
  exact h
 refine step1 hg1 q1.2.2 hexe1 (hK (some b) w) ?_
 rintro _ w1 ⟨rfl, rfl⟩
 refine ⟨_, rfl, ?_⟩
 rw [q1.2.1]
 -- slices.Sorted
 have htsz := tmps_size ht
 have hv2 := compO_sound ht c2
 obtain ⟨us3, us4, hev2, hu3, hu4⟩ := hv2.fn_inv
 have z3 : us3 = #[] := by have := hu3.nil_r; exact Array.toList_inj.1 (by simpa using this)
 have z4 : us4 = #[] := by have := hu4.nil_r; exact Array.toList_inj.1 (by simpa using this)
 subst z3; subst z4
 have hg2e : (a.put (some d1) (.func (.func fC) #[] #[.pointer (some ⟨w.heap.size, 0, none⟩)])).eval g2 = a.eval g2 := by
  cases g2 <;> first | rfl | (simp [compO] at c2)
 have hd1e : (a.put (some d1) (.func (.func fC) #[] #[.pointer (some ⟨w.heap.size, 0, none⟩)])).eval (.tmp d1) = .func (.func fC) #[] #[.pointer (some ⟨w.heap.size, 0, none⟩)] := tmps_put_eq (by omega)
 have hexe2 : (execOp (a.put (some d1) (.func (.func fC) #[] #[.pointer (some ⟨w.heap.size, 0, none⟩)])).eval o2).run P (w.alloc (.cells #[.map (some b)] tc)) = .ok (.enter fS #[.func (.func fC) #[] #[.pointer (some ⟨w.heap.size, 0, none⟩)]]) (w.alloc (.cells #[.map (some b)] tc)) := by
  simp only [execOp, q2.1, resolve, hg2e, hev2, hd1e, Deferred.ofValue, Sem.run_bind, Sem.run_pure, Result.andThen_ok, invoke, callFunc, run_program, hfn2, hname2, hbody2, Bool.false_eq_true, if_false, List.map_toArray, List.map_cons, List.map_nil]
  rfl
 refine step1 hg2 q2.2.2 hexe2 (hS b en.size _ _ w hown (by rw [hdsz]; unfold maxLen; omega) (by rw [hdsz]; omega)) ?_
 rintro _ w2 ⟨v, ss, rfl, hperm, hrow, hnil, hbel⟩
 refine ⟨_, rfl, ?_⟩
 rw [q2.2.1]
 have hb0 : RowKit.Below w.heap.size w (w.alloc (.cells #[.map (some b)] tc)) := (RowKit.Below.refl _ _).alloc (Nat.le_refl _) _
 have hbw : RowKit.Below w.heap.size w w2 := hb0.trans (hbel.mono hb0.size)
 have hss : ss.Perm ks := hperm.trans hik
 have hms : ss.mergeSort (fun x y => decide (x ≤ y)) = ks.mergeSort (fun x y => decide (x ≤ y)) := mergeSort_of_perm hss
 rw [hms] at hrow
 have hll : (ks.mergeSort (fun x y => decide (x ≤ y))).length = ss.length := by rw [List.length_mergeSort, hss.length_eq]
 obtain ⟨rp, sp⟩ := rep_below (S' := fun q => S q ∨ (w.heap.size ≤ q ∧ q < w2.heap.size)) r (fun q h => .inl h) (fun q h => h.imp (fun h => h) And.left) (fun q h => h.elim (fun h => by have := r.sb q h; have := hbw.size; omega) And.right) hbw
 have hrel : VRel (fun q => S q ∨ (w.heap.size ≤ q ∧ q < w2.heap.size)) m w2 (keyRow (ks.mergeSort fun x y => decide (x ≤ y))) v := by
  refine keyRow_rel (base := w.heap.size) (ti := ti) ?_ ?_ (fun g h1 h2 => .inr ⟨h1, h2⟩)
  ·rw [hll]
   obtain ⟨k1, k2⟩ := hrow
   refine ⟨k1, k2.imp (fun h => h) ?_⟩
   rintro ⟨g, cap, cur, k3, k4, k5⟩
   exact ⟨g, cap, cur, k3, by simp at k4; omega, k5⟩
  ·rw [hnil]
   constructor
   ·intro h; rw [h] at hll; exact List.eq_nil_of_length_eq_zero hll
   ·intro h; rw [h] at hll; exact List.eq_nil_of_length_eq_zero hll.symm
 have ht2 : TRel (fun q => S q ∨ (w.heap.size ≤ q ∧ q < w2.heap.size)) m w2 (put (put s1.t (some d1) .dead) (some d2) (keyRow (ks.mergeSort fun x y => decide (x ≤ y)))) ((a.put (some d1) (.func (.func fC) #[] #[.pointer (some ⟨w.heap.size, 0, none⟩)])).put (some d2) v).tmps :=
  TRel.put (TRel.put (ht.keep (sp.kp r)) _ .dead) _ hrel
 refine runOps_part hC [] post (pre.length + 2) lpost _ s2 _ m w2 _ hg3 hpost hrun2 rp ht2 fun S' m' w' a' r' ht' hst' hdf' => ?_
 refine ⟨.normal, s2, ⟨rfl, rfl⟩, ?_⟩
 exact ⟨by simp [exRel], S', m', r', ht', (hst.trans sp).trans hst', hdf'.trans hdf⟩
end Go.Proofs.YtenpjpldjmoefaaGreat.AM

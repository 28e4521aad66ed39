/-
  'gauger's law ArkExact holds of every input: it returns true, and each argument reads behind the call as it read before.
  This text: part 2 of 19 of the proof (Drawn, WApart, WGuard, WShare, WN, WMore, WRepsOne).
-/
import Derived.Test.YtfkkeddjfiljfaaMaa
import Derived.Orders
import Derived.Tactics
set_option linter.unusedVariables false
set_option linter.unusedSimpArgs false
namespace Go.Proofs.Ytfkkeddjfiljfaa
open Go.RowKit Go.Proofs.YtfkkeddjfiljfaaW.PrintWords Go.Proofs.YtfkkeddjfiljfaaW.PrintLast
def StepQ (A : Act) (d : Option Tmp) (v : Value) (S : World → Prop) : Exit → Act → World → Prop
 | .normal, a', w' => a' = A.put d v ∧ S w'
 | _, _, _ => False
def StepGood (P : Program) (ops : Array Oper) (S : World → Prop) (o : Oper) (A : Act) (v : Value) : Prop :=
 (Region.wanted o (yielded ops A.tmps) = true ∧ ∀ w, S w → wpList P #[] (StepQ A o.dst v S) [{ o with guard := none }] A w) ∨
 (Region.wanted o (yielded ops A.tmps) = false ∧ v = undef)
def Chain (P : Program) (ops : Array Oper) (S : World → Prop) (R : Act → Prop) : List Oper → Act → Prop
 | [], A => R A
 | o :: rest, A => ∃ v, StepGood P ops S o A v ∧ Chain P ops S R rest (A.put o.dst v)
def fsel (b : Nat → Bool) : Nat → List (Option Tmp × Value) → Act → Act
 | _, [], a => a
 | k, e :: r, a => fsel b (k + 1) r (if b k then a.put e.1 e.2 else a)
section
variable {P : Program} {ops : Array Oper} {S : World → Prop}
theorem put_size (a : Act) (d : Option Tmp) (v : Value) : (a.put d v).tmps.size = a.tmps.size := by cases d <;> simp [Act.put]
theorem fsel_size (b : Nat → Bool) : ∀ (E : List (Option Tmp × Value)) (k : Nat) (a : Act), (fsel b k E a).tmps.size = a.tmps.size
 | [], _, _ => rfl
 | e :: r, k, a => by
  rw [fsel, fsel_size b r]
  split
  ·exact put_size ..
  ·rfl
theorem put_get (a : Act) (d : Option Tmp) (v : Value) (t : Tmp) : (a.put d v).tmps[t]? = if d = some t then (if t < a.tmps.size then some v else none) else a.tmps[t]? := by
 cases d with
 | none => simp [Act.put]
 | some x =>
  by_cases h : x = t
  ·subst h
   simp [Act.put, Array.getElem?_setIfInBounds]
  ·simp [Act.put, h, Array.getElem?_setIfInBounds_ne h]
theorem fsel_slot {b b' : Nat → Bool} {t : Tmp} : ∀ (E : List (Option Tmp × Value)) (k : Nat) (a a' : Act), a.tmps.size = a'.tmps.size → a.tmps[t]? = a'.tmps[t]? →
  (∀ j e, E[j]? = some e → e.1 = some t → b (k + j) = b' (k + j)) → (fsel b k E a).tmps[t]? = (fsel b' k E a').tmps[t]?
 | [], _, _, _, _, h, _ => h
 | e :: r, k, a, a', hz, h, hb => by
  rw [fsel, fsel]
  refine fsel_slot r (k + 1) _ _ ?_ ?_ (fun j e' he' ht => by have := hb (j + 1) e' (by simpa using he') ht; rwa [show k + (j + 1) = k + 1 + j by omega] at this)
  ·split <;> split <;> simp [put_size, hz]
  ·by_cases ht : e.1 = some t
   ·have h0 := hb 0 e rfl ht
    rw [Nat.add_zero] at h0
    rw [h0]
    split
    ·rw [put_get, put_get, if_pos ht, if_pos ht, hz]
    ·exact h
   ·have h1 : ∀ (c : Bool) (x : Act), (if c then x.put e.1 e.2 else x).tmps[t]? = x.tmps[t]? := by
     intro c x
     cases c
     ·rfl
     ·simp only [if_true]; rw [put_get, if_neg ht]
    rw [h1, h1]
    exact h
theorem fsel_congr {b b' : Nat → Bool} : ∀ (E : List (Option Tmp × Value)) (k : Nat) (a : Act), (∀ j, j < E.length → b (k + j) = b' (k + j)) → fsel b k E a = fsel b' k E a
 | [], _, _, _ => rfl
 | e :: r, k, a, h => by
  rw [fsel, fsel]
  have h0 := h 0 (by simp)
  rw [Nat.add_zero] at h0
  rw [h0]
  exact fsel_congr r (k + 1) _ (fun j hj => by have := h (j + 1) (by simpa using hj); rwa [show k + (j + 1) = k + 1 + j by omega] at this)
theorem fsel_put {b : Nat → Bool} {d : Option Tmp} {v : Value} : ∀ (E : List (Option Tmp × Value)) (k : Nat) (a : Act), (∀ j e t, E[j]? = some e → b (k + j) = true → d = some t → e.1 ≠ some t) →
  (fsel b k E a).put d v = fsel b k E (a.put d v)
 | [], _, _, _ => rfl
 | e :: r, k, a, h => by
  rw [fsel, fsel, fsel_put r (k + 1) _ (fun j e' t he' hb => h (j + 1) e' t (by simpa using he') (by rwa [show k + (j + 1) = k + 1 + j by omega]))]
  by_cases hb : b k = true
  ·rw [if_pos hb, if_pos hb, Act.put_comm a e.2 v (fun t ht => fun hd => h 0 e t rfl (by simpa using hb) hd ht)]
  ·rw [if_neg hb, if_neg hb]
theorem fsel_up {b : Nat → Bool} {i : Nat} {d : Option Tmp} {v : Value} : ∀ (E : List (Option Tmp × Value)) (k m : Nat) (a : Act), i = k + m → E[m]? = some (d, v) → b i = false →
  (∀ j e t, m < j → E[j]? = some e → b (k + j) = true → d = some t → e.1 ≠ some t) → (fsel b k E a).put d v = fsel (up b i) k E a
 | [], _, _, _, _, h, _, _ => by cases h
 | e :: r, k, 0, a, hi, he, hb, h => by
  simp only [List.getElem?_cons_zero, Option.some.injEq] at he
  subst he
  have hik : i = k := hi
  subst hik
  rw [fsel, fsel, hb, up_self]
  simp only [Bool.false_eq_true, if_false, if_true]
  rw [fsel_put r (i + 1) a (fun j e' t he' hb' => h (j + 1) e' t (by omega) (by simpa using he') (by rwa [show i + (j + 1) = i + 1 + j by omega]))]
  exact fsel_congr r (i + 1) _ (fun j _ => (up_ne (by omega)).symm)
 | e :: r, k, m + 1, a, hi, he, hb, h => by
  rw [fsel, fsel, up_ne (show k ≠ i by omega)]
  exact fsel_up r (k + 1) m _ (by omega) (by simpa using he) hb (fun j e' t hj he' hb' => h (j + 1) e' t (by omega) (by simpa using he') (by rwa [show k + (j + 1) = k + 1 + j by omega]))
theorem fsel_none : ∀ (E : List (Option Tmp × Value)) (k : Nat) (a : Act), fsel (fun _ => false) k E a = a
 | [], _, _ => rfl
 | e :: r, k, a => by rw [fsel]; simpa using fsel_none r (k + 1) a
def fpre (E : List (Option Tmp × Value)) (i : Nat) (a : Act) : Act := fsel (fun j => decide (j < i)) 0 E a
theorem fsel_all : ∀ (E : List (Option Tmp × Value)) (k i : Nat) (a : Act), fsel (fun j => decide (j < k + i)) k E a = (E.take i).foldl (fun a e => a.put e.1 e.2) a
 | [], _, _, _ => by simp [fsel]
 | e :: r, k, 0, a => by
  rw [fsel]
  simp only [Nat.add_zero, Nat.lt_irrefl, decide_false, Bool.false_eq_true, if_false, List.take_zero, List.foldl_nil]
  have h := fsel_congr (b := fun j => decide (j < k)) (b' := fun _ => false) r (k + 1) a (fun j _ => by simp; omega)
  rw [h, fsel_none]
 | e :: r, k, i + 1, a => by
  rw [fsel]
  simp only [show k < k + (i + 1) by omega, decide_true, if_true, List.take_succ_cons, List.foldl_cons]
  rw [← fsel_all r (k + 1) i]
  exact fsel_congr r (k + 1) _ (fun j _ => by rw [show k + (i + 1) = k + 1 + i by omega])
theorem fpre_eq (E : List (Option Tmp × Value)) (i : Nat) (a : Act) : fpre E i a = (E.take i).foldl (fun a e => a.put e.1 e.2) a := by
 have := fsel_all E 0 i a
 simpa [fpre] using this
theorem chain_vals {R : Act → Prop} : ∀ (l : List Oper) (A : Act), Chain P ops S R l A → ∃ vs : List Value, vs.length = l.length ∧
  (∀ i o v, l[i]? = some o → vs[i]? = some v → StepGood P ops S o (((l.map Oper.dst).zip vs).take i |>.foldl (fun a e => a.put e.1 e.2) A) v) ∧ R (((l.map Oper.dst).zip vs).foldl (fun a e => a.put e.1 e.2) A)
 | [], A, h => ⟨[], rfl, fun i o v hi => by simp at hi, h⟩
 | o :: rest, A, ⟨v, hg, hr⟩ => by
  obtain ⟨vs, hl, hs, hR⟩ := chain_vals rest _ hr
  refine ⟨v :: vs, by simp [hl], fun i o' v' hi hv => ?_, by simpa using hR⟩
  cases i with
  | zero =>
   simp only [List.getElem?_cons_zero, Option.some.injEq] at hi hv
   subst hi
   subst hv
   simpa using hg
  | succ i =>
   simp only [List.getElem?_cons_succ] at hi hv
   simpa using hs i o' v' hi hv
def detOk (ops : Array Oper) (B : List Nat) : Bool :=
 (List.range ops.size).all fun i => (List.range ops.size).all fun j =>
  match ops[i]?, ops[j]? with
  | some oi, some oj => decide (i ≤ j) || oi.apart ops oj || (B.getD i 0).testBit j
  | _, _ => false
def drawnOk (ops : Array Oper) (B : List Nat) : Bool :=
 waitsOk (rtab .any ops).2 B && baseOk (rtab .any ops).2 (List.range ops.size) && detOk ops B && Region.noSelect ops
theorem apart_symm {x y : Oper} (h : x.apart ops y = true) : ∀ d, (x.dst = some d → d ∉ y.looksAt ops ∧ y.dst ≠ some d) ∧ (y.dst = some d → d ∉ x.looksAt ops ∧ x.dst ≠ some d) := by
 obtain ⟨h1, h2, h3⟩ := Oper.apart_spec h
 exact fun d => ⟨fun hd => ⟨h1 d hd, h2 d hd⟩, fun hd => ⟨h3 d hd, fun hx => h2 d hx hd⟩⟩
theorem step_at {o : Oper} {A a : Act} {v : Value} {w : World} {K : Act → World → Prop} {Q : Exit → Act → World → Prop} (hx : execOp a.eval o = execOp A.eval o) (hz : a.tmps.size = A.tmps.size)
  (h : wpList P #[] (StepQ A o.dst v S) [{ o with guard := none }] A w) (hK : ∀ w', S w' → K (a.put o.dst v) w') : Oper.wp P o a w K Q := by
 have hput : ∀ u, A.put o.dst u = A.put o.dst v → a.put o.dst u = a.put o.dst v := by
  intro u hu
  cases hd : o.dst with
  | none => rfl
  | some t =>
   rw [hd] at hu
   by_cases ht : t < A.tmps.size
   ·have h1 := put_get A (some t) u t
    have h2 := put_get A (some t) v t
    rw [hu, h2] at h1
    simp only [if_pos ht, if_true, Option.some.injEq] at h1
    rw [h1]
   ·have h3 : ∀ z, a.put (some t) z = a := fun z => by
     simp only [Act.put]
     have hle : a.tmps.size ≤ t := by rw [hz]; exact Nat.le_of_not_lt ht
     rw [Array.setIfInBounds_eq_of_size_le hle]
    rw [h3, h3]
 have hlet : ¬ LetsOut (StepQ A o.dst v S) := fun ⟨_, _, h⟩ => h
 simp only [wpList, Region.wanted, if_true] at h
 rcases h with h | ⟨_, h⟩
 case inr => exact absurd h hlet
 unfold Oper.wp at *
 have hx' : execOp A.eval { o with guard := none } = execOp a.eval o := hx.symm
 rw [hx'] at h
 generalize (execOp a.eval o).run P w = r at *
 cases r with
 | ok n w' =>
  cases n <;> simp only [Oper.upon] at h ⊢
  case value u => obtain ⟨h1, h2⟩ := h; rw [hput u h1]; exact hK _ h2
  case skip => obtain ⟨h1, h2⟩ := h; rw [hput _ h1]; exact hK _ h2
  case defer d =>
   obtain ⟨h1, _⟩ := h
   have h3 := congrArg Act.defers h1
   have h4 : ∀ (x : Act) (d' : Option Tmp) (u : Value), (x.put d' u).defers = x.defers := fun x d' u => by cases d' <;> rfl
   rw [h4, h4] at h3
   exact absurd h3 (by simp)
  case enter f args =>
   refine Calls.mono h fun e w'' he => ?_
   cases e with
   | returned u => obtain ⟨h1, h2⟩ := he; show K (a.put o.dst u) w''; rw [hput u h1]; exact hK _ h2
   | panicked c => exact he.elim
   | outgrown => exact absurd he hlet
  case row row args => exact Rows.mono h fun u w'' he => by obtain ⟨h1, h2⟩ := he; rw [hput u h1]; exact hK _ h2
 | halt x w' =>
  cases x <;> simp only [Oper.upon] at h ⊢
  exact h.elim
theorem drawn {id : Nat} {a : Act} {w : World} {Q : Exit → Act → World → Prop} (B : List Nat) (hm : P.follows .mixedOrders = true) (hok : drawnOk ops B = true) (hS : S w.drew)
  (h : Chain P ops S (fun A => ∀ w', S w' → Q .normal A w') ops.toList a) : (Code.region id ops true).wp P Q a w := by
 simp only [drawnOk, Bool.and_eq_true] at hok
 obtain ⟨⟨⟨hw, hk⟩, hdet⟩, hsel⟩ := hok
 obtain ⟨vs, hvl, hst, hR⟩ := chain_vals _ _ h
 have hE : ∀ (i : Nat) (o : Oper), ops[i]? = some o → ∃ v, vs[i]? = some v ∧ ((ops.toList.map Oper.dst).zip vs)[i]? = some (Oper.dst o, v) := by
  intro i o ho
  have hi : i < ops.size := (Array.getElem?_eq_some_iff.1 ho).1
  have hv : i < vs.length := by rw [hvl]; simpa using hi
  have hoi : ops[i] = o := (Array.getElem?_eq_some_iff.1 ho).2
  refine ⟨vs[i], List.getElem?_eq_getElem hv, ?_⟩
  rw [List.getElem?_zip_eq_some]
  exact ⟨by simp [ho], List.getElem?_eq_getElem hv⟩
 have hEd : ∀ (j : Nat) (e : Option Tmp × Value), ((ops.toList.map Oper.dst).zip vs)[j]? = some e → ∃ o : Oper, ops[j]? = some o ∧ e.1 = o.dst := by
  intro j e he
  have h1 := (List.getElem?_zip_eq_some.1 he).1
  rw [List.getElem?_map, Option.map_eq_some_iff] at h1
  obtain ⟨o, ho, hd⟩ := h1
  exact ⟨o, by simpa using ho, hd.symm⟩
 obtain ⟨E, hEE⟩ : ∃ E, E = (ops.toList.map Oper.dst).zip vs := ⟨_, rfl⟩
 rw [← hEE] at hE hEd hst hR
 have hEl : E.length = ops.size := by rw [hEE]; simp [hvl]
 have hdet' : ∀ i j oi oj, ops[i]? = some oi → ops[j]? = some oj → j < i → oi.apart ops oj = true ∨ (B.getD i 0).testBit j = true := by
  intro i j oi oj hi hj hlt
  have hi' : i < ops.size := (Array.getElem?_eq_some_iff.1 hi).1
  have hj' : j < ops.size := (Array.getElem?_eq_some_iff.1 hj).1
  have h1 := List.all_eq_true.1 (List.all_eq_true.1 hdet i (List.mem_range.2 hi')) j (List.mem_range.2 hj')
  rw [hi, hj] at h1
  simp only [Bool.or_eq_true, decide_eq_true_eq] at h1
  rcases h1 with (h1 | h1) | h1
  ·omega
  ·exact .inl h1
  ·exact .inr h1
 have hlen : (rtab Region.Mode.any ops).2.length = ops.size := by simp [rtab]
 refine start_ (n := ops.size) (S := fun _ => True) (ds := []) (Array.replicate ops.size false) hm rfl rfl trivial (fun _ => ?_)
 refine inv_ (T := rtab .any ops) (B := B) (List.range ops.size) (fun b a' w' => a' = fsel b 0 E a ∧ S w') rfl hw hk ?_ ⟨(fsel_none E 0 a).symm, hS⟩ ?_ ?_
 ·rw [hlen]
  simp only [List.length_range, beq_self_eq_true, Bool.and_true, beq_iff_eq]
  apply List.ext_getElem
  ·simp [lof]
  ·intro i h1 h2
   simp only [lof, List.getElem_map, List.getElem_range, Array.toList_replicate, List.getElem_replicate]
   rw [if_pos]
   simpa [lof] using h1
 ·intro i hi b a' w' hI hb hon hoff
  obtain ⟨rfl, hSw⟩ := hI
  have hi' : i < ops.size := List.mem_range.1 hi
  have ho : ops[i]? = some ops[i] := Array.getElem?_eq_getElem hi'
  obtain ⟨v, hv, hev⟩ := hE i _ ho
  have hgood := hst i ops[i] v (by simp [hi']) hv
  rw [← fpre_eq] at hgood
  have hmem : ∀ j, j < ops.size → (List.range ops.size).contains j = true := fun j hj => by simp [hj]
  -- what the operation sees
  have hsee : ∀ t, (t ∈ ops[i].looksAt ops) → (fsel b 0 E a).tmps[t]? = (fpre E i a).tmps[t]? := by
   intro t ht
   refine fsel_slot E 0 a a rfl rfl (fun j e he het => ?_)
   obtain ⟨oj, hj, hd⟩ := hEd j e he
   have hj' : j < ops.size := (Array.getElem?_eq_some_iff.1 hj).1
   rw [hd] at het
   simp only [Nat.zero_add]
   by_cases hlt : j < i
   ·rw [decide_eq_true hlt]
    rcases hdet' i j _ _ ho hj hlt with hap | hbit
    ·exact absurd ht ((apart_symm hap t).2 het).1
    ·exact hon j (by rw [hmem j hj', hbit]; rfl)
   ·rw [decide_eq_false hlt]
    by_cases hji : j = i
    ·rw [hji, hb]
    ·rcases hdet' j i _ _ hj ho (by omega) with hap | hbit
     ·exact absurd ht ((apart_symm hap t).1 het).1
     ·exact hoff j (by rw [hmem j hj', hbit]; rfl)
  have hev2 : execOp (fsel b 0 E a).eval ops[i] = execOp (fpre E i a).eval ops[i] := by
   refine execOp_congr _ (fun cs bb => Region.noSelect_spec hsel i _ cs bb ho) (fun x hx => ?_)
   cases x with
   | tmp t =>
    have h1 := hsee t (List.mem_append_left _ (List.mem_filterMap.2 ⟨.tmp t, by simpa using hx, rfl⟩))
    simp only [Act.eval, Array.getD_eq_getD_getElem?, h1]
   | const => rfl
   | global => rfl
   | func => rfl
  have hwant : Region.wanted ops[i] (yielded ops (fsel b 0 E a).tmps) = Region.wanted ops[i] (yielded ops (fpre E i a).tmps) := by
   unfold Region.wanted
   cases hg : ops[i].guard with
   | none => rfl
   | some gw =>
    obtain ⟨g, want⟩ := gw
    have hy : yielded ops (fsel b 0 E a).tmps g = yielded ops (fpre E i a).tmps g := by
     unfold yielded
     cases ht : (ops[g]?).bind Oper.dst with
     | none => rfl
     | some t =>
      have h1 := hsee t (List.mem_append_right _ (by rw [hg]; simp only [ht]; simp))
      simp only [Option.bind_some, h1]
    simp only [hy]
  have hput : (fsel b 0 E a).put ops[i].dst v = fsel (up b i) 0 E a := by
   refine fsel_up E 0 i a (by omega) hev hb (fun j e t hj he hbj hd => ?_)
   obtain ⟨oj, hjo, hde⟩ := hEd j e he
   have hj' : j < ops.size := (Array.getElem?_eq_some_iff.1 hjo).1
   rw [hde]
   rcases hdet' j i _ _ hjo ho hj with hap | hbit
   ·exact ((apart_symm hap t).2 hd).2
   ·have := hoff j (by rw [hmem j hj', hbit]; rfl)
    rw [Nat.zero_add, this] at hbj
    cases hbj
  refine ⟨ops[i], ho, fun K hK => ?_⟩
  rw [hwant]
  rcases hgood with ⟨hw1, hstep⟩ | ⟨hw1, rfl⟩
  ·rw [if_pos hw1]
   exact step_at hev2 (by rw [fsel_size, fpre, fsel_size]) (hstep w' hSw) (fun w2 hw2 => hK.out _ _ ⟨hput, hw2⟩)
  ·rw [if_neg (by rw [hw1]; decide)]
   exact hK.out _ _ ⟨hput, hSw⟩
 ·rintro b a' w' hall ⟨rfl, hSw⟩
  have : fsel b 0 E a = E.foldl (fun a e => a.put e.1 e.2) a := by
   have h1 := fpre_eq E E.length a
   rw [List.take_length] at h1
   rw [← h1, fpre]
   refine fsel_congr E 0 a (fun j hj => ?_)
   rw [Nat.zero_add, decide_eq_true hj]
   exact hall j (by simp; omega)
  rw [this]
  exact hR w' hSw
variable {ds : List (Option Tmp)}
end
end Go.Proofs.Ytfkkeddjfiljfaa
namespace Go.Proofs.YtfkkeddjfiljfaaW.PrintWords
open Go.RowKit
namespace Kd
def tag {α : Type} (f : Nat → Nat) (d : Kd α) : Kd (α × Nat) where
 sz := d.sz
 E := d.E
 K := fun w x cs => d.K w x.1 cs
 M := fun w base ok x cs => d.M w base (fun k => ok k ∧ f k = x.2) x.1 cs
 K_len := fun h => d.K_len h
 K_one := fun h => d.K_one h
 K_below := fun hb h => d.K_below hb h
 K_of_M := fun h => d.K_of_M h
 M_mono := fun hok h => d.M_mono (fun k hk => ⟨hok k hk.1, hk.2⟩) h
 M_bound := fun h => d.M_mono (fun _ hk => ⟨⟨hk.1.1, hk.2⟩, hk.1.2⟩) (d.M_bound h)
 M_move := fun hm h => d.M_move (fun k hk => hm k hk.1) h
 M_lower := fun hb h => d.M_lower hb h
def raw (sz : Nat) : Kd (List Value) where
 sz := sz
 E := []
 K := fun _ x cs => cs = x ∧ cs.length = sz ∧ ∀ u ∈ cs, u.oneCell' = true
 M := fun _ _ _ x cs => cs = x ∧ cs.length = sz ∧ ∀ u ∈ cs, u.oneCell' = true
 K_len := fun h => h.2.1
 K_one := fun h => h.2.2
 K_below := fun _ h => h
 K_of_M := fun h => h
 M_mono := fun _ h => h
 M_bound := fun h => h
 M_move := fun _ h => h
 M_lower := fun _ h => h
def S {α : Type} (d : Kd α) (e : Nat) (w : World) (base : Nat) (ok : Nat → Prop) (v : Value) (xs : List α) : Prop := ∃ f, (tag f d).R e w base ok v xs.zipIdx
section
variable {α β : Type} {d : Kd α} {d' : Kd β} {e e' : Nat} {w w1 W : World} {base b : Nat} {ok ok' okv oku : Nat → Prop} {u v : Value} {xs : List α} {ys : List β}
theorem S_nil (d : Kd α) (e : Nat) (w : World) (base : Nat) (ok : Nat → Prop) : S d e w base ok (.slice none 0 0) [] := ⟨fun _ => 0, R_nil _ _ _ _ _⟩
end
end Kd
open Go.RowKit
section
variable {P : Program} {ops : Array Oper} {rest : List Oper} {o : Oper} {a : Act} {Q : Exit → Act → World → Prop} {W : World}
theorem gate_guard (hw : Region.wanted o (yielded ops a.tmps) = true) (h : wpList P ops Q ({ o with guard := none } :: rest) a W) : wpList P ops Q (o :: rest) a W := by
 have h1 : Region.wanted { o with guard := none } (yielded ops a.tmps) = true := rfl
 unfold wpList at h ⊢
 rw [if_pos h1] at h
 rw [if_pos hw]
 exact h
end
open Go.RowKit
def Foot (P : World → Prop) (W : World) (ok : Nat → Prop) : Prop := ∀ W' : World, (∀ k, ok k → k < W.heap.size → W'.heap[k]? = W.heap[k]?) → P W'
namespace Foot
variable {P Q : World → Prop} {W W1 : World} {ok ok' : Nat → Prop}
end Foot
namespace Kd
def F {α : Type} (d : Kd α) (W : World) (ok : Nat → Prop) (A : Option Addr) (n : Nat) (xs : List α) : Prop := Foot (fun W => d.C W A n xs) W ok
def FK {α : Type} (d : Kd α) (W : World) (ok : Nat → Prop) (x : α) (c : List Value) : Prop := Foot (fun W => d.K W x c) W ok
section
variable {α β : Type} {d : Kd α} {e base n n' cc g N : Nat} {ok ok' okp S : Nat → Prop} {w w0 w1 W W1 : World} {A A' : Option Addr} {u v v1 : Value} {xs : List α} {xs' : List β} {d' : Kd β} {x : α} {c : List Value}
theorem F_nil (d : Kd α) (W : World) (ok : Nat → Prop) : F d W ok none ([] : List α).length [] := fun W' _ => C_nil d W'
theorem FK_of_M (h : d.M W base ok x c) : FK d W ok x c := fun _ hW => d.K_of_M (M_step h hW)
end
end Kd
open Go.RowKit
namespace Kd
def chunks (sz : Nat) (n : Nat) (inner : List Value) : List (List Value) := (List.range n).map fun j => (inner.drop (j * sz)).take sz
theorem chunks_length (sz n : Nat) (inner : List Value) : (chunks sz n inner).length = n := by simp [chunks]
theorem chunks_at {sz n : Nat} {inner : List Value} {j : Nat} (hj : j < n) : (chunks sz n inner)[j]? = some ((inner.drop (j * sz)).take sz) := by simp [chunks, hj]
theorem chunks_get {sz n : Nat} {inner : List Value} {j : Nat} {c : List Value} (h : (chunks sz n inner)[j]? = some c) : c = (inner.drop (j * sz)).take sz := by
 have hj : j < n := by have := (List.getElem?_eq_some_iff.1 h).1; rwa [chunks_length] at this
 rw [chunks_at hj] at h
 injection h with h
 exact h.symm
theorem reps_raw {α : Type} {Rr : α → List Value → Prop} {sz : Nat} {xs : List α} {inner : List Value} (h : Reps Rr sz xs inner) (hR : ∀ x c, Rr x c → c.length = sz ∧ ∀ u ∈ c, u.oneCell' = true) : Reps (fun x cs => cs = x ∧ cs.length = sz ∧ ∀ u ∈ cs, u.oneCell' = true) sz (chunks sz xs.length inner) inner := by
 refine ⟨by rw [chunks_length]; exact h.1, fun j p hj => ?_⟩
 have hjl : j < xs.length := by have := (List.getElem?_eq_some_iff.1 hj).1; rwa [chunks_length] at this
 have hp := chunks_get hj
 exact ⟨hp.symm, hR _ _ (h.2 j _ (List.getElem?_eq_getElem hjl))⟩
section
variable {α : Type} {d : Kd α} {e base n cc g : Nat} {ok ok' okp S : Nat → Prop} {w w1 W W1 : World} {A : Option Addr} {u v v1 : Value} {xs : List α} {x : α} {c : List Value}
def N {α : Type} (d : Kd α) (e : Nat) (w : World) (base : Nat) (ok : Nat → Prop) (v : Value) (xs : List α) : Prop :=
 (∀ k, v.ownBlock = some k → ok k) ∧ ∃ rows : List (List Value), rows.length = xs.length ∧ (raw d.sz).R e w base (fun k => some k = v.ownBlock) v rows ∧ ∀ (j : Nat) (x : α) (c : List Value), xs[j]? = some x → rows[j]? = some c → FK d w (fun k => ok k ∧ some k ≠ v.ownBlock) x c
theorem R_N (h : d.R e w base ok v xs) : N d e w base ok v xs := by
 obtain ⟨h0, inner, ho, hr⟩ := h
 refine ⟨h0, chunks d.sz xs.length inner, chunks_length _ _ _, ⟨fun k hk => hk.symm, inner, by rw [chunks_length]; exact ho, reps_raw hr (fun x c hp => ⟨d.K_len (d.K_of_M hp), d.K_one (d.K_of_M hp)⟩)⟩, fun j x c hx hc => ?_⟩
 rw [chunks_get hc]
 exact FK_of_M (hr.2 j x hx)
theorem N_nil (d : Kd α) (e : Nat) (w : World) (base : Nat) (ok : Nat → Prop) : N d e w base ok (.slice none 0 0) [] := R_N (R_nil _ _ _ _ _)
end
end Kd
end Go.Proofs.YtfkkeddjfiljfaaW.PrintWords
namespace Go.Proofs.YtfkkeddjfiljfaaW.PrintMore
open Go.RowKit Go.Proofs.YtfkkeddjfiljfaaW.PrintWords
namespace Kd
open Go.Proofs.YtfkkeddjfiljfaaW.PrintWords.Kd
open Go.Proofs.YtfkkeddjfiljfaaW.PrintWords.Kd
end Kd
theorem max2_int (k k' : IntKind) (x y : Int) : Builtin.max2 (.int k x) (.int k' y) = pure (.int k (if x < y then y else x)) := by simp only [Builtin.max2, gt_iff_lt]
theorem min2_int (k k' : IntKind) (x y : Int) : Builtin.min2 (.int k x) (.int k' y) = pure (.int k (if y < x then y else x)) := by simp only [Builtin.min2]
theorem max_two (ats : Array TypeId) (ty : TypeId) (a b : Value) : Builtin.max_ ats ty #[a, b] = (Builtin.max2 a b >>= fun s => pure s) := by simp only [Builtin.max_, List.foldlM_cons, List.foldlM_nil]
theorem min_two (ats : Array TypeId) (ty : TypeId) (a b : Value) : Builtin.min_ ats ty #[a, b] = (Builtin.min2 a b >>= fun s => pure s) := by simp only [Builtin.min_, List.foldlM_cons, List.foldlM_nil]
theorem max_three (ats : Array TypeId) (ty : TypeId) (a b c : Value) : Builtin.max_ ats ty #[a, b, c] = (Builtin.max2 a b >>= fun s => Builtin.max2 s c >>= fun s => pure s) := by simp only [Builtin.max_, List.foldlM_cons, List.foldlM_nil]
theorem min_three (ats : Array TypeId) (ty : TypeId) (a b c : Value) : Builtin.min_ ats ty #[a, b, c] = (Builtin.min2 a b >>= fun s => Builtin.min2 s c >>= fun s => pure s) := by simp only [Builtin.min_, List.foldlM_cons, List.foldlM_nil]
theorem max_four (ats : Array TypeId) (ty : TypeId) (a b c d : Value) : Builtin.max_ ats ty #[a, b, c, d] = (Builtin.max2 a b >>= fun s => Builtin.max2 s c >>= fun s => Builtin.max2 s d >>= fun s => pure s) := by simp only [Builtin.max_, List.foldlM_cons, List.foldlM_nil]
theorem min_four (ats : Array TypeId) (ty : TypeId) (a b c d : Value) : Builtin.min_ ats ty #[a, b, c, d] = (Builtin.min2 a b >>= fun s => Builtin.min2 s c >>= fun s => Builtin.min2 s d >>= fun s => pure s) := by simp only [Builtin.min_, List.foldlM_cons, List.foldlM_nil]
end Go.Proofs.YtfkkeddjfiljfaaW.PrintMore
namespace Go.Proofs.YtfkkeddjfiljfaaW.PrintWords
open Go.RowKit
section
variable {P : Program} {ops : Array Oper} {rest : List Oper} {o : Oper} {a : Act} {Q : Exit → Act → World → Prop} {W : World}
theorem gate_callee {f : FuncId} {as : Array Operand} {ts : Array TypeId} (_ho : o.op = .call { callee := .value (.func f), args := as, argTypes := ts }) (h : wpList P ops Q (o :: rest) a W) : wpList P ops Q (o :: rest) a W := h
theorem gate_builtin {b : Builtin} {xs : Array Operand} {ts : Array TypeId} (_ho : o.op = .call { callee := .builtin b, args := xs, argTypes := ts }) (h : wpList P ops Q (o :: rest) a W) : wpList P ops Q (o :: rest) a W := h
end
def mx (a b : Int) : Int := if a < b then b else a
namespace Kd
end Kd
open Go.RowKit
namespace Kd
def V {α : Type} (d : Kd α) (_e : Nat) (W : World) (_base : Nat) (ok : Nat → Prop) (v : Value) (xs : List α) : Prop := ∃ A c, v = .slice A xs.length c ∧ xs.length ≤ c ∧ F d W ok A xs.length xs
section
variable {α β : Type} {d : Kd α} {e base base' n m c g N' lo hi : Nat} {ok ok' S : Nat → Prop} {w W w1 : World} {A : Option Addr} {ad : Addr} {u v v1 : Value} {xs : List α}
theorem V_nil (d : Kd α) (e : Nat) (W : World) (base : Nat) (ok : Nat → Prop) : V d e W base ok (.slice none 0 0) [] := ⟨none, 0, rfl, Nat.le_refl _, F_nil d W ok⟩
end
end Kd
theorem Reps.one {α : Type} {R : α → List Value → Prop} {ps : List α} {cs : List Value} {p : α} {v : Value} (hp : R p [v]) (h : Reps R 1 ps cs) : Reps R 1 (p :: ps) (v :: cs) := by
 refine ⟨by simp [h.1], fun j q hq => ?_⟩
 cases j with
 | zero =>
  simp only [List.getElem?_cons_zero, Option.some.injEq] at hq
  subst hq
  simpa using hp
 | succ j =>
  simp only [List.getElem?_cons_succ] at hq
  have h1 := h.2 j q hq
  simpa [Nat.mul_one] using h1
end Go.Proofs.YtfkkeddjfiljfaaW.PrintWords

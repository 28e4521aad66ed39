/-
  'gauger's law ArkExact holds of every input: it returns true, and each argument reads behind the call as it read before.
  This text: part 19 of 19 of the proof (AxX, AxY, LawArkExact).
-/
import Derived.Test.YtfkkeddjfiljfaaMar
import Derived.Test.YtfkkeddjfiljfaaMai
import Derived.Test.YtfkkeddjfiljfaaMan
import Derived.Test.YtfkkeddjfiljfaaRows
import Derived.SizedLaws
import Derived.ChangeSlices
import Derived.WalkKit
import Derived.ProofKit
import Derived.OpenShut
import Derived.ShutString
import Derived.ChangeOld
import Derived.Below
import Derived.Lib.SmallJoins
set_option linter.unusedVariables false
set_option linter.unusedSimpArgs false
set_option maxRecDepth 100000
namespace Go.Proofs.Ytfkkeddjfiljfaa.AM.Ax
open Go Go.RowKit Go.Shelf Go.Proofs.YtfkkeddjfiljfaaW.PrintWords Go.Proofs.Ytfkkeddjfiljfaa.PArk
abbrev inN (v : Val) : Prop := -9223372036854775808 ≤ v.2.1 ∧ v.2.1 ≤ 9223372036854775807
theorem numF_step (u : Int) (b : UInt8) (h0 : 0 ≤ u) (h1 : u < 72057594037927936) : numF u b = u * 256 + b.toNat := by
 have := b.toNat_lt
 unfold numF
 rw [IntKind.wrap_u64, IntKind.wrap_u64, IntKind.wrap_u64]
 omega
theorem byte_nat (x : Int) (h0 : 0 ≤ x) (h1 : x < 256) : ((UInt8.ofNat x.toNat).toNat : Int) = x := by
 rw [UInt8.toNat_ofNat']
 omega
theorem fold8 (a1 a2 a3 a4 a5 a6 a7 a8 : UInt8) : [a1, a2, a3, a4, a5, a6, a7, a8].foldl numF 0 = (((((((a1.toNat * 256 + a2.toNat) * 256 + a3.toNat) * 256 + a4.toNat) * 256 + a5.toNat) * 256 + a6.toNat) * 256 + a7.toNat) * 256 + a8.toNat : Int) := by
 have q1 := a1.toNat_lt
 have q2 := a2.toNat_lt
 have q3 := a3.toNat_lt
 have q4 := a4.toNat_lt
 have q5 := a5.toNat_lt
 have q6 := a6.toNat_lt
 have q7 := a7.toNat_lt
 have q8 := a8.toNat_lt
 have s1 : numF 0 a1 = (a1.toNat : Int) := by rw [numF_step 0 a1 (by omega) (by omega)]; omega
 have s2 := numF_step (a1.toNat : Int) a2 (by omega) (by omega)
 generalize e2 : (a1.toNat * 256 + a2.toNat : Int) = w2 at s2
 have s3 := numF_step w2 a3 (by omega) (by omega)
 generalize e3 : (w2 * 256 + a3.toNat : Int) = w3 at s3
 have s4 := numF_step w3 a4 (by omega) (by omega)
 generalize e4 : (w3 * 256 + a4.toNat : Int) = w4 at s4
 have s5 := numF_step w4 a5 (by omega) (by omega)
 generalize e5 : (w4 * 256 + a5.toNat : Int) = w5 at s5
 have s6 := numF_step w5 a6 (by omega) (by omega)
 generalize e6 : (w5 * 256 + a6.toNat : Int) = w6 at s6
 have s7 := numF_step w6 a7 (by omega) (by omega)
 generalize e7 : (w6 * 256 + a7.toNat : Int) = w7 at s7
 have s8 := numF_step w7 a8 (by omega) (by omega)
 show numF (numF (numF (numF (numF (numF (numF (numF 0 a1) a2) a3) a4) a5) a6) a7) a8 = w7 * 256 + a8.toNat
 rw [s1, s2, s3, s4, s5, s6, s7, s8]
theorem fold_num (w : Int) (h0 : 0 ≤ w) (h1 : w < 18446744073709551616) : ((be8 w).map fun n => UInt8.ofNat n.toNat).foldl numF 0 = w := by
 rw [be8_list]
 simp only [List.map_cons, List.map_nil]
 rw [fold8]
 rw [byte_nat _ (by omega) (by omega), byte_nat _ (by omega) (by omega), byte_nat _ (by omega) (by omega), byte_nat _ (by omega) (by omega), byte_nat _ (by omega) (by omega), byte_nat _ (by omega) (by omega), byte_nat _ (by omega) (by omega), byte_nat _ (by omega) (by omega)]
 omega
theorem num_back (n : Int) (h0 : -9223372036854775808 ≤ n) (h1 : n ≤ 9223372036854775807) : numL ((be8 (word n)).map fun n => UInt8.ofNat n.toNat) = n := by
 unfold numL
 rw [fold_num _ (word_range n).1 (word_range n).2]
 have h := word_back n h0 h1
 have e : xor64 (word n) 9223372036854775808 = bits .xor .u64 (word n) 9223372036854775808 := rfl
 rw [e]
 rw [IntKind.wrap_i64]
 unfold wrap64 at h
 exact h
theorem parse9_num (L : List UInt8) (h : L.length = 8) : parse9 (1 :: L) = some (1, numL L, []) := by
 match L, h with
 | [b1, b2, b3, b4, b5, b6, b7, b8], _ => rw [parse9, if_pos rfl]
theorem parse9_code {v : Val} (hg : goodVal v = true) (hn : inN v) : parse9 (codeL v) = some v := by
 obtain ⟨k, n, s⟩ := v
 unfold codeL
 by_cases h1 : k = 1
 ·simp only [goodVal, if_pos h1] at hg
  rw [bytesEq_iff, decide_eq_true_eq] at hg
  subst hg
  rw [if_pos h1, ← codeNum_to, parse9_num _ (by rw [be8_list]; rfl), num_back n hn.1 hn.2, h1]
 ·simp only [goodVal, if_neg h1, Bool.and_eq_true, decide_eq_true_eq] at hg
  obtain ⟨rfl, rfl, h3⟩ := hg
  rw [if_neg h1]
  match s, h3 with
  | [], _ => rfl
  | [_], _ => rfl
  | [_, _], _ => rfl
  | [_, _, _], _ => rfl
  | [_, _, _, _], _ => rfl
  | [_, _, _, _, _], _ => rfl
  | [_, _, _, _, _, _], _ => rfl
  | [_, _, _, _, _, _, _], _ => rfl
  | _ :: _ :: _ :: _ :: _ :: _ :: _ :: _ :: _, h3 => simp only [List.length_cons] at h3; omega
theorem readL_code {v : Val} (hg : goodVal v = true) (hn : inN v) : readL (codeL v) = (v, true) := by
 unfold readL
 rw [parse9_code hg hn]
 simp
theorem readRowF_by : ∀ {r : List Val}, (∀ v ∈ r, goodVal v = true ∧ inN v) → readRowF r.length (rowBy r) = some r
 | [], _ => rfl
 | v :: r, h => by
  have hv := h v (by simp)
  have hl := codeL_len hv.1
  have e : rowBy (v :: r) = codeL v ++ rowBy r := rfl
  have e1 : (codeL v ++ rowBy r).take 9 = codeL v := by rw [← hl, List.take_left']; rfl
  have e2 : (codeL v ++ rowBy r).drop 9 = rowBy r := by rw [← hl, List.drop_left']; rfl
  rw [List.length_cons, readRowF, e, e1, e2, readL_code hv.1 hv.2, if_pos rfl, readRowF_by fun x hx => h x (by simp [hx])]
  rfl
theorem rowBy_len : ∀ {r : List Val}, (∀ v ∈ r, goodVal v = true) → (rowBy r).length = 9 * r.length
 | [], _ => rfl
 | v :: r, h => by
  have e : rowBy (v :: r) = codeL v ++ rowBy r := rfl
  rw [e, List.length_append, codeL_len (h v (by simp)), rowBy_len fun x hx => h x (by simp [hx]), List.length_cons]
  omega
theorem readRowL_by {r : List Val} (h4 : r.length ≤ 4) (h : ∀ v ∈ r, goodVal v = true ∧ inN v) : readRowL (rowBy r) = some r := by
 have hl := rowBy_len fun v hv => (h v hv).1
 unfold readRowL
 rw [if_pos (by omega), show (rowBy r).length / 9 = r.length by omega, readRowF_by h]
theorem rowsF_by {c : Nat} (hc : c ≤ 4) : ∀ {x : List (List Val)} {rest : List UInt8}, (∀ r ∈ x, r.length = c ∧ ∀ v ∈ r, goodVal v = true ∧ inN v) → rowsF c x.length (rowsBy x ++ rest) = some (x, rest)
 | [], rest, _ => rfl
 | r :: x, rest, h => by
  have hr := h r (by simp)
  have hl := rowBy_len fun v hv => (hr.2 v hv).1
  rw [hr.1] at hl
  have e : rowsBy (r :: x) ++ rest = rowBy r ++ (rowsBy x ++ rest) := by
   show rowBy r ++ rowsBy x ++ rest = _
   rw [List.append_assoc]
  have e1 : (rowBy r ++ (rowsBy x ++ rest)).take (9 * c) = rowBy r := by rw [← hl, List.take_left']; rfl
  have e2 : (rowBy r ++ (rowsBy x ++ rest)).drop (9 * c) = rowsBy x ++ rest := by rw [← hl, List.drop_left']; rfl
  rw [List.length_cons, rowsF, e, if_neg (by rw [List.length_append]; omega), e1, e2, readRowL_by (by omega) hr.2, rowsF_by hc fun y hy => h y (by simp [hy])]
  rfl
def fitL : List (List Int) → List (List (List Val)) → Prop
 | [], [] => True
 | c :: T, x :: X => (x.length ≤ 1000 ∧ ∀ r ∈ x, r.length = c.length ∧ ∀ v ∈ r, goodVal v = true) ∧ fitL T X
 | _, _ => False
theorem num2_by {n : Nat} (hn : n ≤ 1000) (L : List UInt8) : num2 (by2 (n : Int) ++ L) = n := by
 rw [← by2_to]
 show (UInt8.ofNat (n % 256)).toNat + (UInt8.ofNat (n / 256)).toNat * 256 = n
 rw [UInt8.toNat_ofNat', UInt8.toNat_ofNat']
 omega
theorem tabsF_by : ∀ {T : List (List Int)} {l : List (List (List Val))} {rest : List UInt8}, (∀ c ∈ T, c.length ≤ 4) → fitL T l → (∀ x ∈ l, ∀ r ∈ x, ∀ v ∈ r, inN v) → tabsF T (bodyBy l ++ rest) = some (l, rest)
 | [], [], rest, _, _, _ => rfl
 | c :: T, x :: l, rest, hc, h, hn => by
  have e : bodyBy (x :: l) ++ rest = by2 (x.length : Int) ++ (rowsBy x ++ (bodyBy l ++ rest)) := by
   show by2 (x.length : Int) ++ rowsBy x ++ bodyBy l ++ rest = _
   rw [List.append_assoc, List.append_assoc]
  have e2 : (by2 (x.length : Int) ++ (rowsBy x ++ (bodyBy l ++ rest))).drop 2 = rowsBy x ++ (bodyBy l ++ rest) := rfl
  have hlen : ¬ (by2 (x.length : Int) ++ (rowsBy x ++ (bodyBy l ++ rest))).length < 2 := by
   rw [List.length_append, show (by2 (x.length : Int)).length = 2 from rfl]; omega
  rw [tabsF, e, if_neg hlen, num2_by h.1.1, e2, rowsF_by (hc c (by simp)) fun r hr => ⟨(h.1.2 r hr).1, fun v hv => ⟨(h.1.2 r hr).2 v hv, hn x (by simp) r hr v hv⟩⟩]
  simp only
  rw [tabsF_by (fun y hy => hc y (by simp [hy])) h.2 fun y hy => hn y (by simp [hy])]
  rfl
 | [], _ :: _, _, _, h, _ => h.elim
 | _ :: _, [], _, _, h, _ => h.elim
theorem rowsB_all {T : List (List Int)} {t : Int} : ∀ {x : List (List Val)} {p : Option (List Val)}, rowsB T t p x = true → ∀ r ∈ x, fitsB T t r = true
 | [], p, h, r, hr => by cases hr
 | a :: x, p, h, r, hr => by
  have e : rowsB T t p (a :: x) = (fitsB T t a && (!badAfter p a && rowsB T t (some a) x)) := by cases p <;> rfl
  rw [e, Bool.and_eq_true, Bool.and_eq_true] at h
  rcases List.mem_cons.1 hr with rfl | hr
  ·exact h.1
  ·exact rowsB_all h.2.2 r hr
theorem tabs_fit {T : List (List Int)} : ∀ {l : List (List (List Val))} {t : Nat}, tabsB T (t : Int) l = true → t + l.length = T.length → rowsN l ≤ 1000 → fitL (T.drop t) l
 | [], t, h, hl, _ => by
  rw [List.drop_eq_nil_of_le (by simp at hl; omega)]
  trivial
 | x :: l, t, h, hl, hn => by
  rw [List.length_cons] at hl
  rw [rowsN_cons] at hn
  rw [tabsB, Bool.and_eq_true] at h
  have e1 := List.getElem?_eq_getElem (show t < T.length by omega)
  rw [List.drop_eq_getElem_cons (show t < T.length by omega)]
  generalize T[t] = c at e1
  refine ⟨⟨by omega, fun r hr => ?_⟩, tabs_fit (t := t + 1) (by rw [Int.natCast_succ]; exact h.2) (by omega) (by omega)⟩
  have hf := rowsB_all h.1 r hr
  have hg := fitsB_good hf
  rw [fitsB_at e1] at hf
  exact ⟨fitsRow_len hf, hg⟩
theorem goodT_fit {T : List (List Int)} {V : List Vw} {l : List (List (List Val))} (h : goodT T V l = true) : planOk T V = true ∧ fitL T l ∧ rowsN l ≤ 1000 ∧ l.length = T.length := by
 rw [goodT, Bool.and_eq_true, Bool.and_eq_true, decide_eq_true_eq, tabsG_is T l 0 0 (by decide), Bool.and_eq_true, decide_eq_true_eq] at h
 have hn : rowsN l ≤ 1000 := by omega
 refine ⟨h.1, ?_, hn, h.2.1⟩
 have := tabs_fit (t := 0) h.2.2.1 (by omega) hn
 rwa [List.drop_zero] at this
theorem open_by (b : List UInt8) : openL (b ++ tailL (crcSum b)) = (b, true) := by
 have ht : (tailL (crcSum b)).length = 4 := rfl
 have e0 : (b ++ tailL (crcSum b)).length - 4 = b.length := by rw [List.length_append, ht]; omega
 unfold openL
 rw [if_neg (by rw [List.length_append, ht]; omega), e0, List.take_left' rfl, List.drop_left' rfl, if_pos rfl]
theorem readT_by {T : List (List Int)} {V : List Vw} {l : List (List (List Val))} (h : goodT T V l = true) (hn : ∀ x ∈ l, ∀ r ∈ x, ∀ v ∈ r, inN v) : readT T V (bytesT l) = some l := by
 obtain ⟨hp, hf, _, _⟩ := goodT_fit h
 have ht := tabsF_by (rest := []) (fun c hc => ((planOk_all hp).2 c hc).2) hf hn
 rw [List.append_nil] at ht
 unfold readT
 have ho : openL (bytesT l) = (bodyBy l, true) := open_by (bodyBy l)
 rw [ho, if_pos rfl, if_pos hp, ht]
 simp [h]
theorem numL_in (L : List UInt8) : -9223372036854775808 ≤ numL L ∧ numL L ≤ 9223372036854775807 := by
 unfold numL
 rw [IntKind.wrap_i64]
 omega
theorem parse9_in {s : List UInt8} {v : Val} (h : parse9 s = some v) : inN v := by
 unfold parse9 at h
 split at h <;> first | (cases h; done) | skip
 split at h
 ·cases h
  exact numL_in _
 ·split at h
  ·split at h
   ·cases h
   ·cases h
    exact ⟨by show (-9223372036854775808 : Int) ≤ 0; decide, by show (0 : Int) ≤ 9223372036854775807; decide⟩
  ·cases h
theorem readL_in {s : List UInt8} (h : (readL s).2 = true) : inN (readL s).1 := by
 unfold readL at h ⊢
 split at h
 ·rename_i v hv
  split at h
  ·rename_i hc
   rw [if_pos hc]
   exact parse9_in hv
  ·cases h
 ·cases h
theorem readRowF_in : ∀ {n : Nat} {s : List UInt8} {l : List Val}, readRowF n s = some l → ∀ v ∈ l, inN v
 | 0, s, l, h, v, hv => by cases h; cases hv
 | n + 1, s, l, h, v, hv => by
  rw [readRowF] at h
  by_cases hr : (readL (s.take 9)).2 = true
  ·rw [if_pos hr, Option.map_eq_some_iff] at h
   obtain ⟨q, h1, rfl⟩ := h
   rcases List.mem_cons.1 hv with rfl | hv
   ·exact readL_in hr
   ·exact readRowF_in h1 v hv
  ·rw [if_neg hr] at h
   cases h
theorem readRowL_in {s : List UInt8} {l : List Val} (h : readRowL s = some l) : ∀ v ∈ l, inN v := by
 unfold readRowL at h
 split at h
 ·exact readRowF_in h
 ·cases h
theorem rowsF_in {c : Nat} : ∀ {n : Nat} {u : List UInt8} {rows : List (List Val)} {rest : List UInt8}, rowsF c n u = some (rows, rest) → ∀ r ∈ rows, ∀ v ∈ r, inN v
 | 0, u, rows, rest, h, r, hr => by cases h; cases hr
 | n + 1, u, rows, rest, h, r, hr => by
  rw [rowsF] at h
  split at h <;> first | (cases h; done) | skip
  split at h <;> first | (cases h; done) | skip
  rename_i r' hr'
  rw [Option.map_eq_some_iff] at h
  obtain ⟨⟨q, w⟩, h1, h2⟩ := h
  cases h2
  rcases List.mem_cons.1 hr with rfl | hr
  ·exact readRowL_in hr'
  ·exact rowsF_in h1 r hr
theorem tabsF_in : ∀ {T : List (List Int)} {u : List UInt8} {l : List (List (List Val))} {rest : List UInt8}, tabsF T u = some (l, rest) → ∀ x ∈ l, ∀ r ∈ x, ∀ v ∈ r, inN v
 | [], u, l, rest, h, x, hx => by cases h; cases hx
 | c :: T, u, l, rest, h, x, hx => by
  rw [tabsF] at h
  split at h <;> first | (cases h; done) | skip
  split at h <;> first | (cases h; done) | skip
  rename_i rows rest' hr
  rw [Option.map_eq_some_iff] at h
  obtain ⟨⟨q, w⟩, h1, h2⟩ := h
  cases h2
  rcases List.mem_cons.1 hx with rfl | hx
  ·exact rowsF_in hr
  ·exact tabsF_in h1 x hx
theorem readT_is {T : List (List Int)} {V : List Vw} {s : List UInt8} {l : List (List (List Val))} (h : readT T V s = some l) : goodT T V l = true ∧ bytesT l = s ∧ ∀ x ∈ l, ∀ r ∈ x, ∀ v ∈ r, inN v := by
 unfold readT at h
 by_cases ho : (openL s).2 = true
 case neg => rw [if_neg ho] at h; cases h
 rw [if_pos ho] at h
 by_cases hp : planOk T V = true
 case neg => rw [if_neg hp] at h; cases h
 rw [if_pos hp] at h
 split at h <;> first | (cases h; done) | skip
 rename_i l' rest ht
 by_cases hg : goodT T V l' = true
 case neg => rw [if_neg hg] at h; cases h
 rw [if_pos hg] at h
 by_cases hb : bytesT l' = s
 case neg => rw [if_neg hb] at h; cases h
 rw [if_pos hb] at h
 cases h
 exact ⟨hg, hb, tabsF_in ht⟩
theorem sumLen_to : ∀ l : List (List (List Val)), sumLen (toTabs l) = rowsN l
 | [] => rfl
 | x :: l => by
  have e : toTabs (x :: l) = (x.map fun r => r.map toV) :: toTabs l := rfl
  rw [e, sumLen_cons, rowsN_cons, sumLen_to l, List.length_map]
abbrev boundL (l : List (List (List Val))) : Prop := l.length ≤ 1000000 ∧ (∀ x ∈ l, x.length ≤ 1000000 ∧ ∀ r ∈ x, r.length ≤ 1000000) ∧ rowsN l ≤ 1000000000
theorem good_fitG {T : List (List Int)} {V : List Vw} {l : List (List (List Val))} (hb : boundL l) (h : goodT T V l = true) : Ev (fun k => ark_isGood.f k (T.map toT) (V.map toW) (toTabs l)) true ∧ okPlan (T.map toT) (V.map toW) = true ∧ fitG (T.map toT) (toTabs l) := by
 have h1 := isGood_to (T := T) (V := V) hb.2.1 hb.2.2
 rw [h] at h1
 obtain ⟨b, h2, h3⟩ := isGood_total (T.map toT) (V.map toW) (toTabs l) (fun x hx => by
  obtain ⟨y, hy, rfl⟩ := List.mem_map.1 hx
  refine ⟨by simpa using (hb.2.1 y hy).1, fun r hr => ?_⟩
  obtain ⟨p, hp, rfl⟩ := List.mem_map.1 hr
  simpa using (hb.2.1 y hy).2 p hp) (by rw [sumLen_to]; exact hb.2.2) (by simpa using hb.1)
 have := Ev.uniq h1 h2
 subst this
 exact ⟨h1, h3 rfl⟩
theorem pack_ev {T : List (List Int)} {V : List Vw} {l : List (List (List Val))} (hb : boundL l) : Ev (fun k => ark_Pack.f k (T.map toT) (V.map toW) (toTabs l)) (ofL (packT (T, V, l)).1, (packT (T, V, l)).2) := by
 cases h : goodT T V l with
 | true =>
  obtain ⟨g1, g2, g3⟩ := good_fitG hb h
  obtain ⟨x, p1, p2, p3⟩ := pack_good g1 g2 g3
  rw [body_to (goodT_good h)] at p2 p3
  have := Ev.uniq p2 (seal_to _ p3)
  subst this
  have e : packT (T, V, l) = (bytesT l, 0) := by simp [packT, h]
  rw [e]
  exact p1
 | false =>
  have h1 := isGood_to (T := T) (V := V) hb.2.1 hb.2.2
  rw [h] at h1
  have e : packT (T, V, l) = ([], 1) := by simp [packT, h]
  rw [e]
  exact pack_bad h1
def ofV (v : sVl) : Val := (v.f0, v.f1, v.f2.data.toList)
theorem toV_ofV (v : sVl) : toV (ofV v) = v := by
 obtain ⟨a, b, c⟩ := v
 unfold toV ofV
 rw [ofL_of]
theorem map_back {α β : Type} {f : α → β} {g : β → α} (h : ∀ b, f (g b) = b) : ∀ l : List β, (l.map g).map f = l
 | [] => rfl
 | b :: l => by rw [List.map_cons, List.map_cons, h, map_back h l]
abbrev ofTabs (l : List (List (List sVl))) : List (List (List Val)) := l.map fun x => x.map fun r => r.map ofV
theorem toTabs_of (l : List (List (List sVl))) : toTabs (ofTabs l) = l := map_back (map_back (map_back toV_ofV)) l
theorem unpack_ev {T : List (List Int)} {V : List Vw} {s : List UInt8} (hs : s.length ≤ 1000000) : Ev (fun k => ark_Unpack.f k (T.map toT) (V.map toW) (ofL s)) (toTabs (unpT (T, V, s)).1, (unpT (T, V, s)).2) := by
 cases hr : readT T V s with
 | some l =>
  have e : unpT (T, V, s) = (l, 0) := by simp [unpT, hr]
  rw [e]
  obtain ⟨hg, hbs, hin⟩ := readT_is hr
  have hfit := goodT_fit hg
  have hbd : boundL l := by
   have hp := planOk_all hfit.1
   obtain ⟨_, hf, hn, hl⟩ := hfit
   have hx : ∀ (T : List (List Int)) (l : List (List (List Val))), fitL T l → (∀ c ∈ T, c.length ≤ 4) → ∀ x ∈ l, x.length ≤ 1000 ∧ ∀ r ∈ x, r.length ≤ 4 := by
    intro T
    induction T with
    | nil => intro l h _ x hx; cases l with
     | nil => cases hx
     | cons => exact h.elim
    | cons c T ih => intro l h hc x hx; cases l with
     | nil => exact h.elim
     | cons y l =>
      rcases List.mem_cons.1 hx with rfl | hx
      ·exact ⟨h.1.1, fun r hr => by rw [(h.1.2 r hr).1]; exact hc c (by simp)⟩
      ·exact ih l h.2 (fun z hz => hc z (by simp [hz])) x hx
   have hx := hx T l hf (fun c hc => (hp.2 c hc).2)
   exact ⟨by omega, fun x hxx => ⟨by have := (hx x hxx).1; omega, fun r hr => by have := (hx x hxx).2 r hr; omega⟩, by omega⟩
  obtain ⟨g1, g2, g3⟩ := good_fitG hbd hg
  obtain ⟨x, p1, p2, p3⟩ := pack_good g1 g2 g3
  have p4 := p2
  rw [body_to (goodT_good hg)] at p4
  have hx := Ev.uniq p4 (seal_to _ (by rw [← body_to (goodT_good hg)]; exact p3))
  have hx' : x = ofL s := by rw [hx, ← hbs]; rfl
  rw [hx'] at p2
  refine unpack_fwd g1 g2 (fitG_fit _ _ g3 (fun t ht => ((okPlan_tabs g2).2 t ht).2) ?_) p3 p2
  intro y hy q hq v hv
  obtain ⟨y', hy', rfl⟩ := List.mem_map.1 hy
  obtain ⟨q', hq', rfl⟩ := List.mem_map.1 hq
  obtain ⟨v', hv', rfl⟩ := List.mem_map.1 hv
  exact hin y' hy' q' hq' v' hv'
 | none =>
  have e : unpT (T, V, s) = ([], 3) := by simp [unpT, hr]
  rw [e]
  obtain ⟨r, h1, h2⟩ := unpack_total' (T.map toT) (V.map toW) (ofL s) (by rw [ofL_size]; exact hs)
  rcases h2 with rfl | ⟨h2, h3, h4, h5⟩
  ·exact h1
  ·exfalso
   rw [← toTabs_of r.1] at h3
   have hb : boundL (ofTabs r.1) := by
    have h6 : ∀ x ∈ r.1, x.length ≤ 65535 := fun x hx => (h5 x hx).1
    have h7 := sumLen_le r.1 h6
    refine ⟨by simp; omega, fun x hx => ?_, ?_⟩
    ·obtain ⟨y, hy, rfl⟩ := List.mem_map.1 hx
     refine ⟨by have := h6 y hy; simp; omega, fun q hq => ?_⟩
     obtain ⟨p, hp, rfl⟩ := List.mem_map.1 hq
     have := ((h5 y hy).2 p hp).1
     simp
     omega
    ·rw [← sumLen_to, toTabs_of]
     omega
   have hp := pack_ev (T := T) (V := V) hb
   have he := Ev.uniq h3 hp
   cases hg : goodT T V (ofTabs r.1) with
   | false =>
    rw [show packT (T, V, ofTabs r.1) = ([], 1) by simp [packT, hg]] at he
    have := congrArg Prod.snd he
    simp at this
   | true =>
    rw [show packT (T, V, ofTabs r.1) = (bytesT (ofTabs r.1), 0) by simp [packT, hg]] at he
    have hbs : s = bytesT (ofTabs r.1) := ofL_inj (congrArg Prod.fst he)
    have hrt := readT_by hg (fun x hx q hq v hv => by
     obtain ⟨y, hy, rfl⟩ := List.mem_map.1 hx
     obtain ⟨p, hp, rfl⟩ := List.mem_map.1 hq
     obtain ⟨u, hu, rfl⟩ := List.mem_map.1 hv
     exact ((h5 y hy).2 p hp).2 u hu)
    rw [← hbs, hr] at hrt
    cases hrt
open Go Go.RowKit Go.Proofs.YtfkkeddjfiljfaaW.PrintWords Go.Proofs.Ytfkkeddjfiljfaa.PArk
theorem awake_ev : Ev (fun k => gaugerlaw35_awake.f k) true := Ev.of (fun k => gaugerlaw35_awake.mono k) (k := 40) (by kernel_rfl)
theorem awake_ok : GOk Try.prog 4 (pureG gAwake) := by
 refine pureG_known ⟨_, Try.func4, by kernel_rfl, by kernel_rfl⟩ fun args r hr _ => ?_
 unfold gAwake at hr
 split at hr <;> cases hr
 intro S w vals hS hL
 have hv : vals = #[] := by
  rw [← Array.toList_inj]
  exact hL.nil_r
 subst hv
 obtain ⟨k, hk⟩ := awake_ev.rounds
 refine Calls.mono (gaugerlaw35_awake.calls k true w hk) fun e' w' he => ?_
 obtain ⟨rfl, hb⟩ := he
 refine ⟨_, S, rfl, .bool, fun _ h => h, fun _ h => .inl h, fun b hb' => ?_, hb⟩
 have := hS b hb'
 have := hb.size
 omega
theorem great_ok : GOk Try.prog 5 (pureG (gOf okGr enG35 fun x => .bool (greatB x))) :=
 gOf_ok ⟨_, Try.func5, by kernel_rfl, by kernel_rfl⟩ fun a ha => by
  obtain ⟨⟨h', hc⟩, _⟩ := greatB_cl ha
  exact pureS_cl K7 hc (by kernel_rfl) rfl
theorem same_ok : GOk Try.prog 11 (pureG (gOf OkT enSame fun _ => .bool true)) :=
 gOf_ok ⟨_, Try.func11, by kernel_rfl, by kernel_rfl⟩ fun a ha => by
  obtain ⟨h', hc⟩ := same_cl ha
  exact pureS_cl K7 hc (by kernel_rfl) rfl
theorem rowsN_le {m : Nat} : ∀ l : List (List (List Val)), (∀ x ∈ l, x.length ≤ m) → rowsN l ≤ m * l.length
 | [], _ => by simp [rowsN]
 | x :: l, h => by
  have h1 := rowsN_le l fun y hy => h y (by simp [hy])
  have h2 := h x (by simp)
  rw [rowsN_cons, List.length_cons, Nat.mul_succ]
  omega
theorem bd_bound {l : List (List (List Val))} (h : Bd l) : boundL l := by
 have h1 := rowsN_le (m := 64) l fun x hx => by have := (h.2 x hx).1; omega
 have h2 := h.1
 exact ⟨by omega, fun x hx => ⟨by have := (h.2 x hx).1; omega, fun r hr => by have := ((h.2 x hx).2 r hr).1; omega⟩, by omega⟩
theorem pack_ok : GOk Try.prog 6 (pureG (gOf okPk enG35 fPk)) :=
 gOf_ok ⟨_, Try.func6, by kernel_rfl, by kernel_rfl⟩ fun a ha => pack_pure ha.1 ha.2.1 (pack_ev (bd_bound ha.2.2.1))
theorem unpack_ok : GOk Try.prog 9 (pureG (gOf okUn enUn fUn)) :=
 gOf_ok ⟨_, Try.func9, by kernel_rfl, by kernel_rfl⟩ fun a ha => unpack_pure ha.1 (unpack_ev (by have := ha.2; omega))
theorem read35_ok : GOk Try.prog 10 (pureG (gOf okUn enUn fRd)) :=
 gOf_ok ⟨_, Try.func10, by kernel_rfl, by kernel_rfl⟩ fun a ha => rd_pure ha.1 (by have := ha.2; omega)
theorem K8 : Known (gGet gam8) tree.get Try.prog := known_of (by kernel_rfl) ⟨awake_ok, great_ok, same_ok, pack_ok, unpack_ok, read35_ok, g35_ok, bytes_ok, row_ok, read_ok, tail_ok, code_ok, cmp_ok, fit_ok, g17_ok, good_ok, trivial⟩ all
abbrev w64 (n : Int) : Prop := -9223372036854775808 ≤ n ∧ n ≤ 9223372036854775807
theorem rI : ARd Try.prog 3 iV w64 := ard_mono (fun a h => by
 have h : (decide (IntKind.i64.min ≤ a) && decide (a ≤ IntKind.i64.max)) = true := h
 rw [Bool.and_eq_true, decide_eq_true_eq, decide_eq_true_eq] at h
 exact h) (ard_int Try.underlying3)
theorem rIs : ARd Try.prog 39 (fun c : List Int => AV.ro (c.map iV) 1 false) (fun c => c.length ≤ maxLen ∧ ∀ a ∈ c, w64 a) := ard_slice Try.underlying39 (by kernel_rfl) (by omega) rI
theorem ard_as {α β : Type} {P : Program} {T : TypeId} {en : α → AV} {en' : β → AV} {Q : α → Prop} {Q' : β → Prop} (hr : ARd P T en Q) (h : ∀ a, Q a → ∃ b, en' b = en a ∧ Q' b) : ARd P T en' Q' := by
 intro H enc w base spare held fuel cs x hx
 obtain ⟨a, h1, h2⟩ := hr hx
 obtain ⟨b, h3, h4⟩ := h a h2
 exact ⟨b, by rw [h3]; exact h1, h4⟩
theorem rTab : ARd Try.prog 41 tV (fun c => c.length ≤ maxLen) :=
 ard_as (ard_struct (sz := 1) (fun c : List Int => c) tV (fun c => rfl) Try.underlying41 (by kernel_rfl) (ardF_one (en := fun c : List Int => AV.ro (c.map iV) 1 false) (by kernel_rfl) (by kernel_rfl) rIs)) fun a h => ⟨a, rfl, by obtain ⟨b, rfl, h1, _⟩ := h; exact h1⟩
theorem rView : ARd Try.prog 44 wV (fun v => v.2.2.length ≤ maxLen) :=
 ard_as (ard_struct (sz := 3) (fun v : Vw => v) wV (fun v => rfl) Try.underlying44 (by kernel_rfl)
  (ardF_cons (sz := 1) (sz' := 2) (en := iV) (by kernel_rfl) (by kernel_rfl) rI (ardF_cons (sz := 1) (sz' := 1) (en := iV) (by kernel_rfl) (by kernel_rfl) rI (ardF_one (sz := 1) (en := fun c : List Int => AV.ro (c.map iV) 1 false) (by kernel_rfl) (by kernel_rfl) rIs)))) fun a h => ⟨a, rfl, by obtain ⟨b, rfl, _, _, h1, _⟩ := h; exact h1⟩
theorem rVal : ARd Try.prog 47 vV (fun v => inN v ∧ OkStr v) :=
 ard_as (ard_struct (sz := 3) (fun v : Val => v) vV (fun v => rfl) Try.underlying47 (by kernel_rfl)
  (ardF_cons (sz := 1) (sz' := 2) (en := iV) (by kernel_rfl) (by kernel_rfl) rI (ardF_cons (sz := 1) (sz' := 1) (en := iV) (by kernel_rfl) (by kernel_rfl) rI (ardF_one (sz := 1) (en := AV.str) (by kernel_rfl) (by kernel_rfl) (ard_string Try.underlying9))))) fun a h => ⟨a, rfl, by
   obtain ⟨b, rfl, _, h1, h2⟩ := h
   exact ⟨h1, by unfold OkStr; have : b.2.2.length ≤ maxLen := h2; simpa [maxLen] using this⟩⟩
theorem rTabs : ARd Try.prog 22 (fun T : List (List Int) => AV.ro (T.map tV) 1 false) (fun T => T.length ≤ maxLen ∧ ∀ c ∈ T, c.length ≤ maxLen) := ard_slice Try.underlying22 (by kernel_rfl) (by omega) rTab
theorem rViews : ARd Try.prog 23 vsV (fun V => V.length ≤ maxLen ∧ ∀ v ∈ V, v.2.2.length ≤ maxLen) := ard_slice Try.underlying23 (by kernel_rfl) (by omega) rView
theorem rPlan : ARd Try.prog 25 (fun p : List (List Int) × List Vw => pA p.1 (vsV p.2)) (fun p => OkP p.1 p.2) :=
 ard_as (ard_struct (sz := 2) (fun p : List (List Int) × List Vw => p) (fun p : List (List Int) × List Vw => pA p.1 (vsV p.2)) (fun p => rfl) Try.underlying25 (by kernel_rfl)
  (ardF_cons (sz := 1) (sz' := 1) (en := fun T : List (List Int) => AV.ro (T.map tV) 1 false) (by kernel_rfl) (by kernel_rfl) rTabs (ardF_one (sz := 1) (en := vsV) (by kernel_rfl) (by kernel_rfl) rViews))) fun a h => ⟨a, rfl, by
   obtain ⟨b, rfl, ⟨h1, h2⟩, h3, h4⟩ := h
   exact ⟨by simpa [maxLen] using h1, fun c hc => by simpa [maxLen] using h2 c hc, by simpa [maxLen] using h3, fun v hv => by simpa [maxLen] using h4 v hv⟩⟩
theorem rRow : ARd Try.prog 45 rV (fun r => r.length ≤ maxLen ∧ ∀ v ∈ r, inN v ∧ OkStr v) := ard_slice Try.underlying45 (by kernel_rfl) (by omega) rVal
theorem rRows : ARd Try.prog 42 bV (fun x => x.length ≤ maxLen ∧ ∀ r ∈ x, r.length ≤ maxLen ∧ ∀ v ∈ r, inN v ∧ OkStr v) := ard_slice Try.underlying42 (by kernel_rfl) (by omega) rRow
theorem rAll : ARd Try.prog 26 sV (fun l => OkT l ∧ OkN l) :=
 ard_mono (fun l h => by
  have h := h
  exact ⟨⟨by simpa [maxLen] using h.1, fun x hx => by simpa [maxLen] using (h.2 x hx).1, fun x hx r hr => by simpa [maxLen] using ((h.2 x hx).2 r hr).1, fun x hx r hr v hv => (((h.2 x hx).2 r hr).2 v hv).2⟩, fun x hx r hr v hv => (((h.2 x hx).2 r hr).2 v hv).1⟩) (ard_slice Try.underlying26 (by kernel_rfl) (by omega) rRows)
theorem law {p : List (List Int) × List Vw} {l : List (List (List Val))} {s : ByteArray} {w : World} {cs : Array Value} {A : Option Addr} {m c : Nat} (hp : LRel (Lies w) (fun _ => none) w (pA p.1 (vsV p.2)).cells (Value.agg cs).cells.toList) (okp : OkP p.1 p.2) (hl : LRel (Lies w) (fun _ => none) w (sV l).cells (Value.slice A m c).cells.toList) (okl : OkT l ∧ OkN l) (hs : s.size ≤ 140737488351232) :
  Calls Try.prog 3 #[.agg cs, .slice A m c, .string s] w fun e w' => e = .returned (.bool true) ∧ RowKit.Below w.heap.size w w' := by
 obtain ⟨h', n, hc⟩ := law_cl (s := s.data.toList) okp okl.1 okl.2 (by rw [Array.length_toList]; have : s.data.size = s.size := rfl; omega)
 exact law_true K8 (n := n) (by rw [hc]; rfl) (by kernel_rfl) (S := Lies w) (fun b hb => hb) (LRel.cons (ard_agg hp) (LRel.cons (ard_one hl rfl) (LRel.cons (.str rfl) LRel.nil)))
end Go.Proofs.Ytfkkeddjfiljfaa.AM.Ax
namespace Go.Proofs.Ytfkkeddjfiljfaa.arkExactR
open Go.ChangeShapes Go.WideShapes Go.ChangeAt Go.RowKit Go.Joins Go.Proofs.YtfkkeddjfiljfaaW.PrintWords
open Go.ChangeMaps (open_string shut_string)
theorem own : ownKnob Try.prog.godebug = none := by kernel_rfl
theorem laidOut : laidOutB Try.prog = true := by kernel_rfl
set_option maxRecDepth 100000 in
theorem lifted (os : Os) (started : os.Started) (H : Type) (enc : TypeId × Value → H) :
  ReturnsInHanded {} Try.checked os 3 .any (Rows.arkExactSpec.pre6 enc Try.prog Try.f3 Rows.arkExactRow.domain false) (Rows.arkExactSpec.post enc Try.prog Try.f3 false true false false) := by
 refine returnsInHanded_of_change_sized (C := Try.checked) own started (by kernel_rfl) Try.func3
  (ChangeSpec.witness6 (enc := enc) (C := Try.checked) false ⟨#[], #[.agg #[.slice none 0 0, .slice none 0 0], .slice none 0 0, .string ByteArray.empty], []⟩ 8 (by kernel_rfl) (by kernel_rfl) (by kernel_rfl) (by kernel_rfl)) ?_
 intro W base args ds gs before hval0 hW hcnd hsz0 _
 have hsz : (DataW.weightsEach Try.prog (Try.f3.params.toList ++ Rows.arkExactSpec.plain.varTypes Try.prog) (ds ++ gs)).all (· ≤ reachBytes) = true := hsz0
 have hval : ∀ (j : Nat) t v, Try.f3.params[j]? = some t → args[j]? = some v → Value.okWide Try.prog W .any base t v := hval0
 have hW' := hW
 obtain ⟨p, q, hA0, hV, rfl, hfz, hnd⟩ := hW
 have hA : DataW.TrodAll enc Try.prog W 0 (fun _ => true) true Try.f3.params.toList args.toList ds p := hA0
 rw [Try.params3] at hA hval hsz
 obtain ⟨v0, vs0, d0, ds0, p0, q0, hargs, rfl, rfl, h0, r0⟩ := trodAll_cons hA
 obtain ⟨v1, vs1, d1, ds1, p1, q1, rfl, rfl, rfl, h1, r1⟩ := trodAll_cons r0
 obtain ⟨v2, vs2, d2, ds2, p2, q2, rfl, rfl, rfl, h2, r2⟩ := trodAll_cons r1
 obtain ⟨rfl, rfl, rfl⟩ := trodAll_nil r2
 obtain rfl : args = #[v0, v1, v2] := by cases args; simp_all
 obtain ⟨rfl, rfl⟩ := trodVars_none hV
 obtain ⟨cs0, rfl, sz0⟩ := okWide_struct Try.underlying25 (hval 0 25 v0 rfl rfl)
 have k0 := h0
 have lt0 : ∀ x ∈ p0, x.block < W.heap.size := by obtain ⟨m, hm⟩ := k0; exact DataW.trod_lt m _ _ _ hm
 obtain ⟨z0, L0, Q0⟩ := AM.ard_arg AM.Ax.rPlan h0
 obtain ⟨a1, len1, cap1, rfl⟩ := okWide_slice Try.underlying26 (hval 1 26 v1 rfl rfl)
 have k1 := h1
 have lt1 : ∀ x ∈ p1, x.block < W.heap.size := by obtain ⟨m, hm⟩ := k1; exact DataW.trod_lt m _ _ _ hm
 obtain ⟨z1, L1, Q1⟩ := AM.ard_arg AM.Ax.rAll h1
 obtain ⟨a2, rfl, rfl, rfl, y2⟩ := open_string Try.underlying9 (hval 2 9 v2 rfl rfl) h2
 have w2 : a2.size ≤ 140737488351232 := by
  have z := sized_string hsz (j := 2) (t := 9) rfl rfl
  rw [Array.length_toList] at z
  exact z
 clear hA0 hval0 hsz0
 refine (AM.Ax.law L0 Q0 L1 Q1 w2).mono fun e W' ⟨he, bel⟩ => ?_
 subst he
 exact ⟨_, rfl, _, _, _, [], _, [], hW', trodAll_mk1 (shut_bool Try.underlying4 _), (trodAll_cons_mk (Below.trod laidOut (by kernel_rfl) (of_decide_eq_true (by kernel_rfl)) k0 bel lt0) (trodAll_cons_mk (Below.trod laidOut (by kernel_rfl) (of_decide_eq_true (by kernel_rfl)) k1 bel lt1) (trodAll_cons_mk (shut_string Try.underlying9 y2) trodAll_mk0))), rfl, bel.frame _, fun h => by cases h⟩
theorem fNamed : Try.prog.funcNamed Rows.arkExactRow.func = some 3 := by kernel_rfl
theorem f_inPlace : (Rows.arkExactRow.inPlace == Try.prog.inPlace 3) = true := by kernel_rfl
theorem f_unfollowed : (Rows.arkExactRow.unfollowed == Try.prog.unfollowed 3) = true := by kernel_rfl
theorem f_recurses : (Rows.arkExactRow.recurses == Try.prog.recurses 3) = true := by kernel_rfl
theorem f_named : (Rows.arkExactRow.named == Try.prog.varsNamed 3) = true := by kernel_rfl
theorem facts : joinedFacts Try.prog 3 Try.f3 Rows.arkExactSpec Rows.arkExactRow = true := by
 unfold joinedFacts
 rw [f_inPlace, f_unfollowed, f_recurses, f_named]
 kernel_rfl
theorem over : Rows.arkExactRow.holds Try.pinned (OpenSpec.ofChange Rows.arkExactSpec) :=
 OpenClaim.holds_of_wide 3 Try.f3 rfl rfl rfl rfl rfl rfl rfl ⟨rfl, rfl, rfl, rfl, rfl⟩ rfl rfl rfl rfl rfl fNamed Try.func3 facts
  (of_decide_eq_true (by kernel_rfl)) (by unfold Func.isWrapper; first | (rw [if_pos (by decide +kernel)]; kernel_rfl) | (rw [if_neg (by decide +kernel)]; exact ⟨rfl, rfl⟩))
  (fun os started H enc _ => lifted os started H enc)
end Go.Proofs.Ytfkkeddjfiljfaa.arkExactR
namespace Go.Proofs.Ytfkkeddjfiljfaa
theorem arkExact_holds : Rows.ArkExactSaid := arkExactR.over
end Go.Proofs.Ytfkkeddjfiljfaa

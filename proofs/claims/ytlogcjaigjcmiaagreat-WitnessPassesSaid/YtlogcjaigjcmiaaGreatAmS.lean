/-
  THE ABSTRACT MACHINE: a region whose order is drawn, walked.
-/
import Derived.Test.YtlogcjaigjcmiaaGreatAmR
set_option linter.unusedVariables false
set_option linter.unusedSimpArgs false
namespace Go.Proofs.YtlogcjaigjcmiaaGreat.AM
open Go Go.Proofs.YtlogcjaigjcmiaaGreatW.PrintWords Go.Proofs.YtlogcjaigjcmiaaGreatW.PrintLast

section
variable {P : Program} {call : CallF}

/-- What slots hold, by those that wrote them. -/
theorem puts_rel {S m w} : ∀ (E : List (Option Nat × AV)) (R : List (Option Tmp × Value)) (k : Nat) (b : Nat → Bool) (t : List AV) (a : Act) (n : Nat), E.length = R.length → (∀ (j : Nat) (e : Option Nat × AV) (f : Option Tmp × Value), E[j]? = some e → R[j]? = some f → e.1 = f.1) → t.length = a.tmps.size →
    VRel S m w ((t[n]?).getD .dead) (a.tmps.getD n undef) → (∀ (j : Nat) (e : Option Nat × AV) (f : Option Tmp × Value), E[j]? = some e → R[j]? = some f → e.1 = some n → b (k + j) = true → VRel S m w e.2 f.2) →
    ∀ (c : Nat → Bool), (∀ (j : Nat) (e : Option Nat × AV), E[j]? = some e → e.1 = some n → c (k + j) = b (k + j)) →
    VRel S m w (((E.zipIdx k).foldl (fun t e => if c e.2 then put t e.1.1 e.1.2 else t) t)[n]?.getD .dead) ((fsel b k R a).tmps.getD n undef)
  | [], [], k, b, t, a, n, _, _, _, h0, _, c, _ => h0
  | [], _ :: _, _, _, _, _, _, hl, _, _, _, _, _, _ => by simp at hl
  | _ :: _, [], _, _, _, _, _, hl, _, _, _, _, _, _ => by simp at hl
  | e :: E, f :: R, k, b, t, a, n, hl, hd, hz, h0, hv, c, hc => by
    rw [List.zipIdx_cons, List.foldl_cons, fsel]
    have hd0 : e.1 = f.1 := hd 0 e f rfl rfl
    have sz : ∀ (x : Act) (d : Option Tmp) (v : Value), (x.put d v).tmps.size = x.tmps.size := fun x d v => put_size x d v
    have lz : ∀ (x : List AV) (d : Option Nat) (v : AV), (put x d v).length = x.length := fun x d v => by cases d <;> simp [put]
    refine puts_rel E R (k + 1) b _ _ n (by simpa using hl) (fun j e' f' he hf => hd (j + 1) e' f' (by simpa using he) (by simpa using hf)) ?_ ?_ (fun j e' f' he hf hn hb => hv (j + 1) e' f' (by simpa using he) (by simpa using hf) hn (by rw [show k + (j + 1) = k + 1 + j by omega]; exact hb)) c (fun j e' he hn => by
      have := hc (j + 1) e' (by simpa using he) hn
      rwa [show k + (j + 1) = k + 1 + j by omega] at this)
    · simp only
      split <;> split <;> simp only [sz, lz, hz]
    · simp only
      have other : e.1 ≠ some n → ∀ (c b : Bool), VRel S m w ((if c = true then put t e.1 e.2 else t)[n]?.getD .dead) ((if b = true then a.put f.1 f.2 else a).tmps.getD n undef) := by
        intro hne c b
        have h1 : (put t e.1 e.2)[n]? = t[n]? := by
          cases he : e.1 with
          | none => rfl
          | some d => simp only [put]; rw [List.getElem?_set_ne (fun h => hne (by rw [he, h]))]
        have h2 : (a.put f.1 f.2).tmps[n]? = a.tmps[n]? := by rw [put_get, if_neg (by rw [← hd0]; exact hne)]
        have h3 : (if c = true then put t e.1 e.2 else t)[n]? = t[n]? := by split <;> first | exact h1 | rfl
        have h4 : (if b = true then a.put f.1 f.2 else a).tmps.getD n undef = a.tmps.getD n undef := by
          split
          · rw [Array.getD_eq_getD_getElem?, h2, ← Array.getD_eq_getD_getElem?]
          · rfl
        rw [h3, h4]; exact h0
      by_cases he : e.1 = some n
      · have hcb := hc 0 e rfl he
        rw [Nat.add_zero] at hcb
        rw [hcb]
        cases hb : b k with
        | false => simp only [Bool.false_eq_true, if_false]; exact h0
        | true =>
          simp only [if_true]
          have hvv := hv 0 e f rfl rfl he (by rw [Nat.add_zero]; exact hb)
          rw [he]
          have hf : f.1 = some n := by rw [← hd0]; exact he
          rw [hf]
          simp only [put]
          by_cases hn : n < t.length
          · rw [List.getElem?_set_self hn, Array.getD_eq_getD_getElem?, put_get, if_pos rfl, if_pos (show n < a.tmps.size by omega)]
            exact hvv
          · rw [List.getElem?_eq_none (by simp; omega)]
            exact .dead
      · exact other he _ _
theorem puts_take (E : List (Option Nat × AV)) (t : List AV) (i : Nat) : puts t (E.take i) = (E.zipIdx 0).foldl (fun t e => if decide (e.2 < i) then put t e.1.1 e.1.2 else t) t := by
  have key : ∀ (E : List (Option Nat × AV)) (k : Nat) (t : List AV), puts t (E.take (i - k)) = (E.zipIdx k).foldl (fun t e => if decide (e.2 < i) then put t e.1.1 e.1.2 else t) t := by
    intro E
    induction E with
    | nil => intro k t; simp [puts]
    | cons e E ih =>
      intro k t
      rw [List.zipIdx_cons, List.foldl_cons, ← ih]
      by_cases h : k < i
      · rw [show i - k = (i - (k + 1)) + 1 by omega, List.take_succ_cons]
        simp [puts, h]
      · rw [show i - k = 0 by omega, show i - (k + 1) = 0 by omega]
        simp [puts, h]
  exact key E 0 t
theorem puts_len (t : List AV) : ∀ (E : List (Option Nat × AV)), (puts t E).length = t.length := by
  intro E
  induction E generalizing t with
  | nil => rfl
  | cons e E ih =>
    show (puts (put t e.1 e.2) E).length = _
    rw [ih]
    cases e.1 <;> simp [put]

theorem runDraw_sound (hC : CallOK P call) {ops : Array Oper} {id : Nat} {l : List AOper} {s s' : St} {S : Nat → Prop} {m : Emb} {w : World} {a : Act} {Q : Exit → Act → World → Prop} (hm : P.follows .mixedOrders = true)
    (hl : compL (compOper P ops) ops.toList = some l) (hsel : True) (hord : orderOk ops (Region.before ops).toList = true) (hloud : loudOk l (Region.before ops).toList = true) (hslots : slotsOk l (Region.before ops).toList = true) (hahead : aheadOk l (Region.before ops).toList = true)
    {H : List (List Blk)} (hr : runDraw call (marksK l (Region.before ops).toList) s [s.h] = some (s', H)) (r : Rep S m s.h w) (ht : TRel S m w s.t a.tmps)
    (hQ : ∀ S' m' w' a', Rep S' m' s'.h w' → TRel S' m' w' s'.t a'.tmps → Stp S m s.h w S' m' s'.h w' → a'.defers = a.defers → Q .normal a' w') : (Code.region id ops true).wp P Q a w := by
  obtain ⟨B, hB⟩ : ∃ B, B = (Region.before ops).toList := ⟨_, rfl⟩
  rw [← hB] at hord hloud hslots hahead hr
  obtain ⟨lk, hlk⟩ : ∃ lk, lk = marksK l B := ⟨_, rfl⟩
  rw [← hlk] at hr
  simp only [orderOk, Bool.and_eq_true] at hord
  obtain ⟨hw, hk⟩ := hord
  obtain ⟨hcl, hcg⟩ := compL_get hl
  have hn : l.length = ops.size := by simpa using hcl.symm
  -- the marked operations
  have hlkn : lk.length = ops.size := by rw [hlk]; simp [marksK, hn]
  have hget : ∀ (i : Nat) (o : AOper), l[i]? = some o → lk[i]? = some (mark l B i o) := by
    intro i o ho
    rw [hlk, marksK, List.getElem?_map, List.getElem?_zipIdx, ho]
    simp
  have hcomp : ∀ i, i < ops.size → ∃ o ao, ops[i]? = some o ∧ l[i]? = some ao ∧ compOper P ops o = some ao := by
    intro i hi
    have ho : ops.toList[i]? = some ops[i] := by simp [hi]
    obtain ⟨ao, h1, h2⟩ := hcg i _ ho
    exact ⟨ops[i], ao, by simp [hi], h2, h1⟩
  have hcnt : ∀ i, cntL lk i = cntL l i := by
    have : ∀ i : Nat, lk[i]?.map (fun o : AOper => o.o.loud) = l[i]?.map (fun o : AOper => o.o.loud) := by
      intro i
      cases ho : l[i]? with
      | none => rw [List.getElem?_eq_none (by have := List.getElem?_eq_none_iff.1 ho; omega)]
      | some o => rw [hget i o ho]; rfl
    intro i
    induction i with
    | zero => rfl
    | succ i ih =>
      cases ho : l[i]? with
      | none =>
        have h1 : l.length ≤ i := List.getElem?_eq_none_iff.1 ho
        unfold cntL at ih ⊢
        rw [List.take_of_length_le (by omega), List.take_of_length_le (by omega)] at ih ⊢
        exact ih
      | some o => rw [cntL_at ho, cntL_at (hget i o ho), ih]; rfl
  obtain ⟨E, X, hHX, hE1, hX, hst, hsh, htr⟩ := draw_trace lk s s' [s.h] H hr ⟨[], rfl⟩
  have hone : ([s.h] : List (List Blk)).length - 1 = 0 := rfl
  rw [hone, Nat.zero_add] at hsh
  simp only [hone, Nat.zero_add, hcnt] at htr
  have hH0 : H[0]? = some s.h := by rw [hHX]; rfl
  rw [hX, hlkn, hcnt] at hsh
  -- edges
  have hbit : ∀ i j, i < j → j < ops.size → ∀ x y, l[i]? = some x → l[j]? = some y → clash x y = true → (B.getD j 0).testBit i = true := by
    intro i j hij hj x y hx hy hc
    have h1 := List.all_eq_true.1 (List.all_eq_true.1 hslots j (List.mem_range.2 (by omega))) i (List.mem_range.2 hij)
    rw [hx, hy] at h1
    simp only [hc, Bool.not_true, Bool.false_or] at h1
    exact h1
  have hlb : ∀ i j, i < j → j < ops.size → ∀ x y, l[i]? = some x → l[j]? = some y → x.o.loud = true → y.o.loud = true → (B.getD j 0).testBit i = true := by
    intro i j hij hj x y hx hy h1 h2
    have h3 := List.all_eq_true.1 (List.all_eq_true.1 hloud j (List.mem_range.2 (by omega))) i (List.mem_range.2 hij)
    simp only [loudAt, hx, hy, h1, h2, Bool.and_self, Bool.not_true, Bool.false_or] at h3
    exact h3
  have hlen : (rtab Region.Mode.any ops).2.length = ops.size := by simp [rtab]
  have hmem : ∀ j, j < ops.size → (List.range ops.size).contains j = true := fun j hj => by simp [hj]
  obtain ⟨r0, t0⟩ := drew_keep r
  -- what holds when b's operations are done
  let I : (Nat → Bool) → Act → World → Prop := fun b a' w' => ∃ (S' : Nat → Prop) (m' : Emb) (R : List (Option Tmp × Value)) (k : Nat) (hh : List Blk), R.length = ops.size ∧ a' = fsel b 0 R a ∧
    (∀ (j : Nat) (e : Option Nat × AV) (f : Option Tmp × Value), E[j]? = some e → R[j]? = some f → e.1 = f.1 ∧ (b j = true → VRel S' m' w' e.2 f.2)) ∧
    (∀ j o, l[j]? = some o → o.o.loud = true → (b j = true ↔ cntL l j < k)) ∧ H[k]? = some hh ∧ Rep S' m' hh w' ∧ Stp S m s.h w S' m' hh w'
  refine start_ (n := ops.size) (S := fun _ => True) (ds := []) (Array.replicate ops.size false) hm rfl rfl trivial (fun _ => ?_)
  refine inv_ (T := rtab .any ops) (B := B) (List.range ops.size) I rfl hw hk ?_ ?_ ?_ ?_
  · rw [hlen]
    simp only [List.length_range, beq_self_eq_true, Bool.and_true, beq_iff_eq]
    apply List.ext_getElem
    · simp [lof]
    · intro i h1 h2
      simp only [lof, List.getElem_map, List.getElem_range, Array.toList_replicate, List.getElem_replicate]
      rw [if_pos]
      simpa [lof] using h1
  · refine ⟨S, m, E.map fun e => (e.1, undef), 0, s.h, by simp [hE1, hlkn], (fsel_none _ 0 a).symm, ?_, ?_, hH0, r0, t0⟩
    · intro j e f he hf
      rw [List.getElem?_map, he] at hf
      cases hf
      exact ⟨rfl, fun h => by cases h⟩
    · intro j o ho hlo
      simp
  · intro i hi b a' w' hI hb hon hoff
    obtain ⟨S', m', R, k, hh, hRl, rfl, hRE, hpre, hHk, rk, tk⟩ := hI
    have hi' : i < ops.size := List.mem_range.1 hi
    obtain ⟨o, ao, ho, hao, hco⟩ := hcomp i hi'
    refine ⟨o, ho, fun K hK => ?_⟩
    obtain ⟨v, hEv, hcame⟩ := htr i _ (hget i ao hao)
    -- the slots that it looks at
    have hsee : ∀ n, n ∈ ao.looks → VRel S' m' w' (((puts s.t (E.take i))[n]?).getD .dead) ((fsel b 0 R a).tmps.getD n undef) := by
      intro n hnl
      rw [puts_take]
      refine puts_rel E R 0 b s.t a n (by omega) (fun j e f he hf => (hRE j e f he hf).1) (by have := ht.1; simpa using this) (TRel.get (ht.keep (tk.kp r)) n) (fun j e f he hf _ hbj => (hRE j e f he hf).2 (by simpa using hbj)) (fun j => decide (j < i)) (fun j e he hne => ?_)
      rw [Nat.zero_add]
      have hj : j < ops.size := by have := lt_of_get he; omega
      obtain ⟨oj, aj, hoj, haj, hcj⟩ := hcomp j hj
      obtain ⟨vj, hEj, _⟩ := htr j _ (hget j aj haj)
      rw [he] at hEj
      cases hEj
      have hdj : aj.d = some n := hne
      by_cases hlt : j < i
      · rw [decide_eq_true hlt]
        have hc : clash aj ao = true := by simp only [clash, hitsD, hdj, Bool.or_eq_true]; exact .inl (.inl (by simpa using hnl))
        exact (hon j (by rw [hmem j hj, hbit j i hlt hi' _ _ haj hao hc]; rfl)).symm
      · rw [decide_eq_false hlt]
        by_cases hji : j = i
        · rw [hji, hb]
        · have hc : clash ao aj = true := by simp only [clash, hitsD, hdj, Bool.or_eq_true]; exact .inl (.inr (by simpa using hnl))
          exact (hoff j (by rw [hmem j hj, hbit i j (by omega) hj _ _ hao haj hc]; rfl)).symm
    -- what it evaluates
    have hEv2 : ∀ x y, compO x = some y → VRel S' m' w' (evalM ao.o.slots (puts s.t (E.take i)) y) ((fsel b 0 R a).eval x) := by
      intro x y hxy
      cases x with
      | tmp n =>
        cases hxy
        simp only [evalM]
        split
        · rename_i hc
          exact hsee n (List.mem_append_right _ (by simpa using hc))
        · exact .dead
      | const c =>
        simp only [compO, Option.map_eq_some_iff] at hxy
        obtain ⟨c', h1, rfl⟩ := hxy
        exact ofV_sound h1
      | global g => cases hxy
      | func f => cases hxy; exact LRel.fn LRel.nil LRel.nil
    obtain ⟨hco1, hdd⟩ : (ao.o ≠ .bad → compOp P o = some ao.o) ∧ ao.d = o.dst := by
      have hap : (compOp P o).getD .bad ≠ .bad → compOp P o = some ((compOp P o).getD .bad) := by
        intro hne
        cases hcc : compOp P o with
        | none => rw [hcc] at hne; exact absurd rfl hne
        | some x => rfl
      unfold compOper at hco
      split at hco
      · cases hco; exact ⟨hap, rfl⟩
      · split at hco <;> cases hco; exact ⟨hap, rfl⟩
    have hwant : ∀ c, wanted (puts s.t (E.take i)) ao.g = some c → Region.wanted o (yielded ops (fsel b 0 R a).tmps) = c := by
      intro c hc
      unfold compOper at hco
      split at hco
      · rename_i hg
        cases hco
        simp only [wanted, Option.some.injEq] at hc
        subst hc
        simp [Region.wanted, hg]
      · rename_i j want hg
        split at hco <;> first | (cases hco; done) | skip
        rename_i d hd
        cases hco
        simp only [wanted] at hc
        simp only [Region.wanted, hg]
        have hsd := hsee d (List.mem_append_left _ (by simp))
        split at hc
        · rename_i c' hc'
          cases hc
          rw [hc'] at hsd
          simp only [Option.getD_some] at hsd
          have hv := vbool hsd
          have : (fsel b 0 R a).tmps[d]? = some (.bool c') := by
            rw [Array.getD_eq_getD_getElem?] at hv
            cases hq : (fsel b 0 R a).tmps[d]? with
            | none => rw [hq] at hv; simp [undef] at hv
            | some q => rw [hq] at hv; simpa using hv
          simp [yielded, hd, this]
        · rename_i hc'
          cases hc
          rw [hc'] at hsd
          simp only [Option.getD_some] at hsd
          have hy : yielded ops (fsel b 0 R a).tmps j = none := by
            simp only [yielded, hd, Option.bind_some]
            rw [Array.getD_eq_getD_getElem?] at hsd
            cases hq : (fsel b 0 R a).tmps[d]? with
            | none => rfl
            | some q =>
              rw [hq] at hsd
              simp only [Option.getD_some] at hsd
              cases q <;> first | rfl | (cases hsd; done)
          rw [hy]; rfl
        · cases hc
    have hRi : ∃ f, R[i]? = some f ∧ f.1 = o.dst := by
      have : i < R.length := by omega
      refine ⟨R[i], List.getElem?_eq_getElem this, ?_⟩
      rw [← hdd]
      exact ((hRE i _ _ hEv (List.getElem?_eq_getElem this)).1).symm
    obtain ⟨f0, hf0, hf1⟩ := hRi
    -- the step, once it is known what it came to
    have done : ∀ (x : Value) (S2 : Nat → Prop) (m2 : Emb) (w2 : World) (k2 : Nat) (h2 : List Blk), VRel S2 m2 w2 v x → Rep S2 m2 h2 w2 → Stp S' m' hh w' S2 m2 h2 w2 → H[k2]? = some h2 →
        (∀ j o', l[j]? = some o' → o'.o.loud = true → (up b i j = true ↔ cntL l j < k2)) → K ((fsel b 0 R a).put o.dst x) w2 := by
      intro x S2 m2 w2 k2 h2 g1 g2 g3 g4 g5
      refine hK.out _ _ ⟨S2, m2, R.set i (o.dst, x), k2, h2, by simp [hRl], ?_, ?_, g5, g4, g2, tk.trans g3⟩
      · have hset : fsel b 0 R a = fsel b 0 (R.set i (o.dst, x)) a := by
          have gen : ∀ (R : List (Option Tmp × Value)) (k q : Nat) (a : Act), b (k + q) = false → fsel b k R a = fsel b k (R.set q (o.dst, x)) a := by
            intro R
            induction R with
            | nil => intro k q a _; rfl
            | cons e R ih =>
              intro k q a hbq
              cases q with
              | zero => rw [List.set_cons_zero, fsel, fsel]; rw [Nat.add_zero] at hbq; rw [hbq]; rfl
              | succ q => rw [List.set_cons_succ, fsel, fsel]; exact ih (k + 1) q _ (by rw [show k + 1 + q = k + (q + 1) by omega]; exact hbq)
          exact gen R 0 i a (by rw [Nat.zero_add]; exact hb)
        rw [hset]
        refine fsel_up (R.set i (o.dst, x)) 0 i a (by omega) (by rw [List.getElem?_set_self (by omega)]) hb (fun j e t hj he hbj hd => ?_)
        rw [Nat.zero_add] at hbj
        have hj' : j < ops.size := by have := lt_of_get he; simp at this; omega
        obtain ⟨oj, aj, hoj, haj, hcj⟩ := hcomp j hj'
        obtain ⟨vj, hEj, _⟩ := htr j _ (hget j aj haj)
        rw [List.getElem?_set_ne (by omega)] at he
        have h1 := (hRE j _ _ hEj he).1
        intro het
        have hdj : aj.d = some t := by rw [← het]; exact h1
        have hc : clash ao aj = true := by
          simp only [clash, Bool.or_eq_true]
          refine .inr ?_
          rw [hdd, hd, hdj]; simp
        have := hoff j (by rw [hmem j hj', hbit i j hj hj' _ _ hao haj hc]; rfl)
        rw [this] at hbj
        cases hbj
      · intro j e f he hf
        by_cases hji : j = i
        · subst hji
          rw [List.getElem?_set_self (by omega)] at hf
          cases hf
          rw [hEv] at he
          cases he
          exact ⟨hdd, fun _ => g1⟩
        · rw [List.getElem?_set_ne (by omega)] at hf
          obtain ⟨h1, h2'⟩ := hRE j e f he hf
          exact ⟨h1, fun hbj => (h2' (by rwa [up_ne hji] at hbj)).keep (g3.kp rk)⟩
    have same : ao.o.loud = false → ∀ j o', l[j]? = some o' → o'.o.loud = true → (up b i j = true ↔ cntL l j < k) := by
      intro hnl j o' hj hlo
      have : j ≠ i := by
        rintro rfl
        rw [hao] at hj; cases hj
        rw [hnl] at hlo; cases hlo
      rw [up_ne this]
      exact hpre j o' hj hlo
    -- a loud one stands just behind those ahead of it
    have rank : ao.o.loud = true → k = cntL l i ∧ ∀ j o', l[j]? = some o' → o'.o.loud = true → (up b i j = true ↔ cntL l j < k + 1) := by
      intro hlo
      have h1 : ¬ cntL l i < k := fun h => by have := (hpre i ao hao hlo).2 h; rw [hb] at this; cases this
      have h2 : cntL l i ≤ k := by
        rcases Nat.lt_or_ge k (cntL l i) with h | h
        · obtain ⟨j, oj, hj1, hj2, hj3, hj4⟩ := cntL_find (by omega) h
          have := hon j (by rw [hmem j (by omega), hlb j i hj1 hi' _ _ hj2 hao hj3 hlo]; rfl)
          have := (hpre j oj hj2 hj3).1 this
          omega
        · exact h
      have hk : k = cntL l i := by omega
      refine ⟨hk, fun j o' hj hlo' => ?_⟩
      by_cases hji : j = i
      · subst hji; rw [up_self]; simp [hk]
      · rw [up_ne hji, hpre j o' hj hlo']
        constructor
        · intro h; omega
        · intro h
          rcases Nat.lt_trichotomy j i with h3 | h3 | h3
          · have := cntL_lt hj hlo' h3; omega
          · exact absurd h3 hji
          · have := cntL_lt hao hlo h3; omega
    rcases hcame with ⟨h1, rfl, h3⟩ | ⟨h1, h2, h, h', lo, h3, h4, h5⟩ | ⟨h1, h2, ⟨h, h3⟩, h4⟩
    · rw [if_neg (by rw [hwant false h1]; decide)]
      by_cases hlo : ao.o.loud = true
      · obtain ⟨hk, hup⟩ := rank hlo
        refine done undef S' m' w' (k + 1) hh (LRel.tup LRel.nil) rk (Stp.refl ..) ?_ hup
        rw [hk]
        rw [hk] at hHk
        exact (h3 hlo).trans hHk
      · exact done undef S' m' w' k hh (LRel.tup LRel.nil) rk (Stp.refl ..) hHk (same (by simpa using hlo))
    · rw [if_pos (hwant true h1)]
      obtain ⟨hk, hup⟩ := rank h2
      rw [← hk, hHk] at h3
      cases h3
      exact lOp_sound hC hEv2 rk (hco1 (lOp_ne_bad h5)) h5 _ _ fun x S2 m2 w2 g1 g2 g3 => done x S2 m2 w2 (k + 1) h' g1 g2 g3 (by rw [hk]; exact h4) hup
    · rw [if_pos (hwant true h1)]
      have h2' : ao.o.loud = false := h2
      have hp : pOp (evalM ao.o.slots (puts s.t (E.take i))) hh ao.o = some v := by
        by_cases hre : ao.o.reads = true
        · -- those ahead are done
          have hk : ahead l B i ≤ k := by
            have hsub : ∀ j, j ∈ (List.range l.length).filter (fun j => loudAt l j && (B.getD i 0).testBit j) → cntL l j < k := by
              intro j hj
              rw [List.mem_filter, Bool.and_eq_true] at hj
              obtain ⟨hj1, hj2, hj3⟩ := hj
              have hj' : j < ops.size := by simpa [hn] using hj1
              obtain ⟨oj, aj, hoj, haj, hcj⟩ := hcomp j hj'
              have hl2 : aj.o.loud = true := by simpa [loudAt, haj] using hj2
              exact (hpre j aj haj hl2).1 (hon j (by rw [hmem j hj', hj3]; rfl))
            unfold ahead
            have hnd : ((List.range l.length).filter (fun j => loudAt l j && (B.getD i 0).testBit j)).map (cntL l) |>.Nodup := by
              rw [List.nodup_iff_pairwise_ne, List.pairwise_map]
              refine List.Pairwise.imp_of_mem (R := (· < ·)) ?_ ((List.pairwise_lt_range).filter _)
              intro x y hx hy hxy
              rw [List.mem_filter, Bool.and_eq_true] at hx hy
              have hx' : x < ops.size := by simpa [hn] using hx.1
              obtain ⟨ox, ax, hox, hax, hcx⟩ := hcomp x hx'
              have := cntL_lt hax (by simpa [loudAt, hax] using hx.2.1) hxy
              omega
            have hle := List.Nodup.length_le_of_subset hnd (l₂ := List.range k) (fun q hq => by
              rw [List.mem_map] at hq
              obtain ⟨j, hj, rfl⟩ := hq
              exact List.mem_range.2 (hsub j hj))
            simpa using hle
          -- those behind are not
          have hk2 : k ≤ latest l B i := by
            have fold : ∀ (L : List Nat) (m0 : Nat), k ≤ m0 → (∀ j, j ∈ L → k ≤ cntL l j) → k ≤ L.foldl (fun m j => Nat.min m (cntL l j)) m0 := by
              intro L
              induction L with
              | nil => intro m0 h _; exact h
              | cons x L ih => intro m0 h hL; exact ih _ (Nat.le_min.2 ⟨h, hL x (by simp)⟩) fun j hj => hL j (by simp [hj])
            unfold latest
            refine fold _ _ ?_ fun j hj => ?_
            · have := lt_of_get hHk
              rw [hHX] at this
              simp only [List.length_append, List.length_cons, List.length_nil, hX, hlkn, hcnt] at this
              rw [hn]; omega
            · rw [List.mem_filter, Bool.and_eq_true] at hj
              obtain ⟨hj1, hj2, hj3⟩ := hj
              have hj' : j < ops.size := by simpa [hn] using hj1
              obtain ⟨oj, aj, hoj, haj, hcj⟩ := hcomp j hj'
              have hl2 : aj.o.loud = true := by simpa [loudAt, haj] using hj2
              have hbf := hoff j (by rw [hmem j hj', hj3]; rfl)
              rcases Nat.lt_or_ge (cntL l j) k with hlt | hge
              · have := (hpre j aj haj hl2).2 hlt
                rw [hbf] at this; cases this
              · exact hge
          exact h4 hre k hh (by simp only [mark, h2', Bool.false_eq_true, if_false]; exact hk) (by simp only [mark, h2', Bool.false_eq_true, if_false]; exact hk2) hHk
        · exact pOp_blind (by simpa using hre) h3
      exact pOp_wp hEv2 rk (hco1 (pOp_ne_bad hp)) hp _ _ fun x g1 => done x S' m' w' k hh g1 rk (Stp.refl ..) hHk (same h2')
  · rintro b a' w' hall ⟨S', m', R, k, hh, hRl, rfl, hRE, hpre, hHk, rk, tk⟩
    have hbj : ∀ j, j < ops.size → b j = true := fun j hj => hall j (hmem j hj)
    -- all are done
    have hk : k = cntL l ops.size := by
      rcases Nat.lt_trichotomy k (cntL l ops.size) with h | h | h
      · obtain ⟨j, oj, hj1, hj2, hj3, hj4⟩ := cntL_find (by omega) h
        have := (hpre j oj hj2 hj3).1 (hbj j hj1)
        omega
      · exact h
      · have := lt_of_get hHk
        rw [hHX] at this
        simp only [List.length_append, List.length_cons, List.length_nil, hX, hlkn, hcnt] at this
        omega
    rw [hk, hsh] at hHk
    cases hHk
    refine hQ S' m' w' _ rk ?_ tk ?_
    · -- slots
      refine ⟨?_, fun n hnl => ?_⟩
      · have h1 := fsel_size b R 0 a
        have h2 := ht.1
        rw [hst, puts_len]
        simp only [Array.length_toList] at h2 ⊢
        omega
      · have h1 := puts_rel E R 0 b s.t a n (by omega) (fun j e f he hf => (hRE j e f he hf).1) (by have := ht.1; simpa using this) (TRel.get (ht.keep (tk.kp r)) n) (fun j e f he hf _ hb' => (hRE j e f he hf).2 (by simpa using hb')) (fun j => decide (j < ops.size)) (fun j e he hne => by
          have hj : j < ops.size := by have := lt_of_get he; omega
          rw [Nat.zero_add, decide_eq_true hj, hbj j hj])
        rw [← puts_take, List.take_of_length_le (by omega), ← hst] at h1
        simpa [List.getD_eq_getElem?_getD, Array.getD_eq_getD_getElem?] using h1
    · have gen : ∀ (R : List (Option Tmp × Value)) (k : Nat) (a : Act), (fsel b k R a).defers = a.defers := by
        intro R
        induction R with
        | nil => intro k a; rfl
        | cons e R ih =>
          intro k a
          rw [fsel, ih]
          split
          · cases e.1 <;> rfl
          · rfl
      exact gen R 0 a
end
end Go.Proofs.YtlogcjaigjcmiaaGreat.AM

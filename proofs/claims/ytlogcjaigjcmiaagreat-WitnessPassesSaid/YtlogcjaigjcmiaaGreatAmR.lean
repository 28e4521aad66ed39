/-
  THE ABSTRACT MACHINE: a region whose order is drawn: in whatever order, it comes to what it comes to in the text's.
-/
import Derived.Test.YtlogcjaigjcmiaaGreatAmQ
import Derived.Test.YtlogcjaigjcmiaaGreatWInv
set_option linter.unusedVariables false
set_option linter.unusedSimpArgs false
namespace Go.Proofs.YtlogcjaigjcmiaaGreat.AM
open Go Go.Proofs.YtlogcjaigjcmiaaGreatW.PrintWords Go.Proofs.YtlogcjaigjcmiaaGreatW.PrintLast

/-- What the blocks that an operation does not see do, plays no part. -/
theorem pOp_blind {ev : AO → AV} {h h' : List Blk} {o : AOp} {v : AV} (ho : o.reads = false) (hv : pOp ev h o = some v) : pOp ev h' o = some v := by
  cases o <;> first | exact hv | (cases ho; done)
/-! What the run in the text's order comes to, operation by operation. -/
def puts (t : List AV) (E : List (Option Nat × AV)) : List AV := E.foldl (fun t e => put t e.1 e.2) t
/-- What the i-th operation came to. -/
def Came (call : CallF) (t : List AV) (H : List (List Blk)) (q : Nat) (o : AOper) (v : AV) : Prop :=
  (wanted t o.g = some false ∧ v = .tup [] ∧ (o.o.loud = true → H[q + 1]? = H[q]?)) ∨
  (wanted t o.g = some true ∧ o.o.loud = true ∧ ∃ h h' lo, H[q]? = some h ∧ H[q + 1]? = some h' ∧ lOp call (evalM o.o.slots t) h o.o = some (v, h', lo)) ∨
  (wanted t o.g = some true ∧ o.o.loud = false ∧ (∃ h, pOp (evalM o.o.slots t) h o.o = some v) ∧ (o.o.reads = true → ∀ q h, o.k ≤ q → q ≤ o.e → H[q]? = some h → pOp (evalM o.o.slots t) h o.o = some v))
mutual
theorem eqv_eq : ∀ (a b : AV), eqv a b = true → a = b
  | .rop es st i off, b, h => by
    cases b <;> simp only [eqv, Bool.and_eq_true, decide_eq_true_eq, Bool.false_eq_true] at h
    obtain ⟨⟨⟨rfl, rfl⟩, rfl⟩, h⟩ := h
    rw [eqvL_eq es _ h]
  | .ro es st ex, b, h => by
    cases b <;> simp only [eqv, Bool.and_eq_true, decide_eq_true_eq, Bool.false_eq_true] at h
    obtain ⟨⟨rfl, rfl⟩, h⟩ := h
    rw [eqvL_eq es _ h]
  | .agg es, b, h => by
    cases b <;> simp only [eqv, Bool.false_eq_true] at h
    rw [eqvL_eq es _ h]
  | .tup es, b, h => by
    cases b <;> simp only [eqv, Bool.false_eq_true] at h
    rw [eqvL_eq es _ h]
  | .dead, b, h => by cases b <;> simp_all [eqv]
  | .bool _, b, h => by cases b <;> simp_all [eqv]
  | .int _ _, b, h => by cases b <;> simp_all [eqv]
  | .str _, b, h => by cases b <;> simp_all [eqv]
  | .nilp, b, h => by cases b <;> simp_all [eqv]
  | .ptr _ _, b, h => by cases b <;> simp_all [eqv]
  | .nils, b, h => by cases b <;> simp_all [eqv]
  | .sl _ _ _ _ _ _, b, h => by cases b <;> simp_all [eqv]
  | .nilm, b, h => by cases b <;> simp_all [eqv]
  | .map _, b, h => by cases b <;> simp_all [eqv]
  | .nilf, b, h => by cases b <;> simp_all [eqv]
  | .fn _ _ _, b, h => by cases b <;> simp [eqv] at h
theorem eqvL_eq : ∀ (a b : List AV), eqvL a b = true → a = b
  | [], b, h => by cases b <;> simp_all [eqvL]
  | x :: r, b, h => by
    cases b <;> simp only [eqvL, Bool.and_eq_true, Bool.false_eq_true] at h
    rw [eqv_eq x _ h.1, eqvL_eq r _ h.2]
end
theorem cntL_zero (l : List AOper) : cntL l 0 = 0 := rfl
theorem cntL_succ (o : AOper) (l : List AOper) (i : Nat) : cntL (o :: l) (i + 1) = (if o.o.loud then 1 else 0) + cntL l i := by
  unfold cntL
  rw [List.take_succ_cons, List.filter_cons]
  split
  · rw [List.length_cons]; omega
  · omega
theorem draw_trace {call : CallF} : ∀ (l : List AOper) (s s' : St) (hs H : List (List Blk)), runDraw call l s hs = some (s', H) → (∃ p, hs = p ++ [s.h]) →
    ∃ (E : List (Option Nat × AV)) (X : List (List Blk)), H = hs ++ X ∧ E.length = l.length ∧ X.length = cntL l l.length ∧ s'.t = puts s.t E ∧ H[hs.length - 1 + X.length]? = some s'.h ∧
      ∀ i o, l[i]? = some o → ∃ v, E[i]? = some (o.d, v) ∧ Came call (puts s.t (E.take i)) H (hs.length - 1 + cntL l i) o v
  | [], s, s', hs, H, hr, hp => by
    obtain ⟨p, rfl⟩ := hp
    cases hr
    exact ⟨[], [], by simp, rfl, rfl, rfl, by simp, fun i o ho => by simp at ho⟩
  | o :: l, s, s', hs, H, hr, hp => by
    obtain ⟨p, rfl⟩ := hp
    have hlen : (p ++ [s.h]).length - 1 = p.length := by simp
    rw [runDraw] at hr
    -- one step, and the others
    have step : ∀ (v : AV) (h' : List Blk) (lo : Option Nat) (Y : List (List Blk)), Y.length = (if o.o.loud then 1 else 0) → (∃ p', (p ++ [s.h]) ++ Y = p' ++ [h']) → runDraw call l { t := put s.t o.d v, h := h', lo := lo } ((p ++ [s.h]) ++ Y) = some (s', H) →
        (∀ X, H = ((p ++ [s.h]) ++ Y) ++ X → Came call s.t H p.length o v) →
        ∃ (E : List (Option Nat × AV)) (X : List (List Blk)), H = (p ++ [s.h]) ++ X ∧ E.length = (o :: l).length ∧ X.length = cntL (o :: l) (o :: l).length ∧ s'.t = puts s.t E ∧ H[(p ++ [s.h]).length - 1 + X.length]? = some s'.h ∧
          ∀ i o', (o :: l)[i]? = some o' → ∃ v, E[i]? = some (o'.d, v) ∧ Came call (puts s.t (E.take i)) H ((p ++ [s.h]).length - 1 + cntL (o :: l) i) o' v := by
      intro v h' lo Y hY hp' hrun hcame
      obtain ⟨E, X, h1, h2, h3, h4, h5, h6⟩ := draw_trace l _ s' _ H hrun hp'
      refine ⟨(o.d, v) :: E, Y ++ X, by rw [h1, List.append_assoc], by simp [h2], by rw [List.length_append, hY, h3, List.length_cons, cntL_succ], by rw [h4]; rfl, ?_, ?_⟩
      · rw [← h5]; congr 1; simp only [List.length_append, List.length_cons, List.length_nil]; omega
      · intro i o' ho'
        cases i with
        | zero =>
          simp at ho'
          subst ho'
          refine ⟨v, rfl, ?_⟩
          rw [hlen, cntL_zero, Nat.add_zero]
          exact hcame X h1
        | succ i =>
          obtain ⟨v', h7, h8⟩ := h6 i o' (by simpa using ho')
          refine ⟨v', by simpa using h7, ?_⟩
          rw [hlen, cntL_succ]
          have : ((p ++ [s.h]) ++ Y).length - 1 + cntL l i = p.length + ((if o.o.loud then 1 else 0) + cntL l i) := by rw [List.length_append, hY]; simp only [List.length_append, List.length_cons, List.length_nil]; omega
          rw [← this]
          exact h8
    have at0 : ∀ Y X : List (List Blk), (((p ++ [s.h]) ++ Y) ++ X)[p.length]? = some s.h := fun Y X => by
      rw [List.append_assoc, List.append_assoc, List.getElem?_append_right (Nat.le_refl _)]; simp
    have at1 : ∀ (h' : List Blk) (X : List (List Blk)), (((p ++ [s.h]) ++ [h']) ++ X)[p.length + 1]? = some h' := fun h' X => by
      rw [List.append_assoc, List.append_assoc, List.getElem?_append_right (by omega)]; simp
    split at hr <;> first | (cases hr; done) | skip
    · rename_i hw
      by_cases hl : o.o.loud = true
      · rw [if_pos hl] at hr
        refine step (.tup []) s.h s.lo [s.h] (by rw [if_pos hl]; rfl) ⟨p ++ [s.h], rfl⟩ hr fun X hX => (.inl ⟨hw, rfl, fun _ => ?_⟩)
        rw [hX, at1, at0]
      · rw [if_neg hl] at hr
        exact step (.tup []) s.h s.lo [] (by rw [if_neg hl]; rfl) ⟨p, by simp⟩ (by rw [List.append_nil]; exact hr) fun X hX => (.inl ⟨hw, rfl, fun h => absurd h hl⟩)
    · rename_i hw
      split at hr
      · rename_i hl
        split at hr <;> first | (cases hr; done) | skip
        rename_i v h' lo hv
        exact step v h' _ [h'] (by rw [if_pos hl]; rfl) ⟨p ++ [s.h], rfl⟩ hr fun X hX => (.inr (.inl ⟨hw, hl, s.h, h', lo, by rw [hX, at0], by rw [hX, at1], hv⟩))
      · rename_i hl
        have hl : o.o.loud = false := by simpa using hl
        split at hr <;> first | (cases hr; done) | skip
        rename_i h hh
        split at hr <;> first | (cases hr; done) | skip
        rename_i v hv
        split at hr <;> first | (cases hr; done) | skip
        rename_i s2 H2 hr2
        split at hr <;> cases hr
        rename_i hst
        refine step v s.h s.lo [] (by rw [hl]; rfl) ⟨p, by simp⟩ (by rw [List.append_nil]; exact hr2) fun X hX => (.inr (.inr ⟨hw, hl, ⟨h, hv⟩, fun hre q hq g1 g2 g3 => ?_⟩))
        rw [List.append_nil] at hX
        unfold stays at hst
        rw [hre, Bool.not_true, Bool.false_or, Bool.or_eq_true] at hst
        rcases hst with hst | hst
        · have := Nat.le_of_ble_eq_true hst
          have hqk : q = o.k := by omega
          subst hqk
          rw [hX, List.getElem?_append_left (lt_of_get hh), hh] at g3
          cases g3
          exact hv
        · have hin : hq ∈ (H.drop o.k).take (o.e + 1 - o.k) := by
            rw [List.mem_iff_getElem?]
            refine ⟨q - o.k, ?_⟩
            rw [List.getElem?_take, if_pos (by omega), List.getElem?_drop, show o.k + (q - o.k) = q by omega]
            exact g3
          have := List.all_eq_true.1 hst hq hin
          split at this
          · rename_i v' hv'
            rw [hv', eqv_eq _ _ this]
          · cases this

/-! Counting. -/
theorem cntL_mono (l : List AOper) {i j : Nat} (h : i ≤ j) : cntL l i ≤ cntL l j := by
  unfold cntL
  have : l.take i = (l.take j).take i := by rw [List.take_take]; congr 1; omega
  rw [this]
  exact (List.Sublist.filter _ (List.take_sublist _ _)).length_le
theorem cntL_at {l : List AOper} {i : Nat} {o : AOper} (ho : l[i]? = some o) : cntL l (i + 1) = cntL l i + (if o.o.loud then 1 else 0) := by
  unfold cntL
  rw [List.take_add_one, ho, List.filter_append, List.length_append]
  congr 1
  simp only [Option.toList_some, List.filter_cons, List.filter_nil]
  split <;> rfl
theorem cntL_lt {l : List AOper} {i j : Nat} {o : AOper} (ho : l[i]? = some o) (hl : o.o.loud = true) (h : i < j) : cntL l i < cntL l j := by
  have := cntL_mono l (show i + 1 ≤ j by omega)
  rw [cntL_at ho, if_pos hl] at this
  omega
/-- Who stands at a number among the loud ones. -/
theorem cntL_find {l : List AOper} : ∀ {n q : Nat}, n ≤ l.length → q < cntL l n → ∃ i o, i < n ∧ l[i]? = some o ∧ o.o.loud = true ∧ cntL l i = q
  | 0, q, _, h => by rw [cntL_zero] at h; omega
  | n + 1, q, hn, h => by
    have ho : l[n]? = some l[n] := List.getElem?_eq_getElem (by omega)
    rw [cntL_at ho] at h
    by_cases hlt : q < cntL l n
    · obtain ⟨i, o, h1, h2⟩ := cntL_find (by omega) hlt
      exact ⟨i, o, by omega, h2⟩
    · split at h
      · rename_i hl; exact ⟨n, _, by omega, ho, hl, by omega⟩
      · omega
end Go.Proofs.YtlogcjaigjcmiaaGreat.AM

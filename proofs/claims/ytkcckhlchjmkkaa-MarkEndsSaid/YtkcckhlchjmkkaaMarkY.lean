/-
  LAYER 22: what a log tells with a checkpoint and without (plain).
-/
import Derived.Test.YtkcckhlchjmkkaaMarkE
set_option linter.unusedVariables false
set_option linter.unusedSimpArgs false
namespace Go.Proofs.Ytkcckhlchjmkkaa
open Go.RowKit Go.Maps Go.Proofs.YtkcckhlchjmkkaaW.PrintWords Go.Proofs.YtkcckhlchjmkkaaW.PrintMore Go.Proofs.Ytkcckhlchjmkkaa.PMark

/-- The records with their stamps: 11, 21, .. -/
def stampB (L : List Rec) (k : Nat) : List Stp := (List.range k).map fun (i : Nat) => ⟨11 + 10 * (i : Int), recAt L i⟩
theorem stampB_snoc (L : List Rec) (k : Nat) : stampB L (k + 1) = stampB L k ++ [⟨11 + 10 * (k : Int), recAt L k⟩] := by simp [stampB, List.range_succ]
theorem stampB_len (L : List Rec) (k : Nat) : (stampB L k).length = k := by simp [stampB]
theorem stampB_take (L : List Rec) (k n : Nat) (h : k ≤ n) : (stampB L n).take k = stampB L k := by
  unfold stampB
  rw [← List.map_take, List.take_range, Nat.min_eq_left h]
def stepAll (o : List Opn) (X : List Stp) : List Opn := X.foldl (fun l x => stepO l x.f0 x.f1.f0 x.f1.f1) o
theorem lastS_none (S : List Stp) (h : ∀ x ∈ S, x.f1.f0 ≠ 6) : ∀ n, n ≤ S.length → lastS S n = -1
  | 0, _ => rfl
  | n + 1, hn => by
    unfold lastS
    rw [if_neg (h _ (mem_stp S n (by omega))), lastS_none S h n (by omega)]
theorem atS_none (S : List Stp) (h : ∀ x ∈ S, x.f1.f0 ≠ 6) : atS S = -1 := lastS_none S h _ (Nat.le_refl _)
theorem openN_none (S : List Stp) (h : ∀ x ∈ S, x.f1.f0 ≠ 6) : openN S S.length = stepAll [] S := by
  have ha := atS_none S h
  unfold openN openAt
  rw [if_pos (by omega), ha, List.take_length]
  rfl
theorem nextN_none (S : List Stp) (h : ∀ x ∈ S, x.f1.f0 ≠ 6) : nextN S S.length = S.foldl (fun a x => mx a (wrap64 (x.f1.f1 + 1))) 1 := by
  have ha := atS_none S h
  unfold nextN openAt
  rw [if_pos (by omega), List.take_length]
  rfl
/-- The place of the one checkpoint. -/
theorem stp_mid (A B : List Stp) (m : Stp) : stpAt (A ++ m :: B) A.length = m := by
  unfold stpAt
  rw [List.getD_eq_getElem?_getD, List.getElem?_append_right (Nat.le_refl _)]
  simp
theorem stp_right (A B : List Stp) (m : Stp) (i : Nat) (h1 : A.length < i) (h2 : i < (A ++ m :: B).length) : stpAt (A ++ m :: B) i ∈ B := by
  unfold stpAt
  rw [List.getD_eq_getElem?_getD, List.getElem?_append_right (by omega)]
  obtain ⟨j, hj⟩ : ∃ j, i - A.length = j + 1 := ⟨i - A.length - 1, by omega⟩
  rw [hj, List.getElem?_cons_succ, List.getElem?_eq_getElem (by simp at h2; omega)]
  exact List.getElem_mem _
theorem atS_mid (A B : List Stp) (m : Stp) (hm : m.f1.f0 = 6) (hB : ∀ x ∈ B, x.f1.f0 ≠ 6) : atS (A ++ m :: B) = A.length := by
  have : ∀ d, d ≤ B.length → lastS (A ++ m :: B) (A.length + 1 + d) = A.length := by
    intro d
    induction d with
    | zero => 
      intro _
      show lastS _ (A.length + 1) = _
      unfold lastS
      rw [stp_mid, if_pos hm]
    | succ d ih =>
      intro hd
      show lastS _ (A.length + 1 + d + 1) = _
      unfold lastS
      rw [if_neg (hB _ (stp_right A B m _ (by omega) (by simp; omega)))]
      exact ih (by omega)
  have h := this B.length (Nat.le_refl _)
  unfold atS
  rw [show (A ++ m :: B).length = A.length + 1 + B.length from by simp; omega]
  exact h
theorem openAt_mid (A B : List Stp) (m : Stp) (hm : m.f1.f0 = 6) (hB : ∀ x ∈ B, x.f1.f0 ≠ 6) : openAt (A ++ m :: B) = m.f1.f6 := by
  unfold openAt
  rw [atS_mid A B m hm hB, if_neg (by omega), Int.toNat_natCast, stp_mid]
theorem openN_mid (A B : List Stp) (m : Stp) (hm : m.f1.f0 = 6) (hB : ∀ x ∈ B, x.f1.f0 ≠ 6) : openN (A ++ m :: B) (A ++ m :: B).length = stepAll (base0 m.f1.f6) B := by
  unfold openN
  rw [openAt_mid A B m hm hB, atS_mid A B m hm hB, List.take_length, show ((A.length : Int) + 1).toNat = A.length + 1 from by omega]
  have : (A ++ m :: B).drop (A.length + 1) = B := by
    rw [List.drop_append, List.drop_eq_nil_of_le (by omega), show A.length + 1 - A.length = 1 from by omega]
    rfl
  rw [this]
  rfl
/-- A rising list, put anew entry by entry, is itself. -/
theorem insO_end (x : Opn) : ∀ l : List Opn, (∀ y ∈ l, y.f0 < x.f0) → insO x l = l ++ [x]
  | [], _ => rfl
  | y :: r, h => by
    have := h y (List.mem_cons_self ..)
    rw [insO, if_neg (by omega), insO_end x r (fun z hz => h z (List.mem_cons_of_mem _ hz))]
    rfl
theorem base_ris (l : List Opn) (h : Ris l) : base0 l = l := by
  have : ∀ (r a : List Opn), Ris (a ++ r) → r.foldl putO a = a ++ r := by
    intro r
    induction r with
    | nil => intro a _; simp
    | cons x r ih =>
      intro a ha
      have h1 : ∀ y ∈ a, y.f0 < x.f0 := fun y hy => (List.pairwise_append.1 ha).2.2 y hy x (List.mem_cons_self ..)
      have h2 : putO a x = a ++ [x] := by
        unfold putO
        rw [List.filter_eq_self.2 (fun y hy => by have := h1 y hy; simp; omega)]
        exact insO_end x a h1
      rw [List.foldl_cons, h2, ih (a ++ [x]) (by simpa using ha)]
      simp
  have := this l [] (by simpa using h)
  unfold base0
  simpa using this
theorem step_mem (o : List Opn) (s k d : Int) (y : Opn) (h : y ∈ stepO o s k d) : y ∈ o ∨ y.f0 = d := by
  unfold stepO at h
  split at h
  · rcases (ins_mem _ y _).1 h with rfl | h
    · exact Or.inr rfl
    · exact Or.inl (List.mem_filter.1 h).1
  · split at h
    · exact Or.inl (List.mem_filter.1 h).1
    · exact Or.inl h
theorem stepAll_mem : ∀ (X : List Stp) (o : List Opn) (y : Opn), y ∈ stepAll o X → y ∈ o ∨ ∃ x ∈ X, y.f0 = x.f1.f1
  | [], o, y, h => Or.inl h
  | x :: r, o, y, h => by
    rcases stepAll_mem r _ y h with h | ⟨x', hx', he⟩
    · rcases step_mem o _ _ _ y h with h | h
      · exact Or.inl h
      · exact Or.inr ⟨x, List.mem_cons_self .., h⟩
    · exact Or.inr ⟨x', List.mem_cons_of_mem _ hx', he⟩
theorem stepAll_app (o : List Opn) (X Y : List Stp) : stepAll o (X ++ Y) = stepAll (stepAll o X) Y := List.foldl_append
theorem ris_stepAll : ∀ (X : List Stp) (o : List Opn), Ris o → Ris (stepAll o X)
  | [], o, h => h
  | x :: r, o, h => ris_stepAll r _ (ris_step h _ _ _)
theorem mx_ge {α : Type} (f : α → Int) : ∀ (l : List α) (a : Int), a ≤ l.foldl (fun a x => mx a (f x)) a
  | [], a => Int.le_refl _
  | y :: r, a => by
    have := mx_ge f r (mx a (f y))
    have h : a ≤ mx a (f y) := by unfold mx; omega
    exact Int.le_trans h this
theorem mx_mem {α : Type} (f : α → Int) : ∀ (l : List α) (a : Int) (x : α), x ∈ l → f x ≤ l.foldl (fun a x => mx a (f x)) a
  | [], a, x, h => by cases h
  | y :: r, a, x, h => by
    rcases List.mem_cons.1 h with rfl | h
    · have := mx_ge f r (mx a (f x))
      have h : f x ≤ mx a (f x) := by unfold mx; omega
      exact Int.le_trans h this
    · exact mx_mem f r _ x h
theorem mx_absorb {α : Type} (f : α → Int) : ∀ (l : List α) (a : Int), (∀ x ∈ l, f x ≤ a) → l.foldl (fun a x => mx a (f x)) a = a
  | [], a, _ => rfl
  | y :: r, a, h => by
    have h1 : mx a (f y) = a := by have := h y (List.mem_cons_self ..); unfold mx; omega
    rw [List.foldl_cons, h1]
    exact mx_absorb f r a (fun x hx => h x (List.mem_cons_of_mem _ hx))
theorem nextN_mid (A B : List Stp) (m : Stp) (hm : m.f1.f0 = 6) (hd : m.f1.f1 = 0) (hB : ∀ x ∈ B, x.f1.f0 ≠ 6) (ho : ∀ o ∈ m.f1.f6, ∃ x ∈ A, o.f0 = x.f1.f1) :
    nextN (A ++ m :: B) (A ++ m :: B).length = (A ++ B).foldl (fun a x => mx a (wrap64 (x.f1.f1 + 1))) 1 := by
  unfold nextN next0
  rw [openAt_mid A B m hm hB, List.take_length, ← fold_mx2 (fun x : Stp => wrap64 (x.f1.f1 + 1)) (fun o : Opn => wrap64 (o.f0 + 1))]
  rw [mx_absorb]
  · rw [List.foldl_append, List.foldl_append, List.foldl_cons]
    have h1 : mx (A.foldl (fun a x => mx a (wrap64 (x.f1.f1 + 1))) 1) (wrap64 (m.f1.f1 + 1)) = A.foldl (fun a x => mx a (wrap64 (x.f1.f1 + 1))) 1 := by
      have := mx_ge (fun x : Stp => wrap64 (x.f1.f1 + 1)) A 1
      rw [hd, show wrap64 ((0 : Int) + 1) = 1 from by unfold wrap64; omega]
      unfold mx at *
      omega
    rw [h1]
  · intro o hom
    obtain ⟨x, hx, he⟩ := ho o hom
    rw [he]
    exact mx_mem (fun x : Stp => wrap64 (x.f1.f1 + 1)) _ _ x (List.mem_append_left _ hx)
theorem commN_mid (A B : List Stp) (m : Stp) (hm : m.f1.f0 = 6) : commN (A ++ m :: B) (A ++ m :: B).length = commN (A ++ B) (A ++ B).length := by
  unfold commN
  rw [List.take_length, List.take_length, List.filter_append, List.filter_append, List.filter_cons, if_neg (by simp [hm])]
theorem startS_mid (A B : List Stp) (m : Stp) (hm : m.f1.f0 = 6) (hB : ∀ x ∈ B, x.f1.f0 ≠ 6) : startS (A ++ m :: B) (atS (A ++ m :: B)) = leastD m.f0 m.f1.f7 := by
  unfold startS
  rw [atS_mid A B m hm hB, if_neg (by simp), if_neg (by omega), Int.toNat_natCast, stp_mid]
theorem leastD_le : ∀ (D : List Dty) (a : Int), leastD a D ≤ a
  | [], a => Int.le_refl _
  | d :: r, a => by
    have := leastD_le r (mn a d.f1)
    have h : mn a d.f1 ≤ a := by unfold mn; omega
    exact Int.le_trans this h
/-- With a checkpoint of who is open, all but the start is told as without. -/
def markM (st : Int) (A : List Stp) (D : List Dty) : Stp := ⟨st, ⟨6, 0, 0, 0, [], ⟨0, 0, ⟨#[]⟩, ⟨#[]⟩⟩, openN A A.length, D⟩⟩
theorem with_same (A B : List Stp) (D : List Dty) (st : Int) (hA : ∀ x ∈ A, x.f1.f0 ≠ 6) (hB : ∀ x ∈ B, x.f1.f0 ≠ 6) :
    openN (A ++ markM st A D :: B) (A ++ markM st A D :: B).length = openN (A ++ B) (A ++ B).length ∧
    nextN (A ++ markM st A D :: B) (A ++ markM st A D :: B).length = nextN (A ++ B) (A ++ B).length ∧
    commN (A ++ markM st A D :: B) (A ++ markM st A D :: B).length = commN (A ++ B) (A ++ B).length ∧
    startS (A ++ markM st A D :: B) (atS (A ++ markM st A D :: B)) = leastD st D := by
  have hAB : ∀ x ∈ A ++ B, x.f1.f0 ≠ 6 := fun x hx => by
    rcases List.mem_append.1 hx with h | h
    · exact hA x h
    · exact hB x h
  refine ⟨?_, ?_, commN_mid A B _ rfl, startS_mid A B _ rfl hB⟩
  · rw [openN_mid A B _ rfl hB, openN_none (A ++ B) hAB, stepAll_app]
    show stepAll (base0 (openN A A.length)) B = _
    rw [base_ris _ (ris_open A A.length), openN_none A hA]
  · rw [nextN_mid A B _ rfl rfl hB ?_, nextN_none (A ++ B) hAB]
    intro o ho
    have ho : o ∈ openN A A.length := ho
    rw [openN_none A hA] at ho
    rcases stepAll_mem A [] o ho with h | h
    · cases h
    · exact h
theorem okS_B (L : List Rec) (n : Nat) (hn : n ≤ 40) (h : ∀ j, j < n → GoodR (recAt L j)) : OkS (stampB L n) := by
  refine ⟨by rw [stampB_len]; omega, fun x hx => ?_⟩
  obtain ⟨i, hi, rfl⟩ := List.mem_map.1 hx
  have hi := List.mem_range.1 hi
  obtain ⟨h1, h2, h3, h4⟩ := h i hi
  refine ⟨?_, ?_, ?_, ?_, fun o ho => ?_⟩
  · show (recAt L i).f7.length ≤ _; omega
  · show (recAt L i).f6.length ≤ _; omega
  · show In64 (11 + 10 * (i : Int)); exact ⟨by omega, by omega⟩
  · show In64 (recAt L i).f1; exact ⟨by omega, by omega⟩
  · have := h4 o ho
    exact ⟨⟨by omega, by omega⟩, ⟨by omega, by omega⟩⟩
theorem stampB_kind (L : List Rec) (n : Nat) (h : ∀ j, j < n → (recAt L j).f0 ≠ 6) : ∀ x ∈ stampB L n, x.f1.f0 ≠ 6 := by
  intro x hx
  obtain ⟨i, hi, rfl⟩ := List.mem_map.1 hx
  exact h i (List.mem_range.1 hi)
def withL (L : List Rec) (D : List Dty) (kk n : Nat) : List Stp := stampB L kk ++ markM (6 + 10 * (kk : Int)) (stampB L kk) D :: (stampB L n).drop kk
theorem withL_snoc (L : List Rec) (D : List Dty) (kk n : Nat) (h : kk ≤ n) : withL L D kk (n + 1) = withL L D kk n ++ [⟨11 + 10 * (n : Int), recAt L n⟩] := by
  unfold withL
  rw [stampB_snoc, List.drop_append_of_le_length (by rw [stampB_len]; exact h)]
  simp
theorem withL_nil (L : List Rec) (D : List Dty) (kk : Nat) : withL L D kk kk = stampB L kk ++ [markM (6 + 10 * (kk : Int)) (stampB L kk) D] := by
  unfold withL
  rw [List.drop_eq_nil_of_le (by rw [stampB_len]; exact Nat.le_refl _)]
theorem withL_len (L : List Rec) (D : List Dty) (kk n : Nat) (h : kk ≤ n) : (withL L D kk n).length = n + 1 := by
  unfold withL
  rw [List.length_append, List.length_cons, List.length_drop, stampB_len, stampB_len]
  omega
theorem stamp_split (L : List Rec) (kk n : Nat) (h : kk ≤ n) : stampB L kk ++ (stampB L n).drop kk = stampB L n := by
  rw [← stampB_take L kk n h, List.take_append_drop]
theorem okS_W (L : List Rec) (D : List Dty) (hD : D.length ≤ 20) (kk n : Nat) (hn : n ≤ 40) (hk : kk ≤ n) (h : ∀ j, j < n → GoodR (recAt L j) ∧ (recAt L j).f0 ≠ 6) : OkS (withL L D kk n) := by
  have hB := okS_B L n hn (fun j hj => (h j hj).1)
  have hA := okS_B L kk (by omega) (fun j hj => (h j (by omega)).1)
  refine ⟨by rw [withL_len L D kk n hk]; omega, fun x hx => ?_⟩
  unfold withL at hx
  rcases List.mem_append.1 hx with hx | hx
  · exact hA.2 x hx
  · rcases List.mem_cons.1 hx with rfl | hx
    · have hl := openN_len' _ hA
      have hol := openN_len (stampB L kk) (stampB L kk).length
      have hoa : openAt (stampB L kk) = [] := by
        unfold openAt
        rw [atS_none _ (stampB_kind L kk (fun j hj => (h j (by omega)).2)), if_pos (by omega)]
      rw [hoa, stampB_len] at hol
      refine ⟨?_, ?_, ?_, ?_, ?_⟩
      · show D.length ≤ _; omega
      · show (openN (stampB L kk) (stampB L kk).length).length ≤ _; rw [stampB_len]; simp at hol; omega
      · show In64 (6 + 10 * (kk : Int)); exact ⟨by omega, by omega⟩
      · show In64 0; exact ⟨by omega, by omega⟩
      · exact ok_open _ hA _ (ok_openAt _ hA)
    · exact hB.2 x (List.mem_of_mem_drop hx)
theorem withL_same (L : List Rec) (D : List Dty) (kk n : Nat) (hk : kk ≤ n) (h : ∀ j, j < n → (recAt L j).f0 ≠ 6) :
    openN (withL L D kk n) (withL L D kk n).length = openN (stampB L n) (stampB L n).length ∧ nextN (withL L D kk n) (withL L D kk n).length = nextN (stampB L n) (stampB L n).length ∧
    commN (withL L D kk n) (withL L D kk n).length = commN (stampB L n) (stampB L n).length ∧ startS (withL L D kk n) (atS (withL L D kk n)) = leastD (6 + 10 * (kk : Int)) D := by
  have := with_same (stampB L kk) ((stampB L n).drop kk) D (6 + 10 * (kk : Int)) (stampB_kind L kk (fun j hj => h j (by omega))) (fun x hx => stampB_kind L n h x (List.mem_of_mem_drop hx))
  rw [stamp_split L kk n hk] at this
  exact this
theorem pick_k (a : Int) (n : Nat) (hn : n ≤ 1000000) : ∃ kk : Nat, wrap64 ((IntKind.u64.wrap a).tmod (↑n + 1)) = (kk : Int) ∧ kk ≤ n := by
  have h0 : 0 ≤ IntKind.u64.wrap a := by simp [IntKind.wrap, IntKind.signed, IntKind.bits]; omega
  generalize IntKind.u64.wrap a = b at *
  have h1 : 0 ≤ b.tmod (↑n + 1) := Int.tmod_nonneg _ h0
  have h2 : b.tmod (↑n + 1) < ↑n + 1 := Int.tmod_lt_of_pos _ (by omega)
  generalize b.tmod (↑n + 1) = m at *
  obtain ⟨k, rfl⟩ := Int.eq_ofNat_of_zero_le h1
  exact ⟨k, by unfold wrap64; omega, by omega⟩
end Go.Proofs.Ytkcckhlchjmkkaa

/-
  'gauger's law ChainExact holds of every input: it returns true, and each argument reads behind the call as it read before.
  This text: part 10 of 14 of the proof (ChR, ChL, LKeys, ChM).
-/
import Derived.Test.YtlhbfikfnecknaaMai
import Derived.Shelf.SlIterI.Nil
import Derived.Shelf.SortM.Plain
import Derived.Shelf.SortM.SortNone
import Derived.Ground.GgzProg
import Derived.Ground.SlgmProg
import Derived.Test.YtlhbfikfnecknaaProg
import Derived.Test.YtlhbfikfnecknaaMaf
set_option linter.unusedVariables false
set_option linter.unusedSimpArgs false
set_option maxRecDepth 100000
set_option maxHeartbeats 4000000
namespace Go.Proofs.Ytlhbfikfnecknaa.AM.Ch
open Go
theorem flat_get {st : Nat} : ∀ {es : List (List AV)} {i : Nat} {e : List AV}, (∀ e ∈ es, e.length = st) → es[i]? = some e → (es.flatten.drop (i * st)).take st = e ∧ i * st + st ≤ es.flatten.length
 | [], i, e, _, h => by simp at h
 | x :: es, 0, e, hl, h => by
  cases h
  have hx := hl x (by simp)
  refine ⟨?_, by simp [hx]⟩
  rw [Nat.zero_mul, List.drop_zero, List.flatten_cons, List.take_append_of_le_length (by omega), List.take_of_length_le (by omega)]
 | x :: es, i + 1, e, hl, h => by
  have hx := hl x (by simp)
  obtain ⟨h1, h2⟩ := flat_get (es := es) (i := i) (fun y hy => hl y (by simp [hy])) (by simpa using h)
  rw [List.flatten_cons, Nat.succ_mul]
  refine ⟨?_, by rw [List.length_append]; omega⟩
  rw [← h1]
  congr 1
  rw [List.drop_append, List.drop_of_length_le (by omega), List.nil_append]
  congr 1
  omega
theorem ldEl {H : List Blk} {id st : Nat} {es : List (List AV)} {i k : Nat} {e : List AV} {n : Option Nat} {v : AV} (hb : (∀ e ∈ es, e.length = st) ∧ H[id]? = some (.cells es.flatten)) (hi : es[i]? = some e) (hv : (bif Nat.ble (k + cellsN n) e.length then asVar n ((e.drop k).take (cellsN n)) else none) = some v) :
  pOp evC H (.load n (.c (.ptr id (0 + (i : Int).toNat * st + k)))) = some v := by
 obtain ⟨h1, h2⟩ := flat_get hb.1 hi
 have hle := hb.1 e (List.mem_of_getElem? hi)
 simp only [pOp, evC, rdPtr, rdCells, hb.2, Int.toNat_natCast, Nat.zero_add]
 cases hb2 : Nat.ble (k + cellsN n) e.length with
 | false => rw [hb2] at hv; cases hv
 | true =>
  rw [hb2] at hv
  have hk := Nat.le_of_ble_eq_true hb2
  rw [if_pos (by omega)]
  have : (es.flatten.drop (i * st + k)).take (cellsN n) = (e.drop k).take (cellsN n) := by
   rw [← h1, List.drop_take, List.drop_drop, List.take_take, Nat.min_eq_left (by omega)]
  rw [this]
  exact hv
theorem ldEl0 {H : List Blk} {id st : Nat} {es : List (List AV)} {i : Nat} {e : List AV} {n : Option Nat} {v : AV} (hb : (∀ e ∈ es, e.length = st) ∧ H[id]? = some (.cells es.flatten)) (hi : es[i]? = some e) (hv : (bif Nat.ble (0 + cellsN n) e.length then asVar n ((e.drop 0).take (cellsN n)) else none) = some v) :
  pOp evC H (.load n (.c (.ptr id (0 + (i : Int).toNat * st)))) = some v := ldEl hb hi hv
structure Two (H : List Blk) (idL idS : Nat) (l : List Stm) : Prop where
 L : (∀ e ∈ (l.map fun s => enR s.r), e.length = 11) ∧ H[idL]? = some (.cells (l.map fun s => enR s.r).flatten)
 S : (∀ e ∈ (l.map fun s => [AV.int .i64 s.st]), e.length = 1) ∧ H[idS]? = some (.cells (l.map fun s => [AV.int .i64 s.st]).flatten)
theorem Two.up {H H' : List Blk} {idL idS : Nat} {l : List Stm} (h : Two H idL idS l) (u : Up H H') : Two H' idL idS l := ⟨⟨h.L.1, u.2 _ _ h.L.2⟩, ⟨h.S.1, u.2 _ _ h.S.2⟩⟩
theorem gaE {H : List Blk} {id st : Nat} {es : List (List AV)} {b : Blk} (h : (∀ e ∈ es, e.length = st) ∧ H[id]? = some (.cells es.flatten)) : (∀ e ∈ es, e.length = st) ∧ (H ++ [b])[id]? = some (.cells es.flatten) := ⟨h.1, ga h.2⟩
def endAny (F : List Stm) : Bool := F.any fun s => decide (s.r.k ≥ 3)
theorem endAny_snoc (F : List Stm) (s : Stm) : endAny (F ++ [s]) = (endAny F || decide (s.r.k ≥ 3)) := by simp [endAny]
def PlaceIs (l : List Stm) (n : Nat) (o : Option Rec) (p : Int) : Prop := (o = none ∧ p = -1) ∨ ∃ (j : Nat) (s : Stm), p = (j : Int) ∧ j < n ∧ l[j]? = some s ∧ o = some s.r
theorem atOf_some {l : List Stm} {n : Nat} (hg : GoodP (l.take n)) {id a : Int} {j : Nat} {s : Stm} (hj : j < n) (hs : l[j]? = some s) (h1 : isOwn s.r = true) (h2 : s.r.deal = id) (h3 : s.st = a) : atOf (own (l.take n) id) a = some s := by
 have hm : s ∈ l.take n := List.mem_of_getElem? (by rw [List.getElem?_take_of_lt hj]; exact hs)
 have hmo : s ∈ own (l.take n) id := by
  unfold own
  rw [List.mem_filter]
  exact ⟨hm, by simp [h1, h2]⟩
 cases hf : atOf (own (l.take n) id) a with
 | none =>
  have := List.find?_eq_none.1 hf s hmo
  simp [h3] at this
 | some y =>
  have hy1 := List.mem_of_find?_eq_some hf
  have hy2 := List.find?_some hf
  simp only [beq_iff_eq] at hy2
  rw [hg.inj y (own_mem hy1).1 s hm (by omega)]
theorem atOf_none {l : List Stm} {n : Nat} {id a : Int} (h : ∀ j, j < n → ∀ s, l[j]? = some s → ¬ (isOwn s.r = true ∧ s.r.deal = id ∧ s.st = a)) : atOf (own (l.take n) id) a = none := by
 unfold atOf
 rw [List.find?_eq_none]
 intro s hs hk
 obtain ⟨h1, h2, h3⟩ := own_mem hs
 obtain ⟨j, hj, rfl⟩ := List.getElem_of_mem h1
 rw [List.length_take] at hj
 refine h j (by omega) _ ?_ ⟨h2, h3, by simpa using hk⟩
 rw [← List.getElem?_take_of_lt (show j < n by omega), List.getElem?_eq_getElem (by rw [List.length_take]; omega)]
section
variable {Γ : FuncId → Option GF} (u : Un Γ)
include u
theorem own_cl (r : Rec) (H : List Blk) : ∃ lo, Cl Γ T 15 [.agg (enR r)] H (.bool (isOwn r), ap H (enR r), lo) := by
 by_cases h1 : r.k ≥ 1
 ·by_cases h2 : r.k ≤ 4
  ·rw [show isOwn r = true by unfold isOwn; rw [decide_eq_true h1, decide_eq_true h2]; rfl]
   exact clP (af := a15) [.w (.ptr (List.length H) 0) (ap H (enR r)) none, .f (.int .i64 r.k), .b true, .f (.int .i64 r.k), .b true] [wOp evC H (.box (.c (.agg (enR r)))) = some ((.ptr (List.length H) 0), (ap H (enR r)), none), pOp evC (ap H (enR r)) (.load none (.c (.ptr (List.length H) 0))) = some (.int .i64 r.k), cB (decide (r.k ≥ 1)) true, pOp evC (ap H (enR r)) (.load none (.c (.ptr (List.length H) 0))) = some (.int .i64 r.k), cB (decide (r.k ≤ 4)) true] u.g15 (by kernel_rfl) (by kernel_rfl) (by kernel_rfl) ⟨rfl, (ldC gl (by kernel_rfl)), (cT h1), (ldC gl (by kernel_rfl)), (cT h2), trivial⟩
  ·rw [show isOwn r = false by unfold isOwn; rw [decide_eq_false h2, Bool.and_false]]
   exact clP (af := a15) [.w (.ptr (List.length H) 0) (ap H (enR r)) none, .f (.int .i64 r.k), .b true, .f (.int .i64 r.k), .b false] [wOp evC H (.box (.c (.agg (enR r)))) = some ((.ptr (List.length H) 0), (ap H (enR r)), none), pOp evC (ap H (enR r)) (.load none (.c (.ptr (List.length H) 0))) = some (.int .i64 r.k), cB (decide (r.k ≥ 1)) true, pOp evC (ap H (enR r)) (.load none (.c (.ptr (List.length H) 0))) = some (.int .i64 r.k), cB (decide (r.k ≤ 4)) false] u.g15 (by kernel_rfl) (by kernel_rfl) (by kernel_rfl) ⟨rfl, (ldC gl (by kernel_rfl)), (cT h1), (ldC gl (by kernel_rfl)), (cF h2), trivial⟩
 ·rw [show isOwn r = false by unfold isOwn; rw [decide_eq_false h1, Bool.false_and]]
  exact clP (af := a15) [.w (.ptr (List.length H) 0) (ap H (enR r)) none, .f (.int .i64 r.k), .b false] [wOp evC H (.box (.c (.agg (enR r)))) = some ((.ptr (List.length H) 0), (ap H (enR r)), none), pOp evC (ap H (enR r)) (.load none (.c (.ptr (List.length H) 0))) = some (.int .i64 r.k), cB (decide (r.k ≥ 1)) false] u.g15 (by kernel_rfl) (by kernel_rfl) (by kernel_rfl) ⟨rfl, (ldC gl (by kernel_rfl)), (cF h1), trivial⟩
theorem state_cl {H : List Blk} {idL idS : Nat} {l : List Stm} {exL exS : Bool} (ht : Two H idL idS l) {n : Nat} (hn : n ≤ l.length) (hl1000 : l.length ≤ 1000) (hg : GoodP (l.take n)) (id : Int) :
  ∃ H' lo p, Cl Γ T 28 [(.sl idL 11 0 l.length l.length exL), (.sl idS 1 0 l.length l.length exS), .int .i64 (n : Int), .int .i64 id] H (.tup [.int .i64 (lastOf (own (l.take n) id)), .bool (endAny (own (l.take n) id)), .int .i64 p], H', lo) ∧ Up H H' ∧ PlaceIs l n (nx (own (l.take n) id) (n + 1) (lastOf (own (l.take n) id))) p := by
 have hb := clB (Γ := Γ) (tbl := T) (f := 28) (af := a28) (args := [(.sl idL 11 0 l.length l.length exL), (.sl idS 1 0 l.length l.length exS), .int .i64 (n : Int), .int .i64 id]) (h := H) u.g28 (by kernel_rfl) (by kernel_rfl) (fun r h' => ∃ p, r = .tup [.int .i64 (lastOf (own (l.take n) id)), .bool (endAny (own (l.take n) id)), .int .i64 p] ∧ Up H h' ∧ PlaceIs l n (nx (own (l.take n) id) (n + 1) (lastOf (own (l.take n) id))) p) ?_
 ·obtain ⟨r, h', lo, ⟨p, rfl, h1, h3⟩, h2⟩ := hb
  exact ⟨h', lo, p, h2, h1, h3⟩
 refine Wp.seq ((path4 (nt := 112) (live := [(0, (.sl idL 11 0 l.length l.length exL)), (1, (.sl idS 1 0 l.length l.length exS)), (2, (.int .i64 (n : Int))), (3, (.int .i64 id))]) [] [0, 1, 2, 3] (e := .normal) (vals := [(.sl idL 11 0 l.length l.length exL), (.sl idS 1 0 l.length l.length exS), (.int .i64 (n : Int)), (.int .i64 id)]) (h' := H) [] ⟨by simp [a28], by simp [getX_eq]⟩ (fun t0 => by kernel_rfl) trivial).mono ?_)
 rintro e s ⟨rfl, t0, lo0, rfl, hl1⟩
 refine Wp.seq ((path4 (nt := 112) [] [0, 1, 2, 3, 11] (e := .normal) (vals := [(.sl idL 11 0 l.length l.length exL), (.sl idS 1 0 l.length l.length exS), (.int .i64 (n : Int)), (.int .i64 id), (.int .i64 0)]) (h' := H) [] hl1 (fun t0 => by kernel_rfl) trivial).mono ?_)
 rintro e s ⟨rfl, t1, lo1, rfl, hl2⟩
 refine Wp.seq ((path4 (nt := 112) [] [0, 1, 2, 3, 11, 12] (e := .normal) (vals := [(.sl idL 11 0 l.length l.length exL), (.sl idS 1 0 l.length l.length exS), (.int .i64 (n : Int)), (.int .i64 id), (.int .i64 0), (.bool false)]) (h' := H) [] hl2 (fun t0 => by kernel_rfl) trivial).mono ?_)
 rintro e s ⟨rfl, t2, lo2, rfl, hl3⟩
 refine Wp.seq (Wp.seq ((path4 (nt := 112) [] [0, 1, 2, 3, 11, 12, 13] (e := .normal) (vals := [(.sl idL 11 0 l.length l.length exL), (.sl idS 1 0 l.length l.length exS), (.int .i64 (n : Int)), (.int .i64 id), (.int .i64 0), (.bool false), (.int .i64 0)]) (h' := H) [] hl3 (fun t0 => by kernel_rfl) trivial).mono ?_))
 rintro e s ⟨rfl, t3, lo3, rfl, hl4⟩
 refine Wp.block (Wp.mono (Wp.loop (Q := fun e s => e = .exit 0 ∧ ∃ t G lo, s = { t := t, h := G, lo := lo } ∧ Up H G ∧ Lv 112 [(0, (.sl idL 11 0 l.length l.length exL)), (1, (.sl idS 1 0 l.length l.length exS)), (2, (.int .i64 (n : Int))), (3, (.int .i64 id)), (11, (.int .i64 (lastOf (own (l.take n) id)))), (12, (.bool (endAny (own (l.take n) id))))] t) (fun k s => ∃ (i : Nat) (t : List AV) (G : List Blk) (lo : Option Nat), s = { t := t, h := G, lo := lo } ∧ k = n - i ∧ i ≤ n ∧ Up H G ∧ Lv 112 [(0, (.sl idL 11 0 l.length l.length exL)), (1, (.sl idS 1 0 l.length l.length exS)), (2, (.int .i64 (n : Int))), (3, (.int .i64 id)), (11, (.int .i64 (lastOf (own (l.take i) id)))), (12, (.bool (endAny (own (l.take i) id)))), (13, (.int .i64 (i : Int)))] t) ?_ n _ ⟨0, t3, H, lo3, rfl, rfl, by omega, Up.refl _, by rw [List.take_zero]; exact hl4⟩) fun e s h => ?_)
 ·clear hl4 hl3 hl2 hl1
  rintro k s ⟨i, t, G, lo, rfl, rfl, hile, hU, hl⟩
  have fL := (ht.up hU).L
  have fS := (ht.up hU).S
  by_cases hlt : i < n
  ·have hi : (i : Int) < (n : Int) := by omega
   have hx := List.getElem?_eq_getElem (show i < l.length by omega)
   have htk : l.take (i + 1) = l.take i ++ [l[i]] := by rw [List.take_add_one, hx]; rfl
   have hget : (l.map fun s => enR s.r)[i]? = some (enR l[i].r) := by rw [List.getElem?_map, hx]; rfl
   have hgetS : (l.map fun s => [AV.int .i64 s.st])[i]? = some [.int .i64 l[i].st] := by rw [List.getElem?_map, hx]; rfl
   generalize l[i] = s at htk hget hgetS
   obtain ⟨lo1, hco⟩ := own_cl u s.r G
   have hwp : IntKind.i64.wrap ((i : Int) + 1) = ((i + 1 : Nat) : Int) := by rw [IntWalk.i64_in _ (by omega)]; rfl
   have hown := own_snoc (l.take i) s id
   rw [← htk] at hown
   cases ho : isOwn s.r with
   | false =>
    rw [ho] at hco
    rw [if_neg (by simp [ho]), List.append_nil] at hown
    cases he : endAny (own (l.take i) id) with
    | true =>
     rw [he] at hl
     refine (path4 (nt := 112) [.b true, .f (.agg (enR s.r)), .r (.bool false) (ap G (enR s.r)) lo1] [0, 1, 2, 3, 11, 12, 13] (e := .normal) (vals := [(.sl idL 11 0 l.length l.length exL), (.sl idS 1 0 l.length l.length exS), (.int .i64 (n : Int)), (.int .i64 id), (.int .i64 (lastOf (own (l.take i) id))), (.bool true), (.int .i64 (IntKind.i64.wrap ((i : Int) + 1)))]) (h' := (ap G (enR s.r))) [cB (decide ((i : Int) < (n : Int))) true, 11 = 11, 0 ≤ (i : Int), (i : Int) < ((l.length : Nat) : Int), pOp evC G (.load (some 11) (.c (.ptr idL (0 + (Int.toNat (i : Int)) * 11)))) = some (.agg (enR s.r)), Cl Γ T 15 [(.agg (enR s.r))] G ((.bool false), (ap G (enR s.r)), lo1)] hl (fun t0 => by kernel_rfl) ⟨(cT hi), rfl, (by omega), (by omega), (ldEl0 fL hget (by kernel_rfl)), hco, trivial⟩).mono ?_
     rintro e s' ⟨rfl, t4, lo4, rfl, hl4⟩
     rw [hwp] at hl4
     exact ⟨n - (i + 1), by omega, i + 1, t4, _, lo4, rfl, rfl, by omega, hU.trans (Up.app _ _), by rw [hown, he]; exact hl4⟩
    | false =>
     rw [he] at hl
     refine (path4 (nt := 112) [.b true, .f (.agg (enR s.r)), .r (.bool false) (ap G (enR s.r)) lo1] [0, 1, 2, 3, 11, 12, 13] (e := .normal) (vals := [(.sl idL 11 0 l.length l.length exL), (.sl idS 1 0 l.length l.length exS), (.int .i64 (n : Int)), (.int .i64 id), (.int .i64 (lastOf (own (l.take i) id))), (.bool false), (.int .i64 (IntKind.i64.wrap ((i : Int) + 1)))]) (h' := (ap G (enR s.r))) [cB (decide ((i : Int) < (n : Int))) true, 11 = 11, 0 ≤ (i : Int), (i : Int) < ((l.length : Nat) : Int), pOp evC G (.load (some 11) (.c (.ptr idL (0 + (Int.toNat (i : Int)) * 11)))) = some (.agg (enR s.r)), Cl Γ T 15 [(.agg (enR s.r))] G ((.bool false), (ap G (enR s.r)), lo1)] hl (fun t0 => by kernel_rfl) ⟨(cT hi), rfl, (by omega), (by omega), (ldEl0 fL hget (by kernel_rfl)), hco, trivial⟩).mono ?_
     rintro e s' ⟨rfl, t4, lo4, rfl, hl4⟩
     rw [hwp] at hl4
     exact ⟨n - (i + 1), by omega, i + 1, t4, _, lo4, rfl, rfl, by omega, hU.trans (Up.app _ _), by rw [hown, he]; exact hl4⟩
   | true =>
    rw [ho] at hco
    by_cases hd : s.r.deal = id
    ·rw [if_pos ⟨ho, hd⟩] at hown
     have h1 : lastOf (own (l.take (i + 1)) id) = s.st := by rw [hown, lastOf_snoc]
     have h2 : endAny (own (l.take (i + 1)) id) = (endAny (own (l.take i) id) || decide (s.r.k ≥ 3)) := by rw [hown, endAny_snoc]
     cases he : endAny (own (l.take i) id) with
     | true =>
      rw [he] at hl h2
      refine (path4 (nt := 112) [.b true, .f (.agg (enR s.r)), .r (.bool true) (ap G (enR s.r)) lo1, .f (.int .i64 s.r.deal), .b true, .f (.int .i64 s.st)] [0, 1, 2, 3, 11, 12, 13] (e := .normal) (vals := [(.sl idL 11 0 l.length l.length exL), (.sl idS 1 0 l.length l.length exS), (.int .i64 (n : Int)), (.int .i64 id), (.int .i64 s.st), (.bool true), (.int .i64 (IntKind.i64.wrap ((i : Int) + 1)))]) (h' := (ap G (enR s.r))) [cB (decide ((i : Int) < (n : Int))) true, 11 = 11, 0 ≤ (i : Int), (i : Int) < ((l.length : Nat) : Int), pOp evC G (.load (some 11) (.c (.ptr idL (0 + (Int.toNat (i : Int)) * 11)))) = some (.agg (enR s.r)), Cl Γ T 15 [(.agg (enR s.r))] G ((.bool true), (ap G (enR s.r)), lo1), 11 = 11, 0 ≤ (i : Int), (i : Int) < ((l.length : Nat) : Int), pOp evC (ap G (enR s.r)) (.load none (.c (.ptr idL ((0 + (Int.toNat (i : Int)) * 11) + 1)))) = some (.int .i64 s.r.deal), cB (s.r.deal == id) true, 1 = 1, 0 ≤ (i : Int), (i : Int) < ((l.length : Nat) : Int), pOp evC (ap G (enR s.r)) (.load none (.c (.ptr idS (0 + (Int.toNat (i : Int)) * 1)))) = some (.int .i64 s.st)] hl (fun t0 => by kernel_rfl) ⟨(cT hi), rfl, (by omega), (by omega), (ldEl0 fL hget (by kernel_rfl)), hco, rfl, (by omega), (by omega), (ldEl (gaE fL) hget (by kernel_rfl)), (cE hd), rfl, (by omega), (by omega), (ldEl0 (gaE fS) hgetS (by kernel_rfl)), trivial⟩).mono ?_
      rintro e s' ⟨rfl, t4, lo4, rfl, hl4⟩
      rw [hwp] at hl4
      exact ⟨n - (i + 1), by omega, i + 1, t4, _, lo4, rfl, rfl, by omega, hU.trans (Up.app _ _), by rw [h1, h2]; exact hl4⟩
     | false =>
      rw [he] at hl h2
      refine (path4 (nt := 112) [.b true, .f (.agg (enR s.r)), .r (.bool true) (ap G (enR s.r)) lo1, .f (.int .i64 s.r.deal), .b true, .f (.int .i64 s.st), .f (.int .i64 s.r.k)] [0, 1, 2, 3, 11, 12, 13] (e := .normal) (vals := [(.sl idL 11 0 l.length l.length exL), (.sl idS 1 0 l.length l.length exS), (.int .i64 (n : Int)), (.int .i64 id), (.int .i64 s.st), (.bool (decide (s.r.k ≥ 3))), (.int .i64 (IntKind.i64.wrap ((i : Int) + 1)))]) (h' := (ap G (enR s.r))) [cB (decide ((i : Int) < (n : Int))) true, 11 = 11, 0 ≤ (i : Int), (i : Int) < ((l.length : Nat) : Int), pOp evC G (.load (some 11) (.c (.ptr idL (0 + (Int.toNat (i : Int)) * 11)))) = some (.agg (enR s.r)), Cl Γ T 15 [(.agg (enR s.r))] G ((.bool true), (ap G (enR s.r)), lo1), 11 = 11, 0 ≤ (i : Int), (i : Int) < ((l.length : Nat) : Int), pOp evC (ap G (enR s.r)) (.load none (.c (.ptr idL ((0 + (Int.toNat (i : Int)) * 11) + 1)))) = some (.int .i64 s.r.deal), cB (s.r.deal == id) true, 1 = 1, 0 ≤ (i : Int), (i : Int) < ((l.length : Nat) : Int), pOp evC (ap G (enR s.r)) (.load none (.c (.ptr idS (0 + (Int.toNat (i : Int)) * 1)))) = some (.int .i64 s.st), 11 = 11, 0 ≤ (i : Int), (i : Int) < ((l.length : Nat) : Int), pOp evC (ap G (enR s.r)) (.load none (.c (.ptr idL (0 + (Int.toNat (i : Int)) * 11)))) = some (.int .i64 s.r.k)] hl (fun t0 => by kernel_rfl) ⟨(cT hi), rfl, (by omega), (by omega), (ldEl0 fL hget (by kernel_rfl)), hco, rfl, (by omega), (by omega), (ldEl (gaE fL) hget (by kernel_rfl)), (cE hd), rfl, (by omega), (by omega), (ldEl0 (gaE fS) hgetS (by kernel_rfl)), rfl, (by omega), (by omega), (ldEl0 (gaE fL) hget (by kernel_rfl)), trivial⟩).mono ?_
      rintro e s' ⟨rfl, t4, lo4, rfl, hl4⟩
      rw [hwp] at hl4
      exact ⟨n - (i + 1), by omega, i + 1, t4, _, lo4, rfl, rfl, by omega, hU.trans (Up.app _ _), by rw [h1, h2]; exact hl4⟩
    ·rw [if_neg (by simp [hd]), List.append_nil] at hown
     cases he : endAny (own (l.take i) id) with
     | true =>
      rw [he] at hl
      refine (path4 (nt := 112) [.b true, .f (.agg (enR s.r)), .r (.bool true) (ap G (enR s.r)) lo1, .f (.int .i64 s.r.deal), .b false] [0, 1, 2, 3, 11, 12, 13] (e := .normal) (vals := [(.sl idL 11 0 l.length l.length exL), (.sl idS 1 0 l.length l.length exS), (.int .i64 (n : Int)), (.int .i64 id), (.int .i64 (lastOf (own (l.take i) id))), (.bool true), (.int .i64 (IntKind.i64.wrap ((i : Int) + 1)))]) (h' := (ap G (enR s.r))) [cB (decide ((i : Int) < (n : Int))) true, 11 = 11, 0 ≤ (i : Int), (i : Int) < ((l.length : Nat) : Int), pOp evC G (.load (some 11) (.c (.ptr idL (0 + (Int.toNat (i : Int)) * 11)))) = some (.agg (enR s.r)), Cl Γ T 15 [(.agg (enR s.r))] G ((.bool true), (ap G (enR s.r)), lo1), 11 = 11, 0 ≤ (i : Int), (i : Int) < ((l.length : Nat) : Int), pOp evC (ap G (enR s.r)) (.load none (.c (.ptr idL ((0 + (Int.toNat (i : Int)) * 11) + 1)))) = some (.int .i64 s.r.deal), cB (s.r.deal == id) false] hl (fun t0 => by kernel_rfl) ⟨(cT hi), rfl, (by omega), (by omega), (ldEl0 fL hget (by kernel_rfl)), hco, rfl, (by omega), (by omega), (ldEl (gaE fL) hget (by kernel_rfl)), (cN hd), trivial⟩).mono ?_
      rintro e s' ⟨rfl, t4, lo4, rfl, hl4⟩
      rw [hwp] at hl4
      exact ⟨n - (i + 1), by omega, i + 1, t4, _, lo4, rfl, rfl, by omega, hU.trans (Up.app _ _), by rw [hown, he]; exact hl4⟩
     | false =>
      rw [he] at hl
      refine (path4 (nt := 112) [.b true, .f (.agg (enR s.r)), .r (.bool true) (ap G (enR s.r)) lo1, .f (.int .i64 s.r.deal), .b false] [0, 1, 2, 3, 11, 12, 13] (e := .normal) (vals := [(.sl idL 11 0 l.length l.length exL), (.sl idS 1 0 l.length l.length exS), (.int .i64 (n : Int)), (.int .i64 id), (.int .i64 (lastOf (own (l.take i) id))), (.bool false), (.int .i64 (IntKind.i64.wrap ((i : Int) + 1)))]) (h' := (ap G (enR s.r))) [cB (decide ((i : Int) < (n : Int))) true, 11 = 11, 0 ≤ (i : Int), (i : Int) < ((l.length : Nat) : Int), pOp evC G (.load (some 11) (.c (.ptr idL (0 + (Int.toNat (i : Int)) * 11)))) = some (.agg (enR s.r)), Cl Γ T 15 [(.agg (enR s.r))] G ((.bool true), (ap G (enR s.r)), lo1), 11 = 11, 0 ≤ (i : Int), (i : Int) < ((l.length : Nat) : Int), pOp evC (ap G (enR s.r)) (.load none (.c (.ptr idL ((0 + (Int.toNat (i : Int)) * 11) + 1)))) = some (.int .i64 s.r.deal), cB (s.r.deal == id) false] hl (fun t0 => by kernel_rfl) ⟨(cT hi), rfl, (by omega), (by omega), (ldEl0 fL hget (by kernel_rfl)), hco, rfl, (by omega), (by omega), (ldEl (gaE fL) hget (by kernel_rfl)), (cN hd), trivial⟩).mono ?_
      rintro e s' ⟨rfl, t4, lo4, rfl, hl4⟩
      rw [hwp] at hl4
      exact ⟨n - (i + 1), by omega, i + 1, t4, _, lo4, rfl, rfl, by omega, hU.trans (Up.app _ _), by rw [hown, he]; exact hl4⟩
  ·have hi : ¬ (i : Int) < (n : Int) := by omega
   have e1 : l.take i = l.take n := by rw [show i = n by omega]
   generalize hE : endAny (own (l.take i) id) = e at hl
   refine (path4 (nt := 112) [.b false] [0, 1, 2, 3, 11, 12] (e := (.exit 0)) (vals := [(.sl idL 11 0 l.length l.length exL), (.sl idS 1 0 l.length l.length exS), (.int .i64 (n : Int)), (.int .i64 id), (.int .i64 (lastOf (own (l.take i) id))), (.bool e)]) (h' := G) [cB (decide ((i : Int) < (n : Int))) false] hl (fun t0 => by kernel_rfl) ⟨(cF hi), trivial⟩).mono ?_
   rintro e s ⟨rfl, t4, lo4, rfl, hl4⟩
   exact ⟨rfl, t4, _, lo4, rfl, hU, by rw [← e1, hE]; exact hl4⟩
 obtain ⟨rfl, t, G, lo, rfl, hU, hl4⟩ := h
 show Wp Γ T _ _ _
 generalize hla : lastOf (own (l.take n) id) = la at hl4 ⊢
 generalize endAny (own (l.take n) id) = e at hl4 ⊢
 have fin : ∀ (t : List AV) (G : List Blk) (lo : Option Nat) (p : Int), Up H G → PlaceIs l n (nx (own (l.take n) id) (n + 1) la) p → Lv 112 [(8, .int .i64 la), (9, .bool e), (10, .int .i64 p)] t →
   (∀ i, AExit.ret ≠ .exit i) ∧ ∃ vs, resAll { t := t, h := G, lo := lo } a28.res = some vs ∧ ∃ p, packRes vs = .tup [.int .i64 la, .bool e, .int .i64 p] ∧ Up H G ∧ PlaceIs l n (nx (own (l.take n) id) (n + 1) la) p := by
  intro t G lo p hU hp h
  refine ⟨(fun i hi => by cases hi), [.int .i64 la, .bool e, .int .i64 p], ?_, p, rfl, hU, hp⟩
  have g8 := h.get (8, .int .i64 la) (by simp)
  have g9 := h.get (9, .bool e) (by simp)
  have g10 := h.get (10, .int .i64 p) (by simp)
  simp only [getX_eq] at g8 g9 g10
  simp [a28, resAll, resOf, g8, g9, g10]
 refine Wp.seq ((path4 (nt := 112) [] [0, 1, 2, 3, 11, 12, 14] (e := .normal) (vals := [(.sl idL 11 0 l.length l.length exL), (.sl idS 1 0 l.length l.length exS), (.int .i64 (n : Int)), (.int .i64 id), (.int .i64 la), (.bool e), (.int .i64 la)]) (h' := G) [] hl4 (fun t0 => by kernel_rfl) trivial).mono ?_)
 rintro e' s ⟨rfl, t5, lo5, rfl, hl5⟩
 refine Wp.seq (Wp.seq ((path4 (nt := 112) [] [0, 1, 2, 3, 11, 12, 14, 15] (e := .normal) (vals := [(.sl idL 11 0 l.length l.length exL), (.sl idS 1 0 l.length l.length exS), (.int .i64 (n : Int)), (.int .i64 id), (.int .i64 la), (.bool e), (.int .i64 la), (.int .i64 0)]) (h' := G) [] hl5 (fun t0 => by kernel_rfl) trivial).mono ?_))
 rintro e' s ⟨rfl, t6, lo6, rfl, hl6⟩
 generalize hF : own (l.take n) id = F at hla fin ⊢
 refine Wp.block (Wp.mono (Wp.loop (Q := fun e' s => (e' = .ret ∧ ∃ t G lo p, s = { t := t, h := G, lo := lo } ∧ Up H G ∧ PlaceIs l n (nx F (n + 1) la) p ∧ Lv 112 [(8, .int .i64 la), (9, .bool e), (10, .int .i64 p)] t) ∨ (e' = .exit 2 ∧ ∃ t G lo, s = { t := t, h := G, lo := lo } ∧ Up H G ∧ nx F (n + 1) la = none ∧ Lv 112 [(11, .int .i64 la), (12, .bool e)] t)) (fun k s => ∃ (j : Nat) (at_ : Int) (t : List AV) (G : List Blk) (lo : Option Nat), s = { t := t, h := G, lo := lo } ∧ k = n + 1 - j ∧ j ≤ n + 1 ∧ Up H G ∧ Lv 112 [(0, (.sl idL 11 0 l.length l.length exL)), (1, (.sl idS 1 0 l.length l.length exS)), (2, (.int .i64 (n : Int))), (3, (.int .i64 id)), (11, (.int .i64 la)), (12, (.bool e)), (14, (.int .i64 at_)), (15, (.int .i64 (j : Int)))] t ∧ nx F (n + 1) la = nx F (n + 1 - j) at_) ?_ (n + 1) _ ⟨0, la, t6, G, lo6, rfl, rfl, by omega, hU, hl6, rfl⟩) fun e' s h => ?_)
 ·clear hl6 hl5 hl4 hU
  rintro k s ⟨j, at_, t, G, lo, rfl, rfl, hjle, hU, hl, hnx⟩
  by_cases hjn : j ≤ n
  case neg =>
   have hj : ¬ (j : Int) ≤ (n : Int) := by omega
   rw [show n + 1 - j = 0 by omega, nx] at hnx
   refine Wp.seq ((path4 (nt := 112) [.b false] [11, 12] (e := (.exit 2)) (vals := [(.int .i64 la), (.bool e)]) (h' := G) [cB (decide ((j : Int) ≤ (n : Int))) false] hl (fun t0 => by kernel_rfl) ⟨(cF hj), trivial⟩).mono ?_)
   rintro e' s ⟨rfl, t7, lo7, rfl, hl7⟩
   exact .inr ⟨rfl, t7, _, lo7, rfl, hU, hnx, hl7⟩
  have hj : (j : Int) ≤ (n : Int) := by omega
  refine Wp.seq ((path4 (nt := 112) [.b true] [0, 1, 2, 3, 11, 12, 14, 15] (e := .normal) (vals := [(.sl idL 11 0 l.length l.length exL), (.sl idS 1 0 l.length l.length exS), (.int .i64 (n : Int)), (.int .i64 id), (.int .i64 la), (.bool e), (.int .i64 at_), (.int .i64 (j : Int))]) (h' := G) [cB (decide ((j : Int) ≤ (n : Int))) true] hl (fun t0 => by kernel_rfl) ⟨(cT hj), trivial⟩).mono ?_)
  rintro e' s ⟨rfl, t7, lo7, rfl, hl6⟩
  refine Wp.seq (Wp.block (Wp.seq ((path4 (nt := 112) [] [0, 1, 2, 3, 11, 12, 14, 15, 16] (e := .normal) (vals := [(.sl idL 11 0 l.length l.length exL), (.sl idS 1 0 l.length l.length exS), (.int .i64 (n : Int)), (.int .i64 id), (.int .i64 la), (.bool e), (.int .i64 at_), (.int .i64 (j : Int)), (.int .i64 (-1))]) (h' := G) [] hl6 (fun t0 => by kernel_rfl) trivial).mono ?_)))
  rintro e' s ⟨rfl, t8, lo8, rfl, hl7⟩
  refine Wp.seq (Wp.seq ((path4 (nt := 112) [] [0, 1, 2, 3, 11, 12, 14, 15, 16, 17] (e := .normal) (vals := [(.sl idL 11 0 l.length l.length exL), (.sl idS 1 0 l.length l.length exS), (.int .i64 (n : Int)), (.int .i64 id), (.int .i64 la), (.bool e), (.int .i64 at_), (.int .i64 (j : Int)), (.int .i64 (-1)), (.int .i64 0)]) (h' := G) [] hl7 (fun t0 => by kernel_rfl) trivial).mono ?_))
  rintro e' s ⟨rfl, t9, lo9, rfl, hl8⟩
  have hstep : nx F (n + 1 - j) at_ = match atOf F at_ with | none => none | some s => if s.r.k > 2 then none else if s.r.k = 1 then some s.r else nx F (n - j) s.r.next := by rw [show n + 1 - j = (n - j) + 1 by omega]; rfl
  rw [hstep] at hnx
  refine Wp.block (Wp.mono (Wp.loop (Q := fun e' s => e' = .exit 4 ∧ ∃ t G lo kk, s = { t := t, h := G, lo := lo } ∧ Up H G ∧ Lv 112 [(0, (.sl idL 11 0 l.length l.length exL)), (1, (.sl idS 1 0 l.length l.length exS)), (2, (.int .i64 (n : Int))), (3, (.int .i64 id)), (11, (.int .i64 la)), (12, (.bool e)), (14, (.int .i64 at_)), (15, (.int .i64 (j : Int))), (16, (.int .i64 kk))] t ∧ ((kk = -1 ∧ atOf F at_ = none) ∨ ∃ (i : Nat) (s : Stm), kk = (i : Int) ∧ i < n ∧ l[i]? = some s ∧ atOf F at_ = some s ∧ isOwn s.r = true)) (fun k s => ∃ (i : Nat) (kk : Int) (t : List AV) (G : List Blk) (lo : Option Nat), s = { t := t, h := G, lo := lo } ∧ k = n - i ∧ i ≤ n ∧ Up H G ∧ Lv 112 [(0, (.sl idL 11 0 l.length l.length exL)), (1, (.sl idS 1 0 l.length l.length exS)), (2, (.int .i64 (n : Int))), (3, (.int .i64 id)), (11, (.int .i64 la)), (12, (.bool e)), (14, (.int .i64 at_)), (15, (.int .i64 (j : Int))), (16, (.int .i64 kk)), (17, (.int .i64 (i : Int)))] t ∧ ((kk = -1 ∧ ∀ x, x < i → ∀ s, l[x]? = some s → ¬ (isOwn s.r = true ∧ s.r.deal = id ∧ s.st = at_)) ∨ ∃ (x : Nat) (s : Stm), kk = (x : Int) ∧ x < n ∧ l[x]? = some s ∧ isOwn s.r = true ∧ s.r.deal = id ∧ s.st = at_)) ?_ n _ ⟨0, -1, t9, G, lo9, rfl, rfl, by omega, hU, hl8, .inl ⟨rfl, fun x hx => by omega⟩⟩) fun e' s h => ?_)
  ·clear hl8 hl7 hl6 hl hU
   rintro k s ⟨i, kk, t, G, lo, rfl, rfl, hile, hU, hl, hkk⟩
   have fL := (ht.up hU).L
   have fS := (ht.up hU).S
   by_cases hlt : i < n
   ·have hi : (i : Int) < (n : Int) := by omega
    have hx := List.getElem?_eq_getElem (show i < l.length by omega)
    have hget : (l.map fun s => enR s.r)[i]? = some (enR l[i].r) := by rw [List.getElem?_map, hx]; rfl
    have hgetS : (l.map fun s => [AV.int .i64 s.st])[i]? = some [.int .i64 l[i].st] := by rw [List.getElem?_map, hx]; rfl
    generalize l[i] = s at hx hget hgetS
    obtain ⟨lo1, hco⟩ := own_cl u s.r G
    have hwp : IntKind.i64.wrap ((i : Int) + 1) = ((i + 1 : Nat) : Int) := by rw [IntWalk.i64_in _ (by omega)]; rfl
    have hno : ¬ (isOwn s.r = true ∧ s.r.deal = id ∧ s.st = at_) → ((kk = -1 ∧ ∀ x, x < i + 1 → ∀ s, l[x]? = some s → ¬ (isOwn s.r = true ∧ s.r.deal = id ∧ s.st = at_)) ∨ ∃ (x : Nat) (s : Stm), kk = (x : Int) ∧ x < n ∧ l[x]? = some s ∧ isOwn s.r = true ∧ s.r.deal = id ∧ s.st = at_) := fun hh => by
     rcases hkk with ⟨h1, h2⟩ | h
     ·refine .inl ⟨h1, fun x hx' y hy => ?_⟩
      by_cases hxi : x = i
      ·subst hxi; rw [hx] at hy; cases hy; exact hh
      ·exact h2 x (by omega) y hy
     ·exact .inr h
    cases ho : isOwn s.r with
    | false =>
     rw [ho] at hco
     refine (path4 (nt := 112) [.b true, .f (.agg (enR s.r)), .r (.bool false) (ap G (enR s.r)) lo1] [0, 1, 2, 3, 11, 12, 14, 15, 16, 17] (e := .normal) (vals := [(.sl idL 11 0 l.length l.length exL), (.sl idS 1 0 l.length l.length exS), (.int .i64 (n : Int)), (.int .i64 id), (.int .i64 la), (.bool e), (.int .i64 at_), (.int .i64 (j : Int)), (.int .i64 kk), (.int .i64 (IntKind.i64.wrap ((i : Int) + 1)))]) (h' := (ap G (enR s.r))) [cB (decide ((i : Int) < (n : Int))) true, 11 = 11, 0 ≤ (i : Int), (i : Int) < ((l.length : Nat) : Int), pOp evC G (.load (some 11) (.c (.ptr idL (0 + (Int.toNat (i : Int)) * 11)))) = some (.agg (enR s.r)), Cl Γ T 15 [(.agg (enR s.r))] G ((.bool false), (ap G (enR s.r)), lo1)] hl (fun t0 => by kernel_rfl) ⟨(cT hi), rfl, (by omega), (by omega), (ldEl0 fL hget (by kernel_rfl)), hco, trivial⟩).mono ?_
     rintro e s' ⟨rfl, t4, lo4, rfl, hl4⟩
     rw [hwp] at hl4
     exact ⟨n - (i + 1), by omega, i + 1, kk, t4, _, lo4, rfl, rfl, by omega, hU.trans (Up.app _ _), hl4, hno (by simp [ho])⟩
    | true =>
     rw [ho] at hco
     by_cases hd : s.r.deal = id
     ·by_cases hs : s.st = at_
      ·refine (path4 (nt := 112) [.b true, .f (.agg (enR s.r)), .r (.bool true) (ap G (enR s.r)) lo1, .f (.int .i64 s.r.deal), .b true, .f (.int .i64 s.st), .b true] [0, 1, 2, 3, 11, 12, 14, 15, 16, 17] (e := .normal) (vals := [(.sl idL 11 0 l.length l.length exL), (.sl idS 1 0 l.length l.length exS), (.int .i64 (n : Int)), (.int .i64 id), (.int .i64 la), (.bool e), (.int .i64 at_), (.int .i64 (j : Int)), (.int .i64 (i : Int)), (.int .i64 (IntKind.i64.wrap ((i : Int) + 1)))]) (h' := (ap G (enR s.r))) [cB (decide ((i : Int) < (n : Int))) true, 11 = 11, 0 ≤ (i : Int), (i : Int) < ((l.length : Nat) : Int), pOp evC G (.load (some 11) (.c (.ptr idL (0 + (Int.toNat (i : Int)) * 11)))) = some (.agg (enR s.r)), Cl Γ T 15 [(.agg (enR s.r))] G ((.bool true), (ap G (enR s.r)), lo1), 11 = 11, 0 ≤ (i : Int), (i : Int) < ((l.length : Nat) : Int), pOp evC (ap G (enR s.r)) (.load none (.c (.ptr idL ((0 + (Int.toNat (i : Int)) * 11) + 1)))) = some (.int .i64 s.r.deal), cB (s.r.deal == id) true, 1 = 1, 0 ≤ (i : Int), (i : Int) < ((l.length : Nat) : Int), pOp evC (ap G (enR s.r)) (.load none (.c (.ptr idS (0 + (Int.toNat (i : Int)) * 1)))) = some (.int .i64 s.st), cB (s.st == at_) true] hl (fun t0 => by kernel_rfl) ⟨(cT hi), rfl, (by omega), (by omega), (ldEl0 fL hget (by kernel_rfl)), hco, rfl, (by omega), (by omega), (ldEl (gaE fL) hget (by kernel_rfl)), (cE hd), rfl, (by omega), (by omega), (ldEl0 (gaE fS) hgetS (by kernel_rfl)), (cE hs), trivial⟩).mono ?_
       rintro e s' ⟨rfl, t4, lo4, rfl, hl4⟩
       rw [hwp] at hl4
       exact ⟨n - (i + 1), by omega, i + 1, i, t4, _, lo4, rfl, rfl, by omega, hU.trans (Up.app _ _), hl4, .inr ⟨i, s, rfl, hlt, hx, ho, hd, hs⟩⟩
      ·refine (path4 (nt := 112) [.b true, .f (.agg (enR s.r)), .r (.bool true) (ap G (enR s.r)) lo1, .f (.int .i64 s.r.deal), .b true, .f (.int .i64 s.st), .b false] [0, 1, 2, 3, 11, 12, 14, 15, 16, 17] (e := .normal) (vals := [(.sl idL 11 0 l.length l.length exL), (.sl idS 1 0 l.length l.length exS), (.int .i64 (n : Int)), (.int .i64 id), (.int .i64 la), (.bool e), (.int .i64 at_), (.int .i64 (j : Int)), (.int .i64 kk), (.int .i64 (IntKind.i64.wrap ((i : Int) + 1)))]) (h' := (ap G (enR s.r))) [cB (decide ((i : Int) < (n : Int))) true, 11 = 11, 0 ≤ (i : Int), (i : Int) < ((l.length : Nat) : Int), pOp evC G (.load (some 11) (.c (.ptr idL (0 + (Int.toNat (i : Int)) * 11)))) = some (.agg (enR s.r)), Cl Γ T 15 [(.agg (enR s.r))] G ((.bool true), (ap G (enR s.r)), lo1), 11 = 11, 0 ≤ (i : Int), (i : Int) < ((l.length : Nat) : Int), pOp evC (ap G (enR s.r)) (.load none (.c (.ptr idL ((0 + (Int.toNat (i : Int)) * 11) + 1)))) = some (.int .i64 s.r.deal), cB (s.r.deal == id) true, 1 = 1, 0 ≤ (i : Int), (i : Int) < ((l.length : Nat) : Int), pOp evC (ap G (enR s.r)) (.load none (.c (.ptr idS (0 + (Int.toNat (i : Int)) * 1)))) = some (.int .i64 s.st), cB (s.st == at_) false] hl (fun t0 => by kernel_rfl) ⟨(cT hi), rfl, (by omega), (by omega), (ldEl0 fL hget (by kernel_rfl)), hco, rfl, (by omega), (by omega), (ldEl (gaE fL) hget (by kernel_rfl)), (cE hd), rfl, (by omega), (by omega), (ldEl0 (gaE fS) hgetS (by kernel_rfl)), (cN hs), trivial⟩).mono ?_
       rintro e s' ⟨rfl, t4, lo4, rfl, hl4⟩
       rw [hwp] at hl4
       exact ⟨n - (i + 1), by omega, i + 1, kk, t4, _, lo4, rfl, rfl, by omega, hU.trans (Up.app _ _), hl4, hno (by simp [hs])⟩
     ·refine (path4 (nt := 112) [.b true, .f (.agg (enR s.r)), .r (.bool true) (ap G (enR s.r)) lo1, .f (.int .i64 s.r.deal), .b false] [0, 1, 2, 3, 11, 12, 14, 15, 16, 17] (e := .normal) (vals := [(.sl idL 11 0 l.length l.length exL), (.sl idS 1 0 l.length l.length exS), (.int .i64 (n : Int)), (.int .i64 id), (.int .i64 la), (.bool e), (.int .i64 at_), (.int .i64 (j : Int)), (.int .i64 kk), (.int .i64 (IntKind.i64.wrap ((i : Int) + 1)))]) (h' := (ap G (enR s.r))) [cB (decide ((i : Int) < (n : Int))) true, 11 = 11, 0 ≤ (i : Int), (i : Int) < ((l.length : Nat) : Int), pOp evC G (.load (some 11) (.c (.ptr idL (0 + (Int.toNat (i : Int)) * 11)))) = some (.agg (enR s.r)), Cl Γ T 15 [(.agg (enR s.r))] G ((.bool true), (ap G (enR s.r)), lo1), 11 = 11, 0 ≤ (i : Int), (i : Int) < ((l.length : Nat) : Int), pOp evC (ap G (enR s.r)) (.load none (.c (.ptr idL ((0 + (Int.toNat (i : Int)) * 11) + 1)))) = some (.int .i64 s.r.deal), cB (s.r.deal == id) false] hl (fun t0 => by kernel_rfl) ⟨(cT hi), rfl, (by omega), (by omega), (ldEl0 fL hget (by kernel_rfl)), hco, rfl, (by omega), (by omega), (ldEl (gaE fL) hget (by kernel_rfl)), (cN hd), trivial⟩).mono ?_
      rintro e s' ⟨rfl, t4, lo4, rfl, hl4⟩
      rw [hwp] at hl4
      exact ⟨n - (i + 1), by omega, i + 1, kk, t4, _, lo4, rfl, rfl, by omega, hU.trans (Up.app _ _), hl4, hno (by simp [hd])⟩
   ·have hi : ¬ (i : Int) < (n : Int) := by omega
    have hin : i = n := by omega
    refine (path4 (nt := 112) [.b false] [0, 1, 2, 3, 11, 12, 14, 15, 16] (e := (.exit 4)) (vals := [(.sl idL 11 0 l.length l.length exL), (.sl idS 1 0 l.length l.length exS), (.int .i64 (n : Int)), (.int .i64 id), (.int .i64 la), (.bool e), (.int .i64 at_), (.int .i64 (j : Int)), (.int .i64 kk)]) (h' := G) [cB (decide ((i : Int) < (n : Int))) false] hl (fun t0 => by kernel_rfl) ⟨(cF hi), trivial⟩).mono ?_
    rintro e' s ⟨rfl, t4, lo4, rfl, hl4⟩
    refine ⟨rfl, t4, _, lo4, kk, rfl, hU, hl4, ?_⟩
    rcases hkk with ⟨h1, h2⟩ | ⟨x, s, h1, h2, h3, h4, h5, h6⟩
    ·exact .inl ⟨h1, by rw [← hF]; exact atOf_none (fun x hx s hs => h2 x (by omega) s hs)⟩
    ·exact .inr ⟨x, s, h1, h2, h3, by rw [← hF]; exact atOf_some hg h2 h3 h4 h5 h6, h4⟩
  ·clear hl8 hl7 hl6 hl hU
   obtain ⟨rfl, t, G, lo, kk, rfl, hU, hl8, hkk⟩ := h
   have fL := (ht.up hU).L
   have fS := (ht.up hU).S
   have hwj : IntKind.i64.wrap ((j : Int) + 1) = ((j + 1 : Nat) : Int) := by rw [IntWalk.i64_in _ (by omega)]; rfl
   rcases hkk with ⟨rfl, hat⟩ | ⟨i, s, rfl, hin, hx, hat, hown⟩
   ·rw [hat] at hnx
    refine (path4 (nt := 112) [.b true] [8, 9, 10] (e := .ret) (vals := [(.int .i64 la), (.bool e), (.int .i64 (-1))]) (h' := G) [cB (decide ((-1) < 0)) true] hl8 (fun t0 => by kernel_rfl) ⟨rfl, trivial⟩).mono ?_
    rintro e' s' ⟨rfl, t4, lo4, rfl, hl4⟩
    exact .inl ⟨rfl, t4, _, lo4, -1, rfl, hU, .inl ⟨hnx, rfl⟩, hl4⟩
   ·rw [hat] at hnx
    simp only at hnx
    have hk0 : 1 ≤ s.r.k := by unfold isOwn at hown; simp at hown; exact hown.1
    have hneg : ¬ (i : Int) < 0 := by omega
    have hget : (l.map fun s => enR s.r)[i]? = some (enR s.r) := by rw [List.getElem?_map, hx]; rfl
    have hilen : i < l.length := by omega
    by_cases hk2 : s.r.k = 2
    ·rw [if_neg (by omega), if_neg (by omega)] at hnx
     refine (path4 (nt := 112) [.b false, .f (.int .i64 s.r.k), .b false, .f (.int .i64 s.r.next)] [0, 1, 2, 3, 11, 12, 14, 15] (e := .normal) (vals := [(.sl idL 11 0 l.length l.length exL), (.sl idS 1 0 l.length l.length exS), (.int .i64 (n : Int)), (.int .i64 id), (.int .i64 la), (.bool e), (.int .i64 s.r.next), (.int .i64 (j : Int))]) (h' := G) [cB (decide ((i : Int) < 0)) false, 11 = 11, 0 ≤ (i : Int), (i : Int) < ((l.length : Nat) : Int), pOp evC G (.load none (.c (.ptr idL (0 + (Int.toNat (i : Int)) * 11)))) = some (.int .i64 s.r.k), cB (s.r.k != 2) false, 11 = 11, 0 ≤ (i : Int), (i : Int) < ((l.length : Nat) : Int), pOp evC G (.load none (.c (.ptr idL ((0 + (Int.toNat (i : Int)) * 11) + 3)))) = some (.int .i64 s.r.next)] hl8 (fun t0 => by kernel_rfl) ⟨(cF hneg), rfl, (by omega), (by omega), (ldEl0 fL hget (by kernel_rfl)), (cS hk2), rfl, (by omega), (by omega), (ldEl fL hget (by kernel_rfl)), trivial⟩).mono ?_
     rintro e' s' ⟨rfl, t4, lo4, rfl, hl9⟩
     generalize s.r.next = at_ at hnx hl9
     refine (path4 (nt := 112) [] [0, 1, 2, 3, 11, 12, 14, 15] (e := .normal) (vals := [(.sl idL 11 0 l.length l.length exL), (.sl idS 1 0 l.length l.length exS), (.int .i64 (n : Int)), (.int .i64 id), (.int .i64 la), (.bool e), (.int .i64 at_), (.int .i64 (IntKind.i64.wrap ((j : Int) + 1)))]) (h' := G) [] hl9 (fun t0 => by kernel_rfl) trivial).mono ?_
     rintro e' s' ⟨rfl, t5, lo5, rfl, hl10⟩
     rw [hwj] at hl10
     exact ⟨n + 1 - (j + 1), by omega, j + 1, at_, t5, _, lo5, rfl, rfl, by omega, hU, hl10, by rw [hnx]; congr 1; omega⟩
    ·by_cases hk1 : s.r.k = 1
     ·rw [if_neg (by omega), if_pos hk1] at hnx
      refine (path4 (nt := 112) [.b false, .f (.int .i64 s.r.k), .b true, .f (.int .i64 s.r.k), .b true] [8, 9, 10] (e := .ret) (vals := [(.int .i64 la), (.bool e), (.int .i64 (i : Int))]) (h' := G) [cB (decide ((i : Int) < 0)) false, 11 = 11, 0 ≤ (i : Int), (i : Int) < ((l.length : Nat) : Int), pOp evC G (.load none (.c (.ptr idL (0 + (Int.toNat (i : Int)) * 11)))) = some (.int .i64 s.r.k), cB (s.r.k != 2) true, 11 = 11, 0 ≤ (i : Int), (i : Int) < ((l.length : Nat) : Int), pOp evC G (.load none (.c (.ptr idL (0 + (Int.toNat (i : Int)) * 11)))) = some (.int .i64 s.r.k), cB (s.r.k == 1) true] hl8 (fun t0 => by kernel_rfl) ⟨(cF hneg), rfl, (by omega), (by omega), (ldEl0 fL hget (by kernel_rfl)), (cD hk2), rfl, (by omega), (by omega), (ldEl0 fL hget (by kernel_rfl)), (cE hk1), trivial⟩).mono ?_
      rintro e' s' ⟨rfl, t4, lo4, rfl, hl4⟩
      exact .inl ⟨rfl, t4, _, lo4, i, rfl, hU, .inr ⟨i, s, rfl, hin, hx, hnx⟩, hl4⟩
     ·rw [if_pos (by omega)] at hnx
      refine (path4 (nt := 112) [.b false, .f (.int .i64 s.r.k), .b true, .f (.int .i64 s.r.k), .b false] [8, 9, 10] (e := .ret) (vals := [(.int .i64 la), (.bool e), (.int .i64 (-1))]) (h' := G) [cB (decide ((i : Int) < 0)) false, 11 = 11, 0 ≤ (i : Int), (i : Int) < ((l.length : Nat) : Int), pOp evC G (.load none (.c (.ptr idL (0 + (Int.toNat (i : Int)) * 11)))) = some (.int .i64 s.r.k), cB (s.r.k != 2) true, 11 = 11, 0 ≤ (i : Int), (i : Int) < ((l.length : Nat) : Int), pOp evC G (.load none (.c (.ptr idL (0 + (Int.toNat (i : Int)) * 11)))) = some (.int .i64 s.r.k), cB (s.r.k == 1) false] hl8 (fun t0 => by kernel_rfl) ⟨(cF hneg), rfl, (by omega), (by omega), (ldEl0 fL hget (by kernel_rfl)), (cD hk2), rfl, (by omega), (by omega), (ldEl0 fL hget (by kernel_rfl)), (cN hk1), trivial⟩).mono ?_
      rintro e' s' ⟨rfl, t4, lo4, rfl, hl4⟩
      exact .inl ⟨rfl, t4, _, lo4, -1, rfl, hU, .inl ⟨hnx, rfl⟩, hl4⟩
 ·rcases h with ⟨rfl, t, G, lo, p, rfl, hU, hp, hl9⟩ | ⟨rfl, t, G, lo, rfl, hU, hp, hl9⟩
  ·exact fin t G lo p hU hp hl9
  ·show Wp Γ T _ _ _
   refine (path4 (nt := 112) [] [8, 9, 10] (e := .ret) (vals := [(.int .i64 la), (.bool e), (.int .i64 (-1))]) (h' := G) [] hl9 (fun t0 => by kernel_rfl) trivial).mono ?_
   rintro e' s' ⟨rfl, t4, lo4, rfl, hl10⟩
   exact fin t4 _ lo4 (-1) hU (.inl ⟨hp, rfl⟩) hl10
end
open Go
structure LifeV where
 deal : Int
 first : Int
 last : Int
 done : Int
 undone : Int
 fin : Int
def enX (x : LifeV) : List AV := [.int .i64 x.deal, .int .i64 x.first, .int .i64 x.last, .int .i64 x.done, .int .i64 x.undone, .int .i64 x.fin]
theorem enX_one (x : LifeV) : (enX x).all AV.one = true := rfl
def addX (x : LifeV) (s : Stm) : LifeV :=
 if s.r.k = 1 then { x with last := s.st, done := IntKind.i64.wrap (x.done + 1) } else
 if s.r.k = 2 then { x with last := s.st, undone := IntKind.i64.wrap (x.undone + 1) } else
 if x.fin = 0 then { x with last := s.st, fin := s.r.k } else { x with last := s.st }
theorem addX_deal (x : LifeV) (s : Stm) : (addX x s).deal = x.deal := by unfold addX; (repeat' split) <;> rfl
def newX (s : Stm) : LifeV := ⟨s.r.deal, s.st, 0, 0, 0, 0⟩
def curX (out : List LifeV) (s : Stm) : LifeV := (out.find? fun x => x.deal == s.r.deal).getD (newX s)
theorem curX_deal (out : List LifeV) (s : Stm) : (curX out s).deal = s.r.deal := by
 unfold curX
 cases h : out.find? fun x => x.deal == s.r.deal with
 | none => rfl
 | some x => have := List.find?_some h; simpa using this
def ins : List LifeV → LifeV → List LifeV
 | [], y => [y]
 | x :: r, y => if x.deal < y.deal then x :: ins r y else if x.deal = y.deal then y :: r else y :: x :: r
def stepX (out : List LifeV) (s : Stm) : List LifeV := if isOwn s.r = true ∧ 0 < s.r.deal then ins out (addX (curX out s) s) else out
def livesS (l : List Stm) : List LifeV := l.foldl stepX []
theorem livesS_snoc (l : List Stm) (s : Stm) : livesS (l ++ [s]) = stepX (livesS l) s := by simp [livesS]
abbrev SrtX (out : List LifeV) : Prop := out.Pairwise fun x y => x.deal < y.deal
theorem mem_ins {y z : LifeV} : ∀ {out : List LifeV}, SrtX out → (z ∈ ins out y ↔ (z ∈ out ∧ z.deal ≠ y.deal) ∨ z = y)
 | [], _ => by simp [ins]
 | x :: r, h => by
  obtain ⟨h1, h2⟩ := List.pairwise_cons.1 h
  rw [ins]
  by_cases hxy : x.deal < y.deal
  ·rw [if_pos hxy, List.mem_cons, mem_ins h2, List.mem_cons]
   constructor
   ·rintro (rfl | ⟨h3, h4⟩ | rfl)
    ·exact .inl ⟨.inl rfl, by omega⟩
    ·exact .inl ⟨.inr h3, h4⟩
    ·exact .inr rfl
   ·rintro (⟨rfl | h3, h4⟩ | rfl)
    ·exact .inl rfl
    ·exact .inr (.inl ⟨h3, h4⟩)
    ·exact .inr (.inr rfl)
  ·rw [if_neg hxy]
   by_cases he : x.deal = y.deal
   ·rw [if_pos he, List.mem_cons, List.mem_cons]
    constructor
    ·rintro (rfl | h3)
     ·exact .inr rfl
     ·exact .inl ⟨.inr h3, by have := h1 z h3; omega⟩
    ·rintro (⟨rfl | h3, h4⟩ | rfl)
     ·exact absurd he h4
     ·exact .inr h3
     ·exact .inl rfl
   ·rw [if_neg he, List.mem_cons, List.mem_cons]
    constructor
    ·rintro (rfl | rfl | h3)
     ·exact .inr rfl
     ·exact .inl ⟨.inl rfl, he⟩
     ·exact .inl ⟨.inr h3, by have := h1 z h3; omega⟩
    ·rintro (⟨h3, h4⟩ | rfl)
     ·exact .inr h3
     ·exact .inl rfl
theorem ins_srt {y : LifeV} : ∀ {out : List LifeV}, SrtX out → SrtX (ins out y)
 | [], _ => by simp [ins, SrtX]
 | x :: r, h => by
  obtain ⟨h1, h2⟩ := List.pairwise_cons.1 h
  rw [ins]
  by_cases hxy : x.deal < y.deal
  ·rw [if_pos hxy]
   refine List.pairwise_cons.2 ⟨fun z hz => ?_, ins_srt h2⟩
   rcases (mem_ins h2).1 hz with ⟨h3, _⟩ | rfl
   ·exact h1 z h3
   ·exact hxy
  ·rw [if_neg hxy]
   by_cases he : x.deal = y.deal
   ·rw [if_pos he]
    exact List.pairwise_cons.2 ⟨fun z hz => by have := h1 z hz; omega, h2⟩
   ·rw [if_neg he]
    refine List.pairwise_cons.2 ⟨fun z hz => ?_, h⟩
    rcases List.mem_cons.1 hz with rfl | hz
    ·omega
    ·have := h1 z hz; omega
theorem stepX_srt {out : List LifeV} (h : SrtX out) (s : Stm) : SrtX (stepX out s) := by
 unfold stepX
 split
 ·exact ins_srt h
 ·exact h
theorem ins_len {y : LifeV} : ∀ (out : List LifeV), (ins out y).length ≤ out.length + 1
 | [] => by simp [ins]
 | x :: r => by
  rw [ins]
  have := ins_len (y := y) r
  split
  ·simpa using this
  ·split <;> simp
theorem stepX_len (out : List LifeV) (s : Stm) : (stepX out s).length ≤ out.length + 1 := by
 unfold stepX
 split
 ·exact ins_len out
 ·omega
structure Un2 (Γ : FuncId → Option GF) : Prop extends Un Γ where
 g12 : Γ 12 = none
 g14 : Γ 14 = none
 g7 : Γ 7 = none
section
variable {Γ : FuncId → Option GF} (u : Un2 Γ)
include u
theorem lifeadd_cl {H : List Blk} {p : Nat} {x : LifeV} (hp : H[p]? = some (.cells (enX x))) (s : Stm) : ∃ H' lo, Cl Γ T 12 [.ptr p 0, .agg (enS s)] H (.tup [], H', lo) ∧ H'[p]? = some (.cells (enX (addX x s))) ∧ Fr p H H' := by
 have hne : p ≠ H.length := by have := glt hp; omega
 have fr : ∀ (c c' : List AV), Fr p H (((ap H (enS s)).set p (.cells c)).set p (.cells c')) := fun c c' => ⟨by simp, fun i y hi hy => gne (Ne.symm hi) (gne (Ne.symm hi) (ga hy))⟩
 have fr1 : ∀ (c : List AV), Fr p H ((ap H (enS s)).set p (.cells c)) := fun c => ⟨by simp, fun i y hi hy => gne (Ne.symm hi) (ga hy)⟩
 by_cases h1 : s.r.k = 1
 ·have hx : ∃ lo, Cl Γ T 12 [.ptr p 0, .agg (enS s)] H (.tup [], (List.set (List.set (ap H (enS s)) p (.cells [(.int .i64 x.deal), (.int .i64 x.first), (.int .i64 s.st), (.int .i64 x.done), (.int .i64 x.undone), (.int .i64 x.fin)])) p (.cells [(.int .i64 x.deal), (.int .i64 x.first), (.int .i64 s.st), (.int .i64 (IntKind.i64.wrap (x.done + 1))), (.int .i64 x.undone), (.int .i64 x.fin)])), lo) := clP (af := a12) [.w (.ptr (List.length H) 0) (ap H (enS s)) none, .f (.int .i64 s.st), .w (.tup []) (List.set (ap H (enS s)) p (.cells [(.int .i64 x.deal), (.int .i64 x.first), (.int .i64 s.st), (.int .i64 x.done), (.int .i64 x.undone), (.int .i64 x.fin)])) (some p), .f (.int .i64 s.r.k), .b true, .f (.int .i64 x.done), .w (.tup []) (List.set (List.set (ap H (enS s)) p (.cells [(.int .i64 x.deal), (.int .i64 x.first), (.int .i64 s.st), (.int .i64 x.done), (.int .i64 x.undone), (.int .i64 x.fin)])) p (.cells [(.int .i64 x.deal), (.int .i64 x.first), (.int .i64 s.st), (.int .i64 (IntKind.i64.wrap (x.done + 1))), (.int .i64 x.undone), (.int .i64 x.fin)])) (some p)] [wOp evC H (.box (.c (.agg (enS s)))) = some ((.ptr (List.length H) 0), (ap H (enS s)), none), pOp evC (ap H (enS s)) (.load none (.c (.ptr (List.length H) 0))) = some (.int .i64 s.st), wOp evC (ap H (enS s)) (.store 1 (.c (.ptr p 2)) (.c (.int .i64 s.st))) = some ((.tup []), (List.set (ap H (enS s)) p (.cells [(.int .i64 x.deal), (.int .i64 x.first), (.int .i64 s.st), (.int .i64 x.done), (.int .i64 x.undone), (.int .i64 x.fin)])), (some p)), pOp evC (List.set (ap H (enS s)) p (.cells [(.int .i64 x.deal), (.int .i64 x.first), (.int .i64 s.st), (.int .i64 x.done), (.int .i64 x.undone), (.int .i64 x.fin)])) (.load none (.c (.ptr (List.length H) 1))) = some (.int .i64 s.r.k), cB (s.r.k == 1) true, pOp evC (List.set (ap H (enS s)) p (.cells [(.int .i64 x.deal), (.int .i64 x.first), (.int .i64 s.st), (.int .i64 x.done), (.int .i64 x.undone), (.int .i64 x.fin)])) (.load none (.c (.ptr p 3))) = some (.int .i64 x.done), wOp evC (List.set (ap H (enS s)) p (.cells [(.int .i64 x.deal), (.int .i64 x.first), (.int .i64 s.st), (.int .i64 x.done), (.int .i64 x.undone), (.int .i64 x.fin)])) (.store 1 (.c (.ptr p 3)) (.c (.int .i64 (IntKind.i64.wrap (x.done + 1))))) = some ((.tup []), (List.set (List.set (ap H (enS s)) p (.cells [(.int .i64 x.deal), (.int .i64 x.first), (.int .i64 s.st), (.int .i64 x.done), (.int .i64 x.undone), (.int .i64 x.fin)])) p (.cells [(.int .i64 x.deal), (.int .i64 x.first), (.int .i64 s.st), (.int .i64 (IntKind.i64.wrap (x.done + 1))), (.int .i64 x.undone), (.int .i64 x.fin)])), (some p))] u.g12 (by kernel_rfl) (by kernel_rfl) (by kernel_rfl) ⟨rfl, (ldC gl (by kernel_rfl)), (stC (ga hp) (by kernel_rfl) (by kernel_rfl) (by kernel_rfl)), (ldC (gne hne gl) (by kernel_rfl)), (cE h1), (ldC (gset (ga hp)) (by kernel_rfl)), (stC (gset (ga hp)) (by kernel_rfl) (by kernel_rfl) (by kernel_rfl)), trivial⟩
  obtain ⟨lo, hx⟩ := hx
  refine ⟨_, lo, hx, ?_, fr _ _⟩
  rw [gset (gset (ga hp)), show addX x s = { x with last := s.st, done := IntKind.i64.wrap (x.done + 1) } by unfold addX; rw [if_pos h1]]
  rfl
 by_cases h2 : s.r.k = 2
 ·have hx : ∃ lo, Cl Γ T 12 [.ptr p 0, .agg (enS s)] H (.tup [], (List.set (List.set (ap H (enS s)) p (.cells [(.int .i64 x.deal), (.int .i64 x.first), (.int .i64 s.st), (.int .i64 x.done), (.int .i64 x.undone), (.int .i64 x.fin)])) p (.cells [(.int .i64 x.deal), (.int .i64 x.first), (.int .i64 s.st), (.int .i64 x.done), (.int .i64 (IntKind.i64.wrap (x.undone + 1))), (.int .i64 x.fin)])), lo) := clP (af := a12) [.w (.ptr (List.length H) 0) (ap H (enS s)) none, .f (.int .i64 s.st), .w (.tup []) (List.set (ap H (enS s)) p (.cells [(.int .i64 x.deal), (.int .i64 x.first), (.int .i64 s.st), (.int .i64 x.done), (.int .i64 x.undone), (.int .i64 x.fin)])) (some p), .f (.int .i64 s.r.k), .b false, .b true, .f (.int .i64 x.undone), .w (.tup []) (List.set (List.set (ap H (enS s)) p (.cells [(.int .i64 x.deal), (.int .i64 x.first), (.int .i64 s.st), (.int .i64 x.done), (.int .i64 x.undone), (.int .i64 x.fin)])) p (.cells [(.int .i64 x.deal), (.int .i64 x.first), (.int .i64 s.st), (.int .i64 x.done), (.int .i64 (IntKind.i64.wrap (x.undone + 1))), (.int .i64 x.fin)])) (some p)] [wOp evC H (.box (.c (.agg (enS s)))) = some ((.ptr (List.length H) 0), (ap H (enS s)), none), pOp evC (ap H (enS s)) (.load none (.c (.ptr (List.length H) 0))) = some (.int .i64 s.st), wOp evC (ap H (enS s)) (.store 1 (.c (.ptr p 2)) (.c (.int .i64 s.st))) = some ((.tup []), (List.set (ap H (enS s)) p (.cells [(.int .i64 x.deal), (.int .i64 x.first), (.int .i64 s.st), (.int .i64 x.done), (.int .i64 x.undone), (.int .i64 x.fin)])), (some p)), pOp evC (List.set (ap H (enS s)) p (.cells [(.int .i64 x.deal), (.int .i64 x.first), (.int .i64 s.st), (.int .i64 x.done), (.int .i64 x.undone), (.int .i64 x.fin)])) (.load none (.c (.ptr (List.length H) 1))) = some (.int .i64 s.r.k), cB (s.r.k == 1) false, cB (s.r.k == 2) true, pOp evC (List.set (ap H (enS s)) p (.cells [(.int .i64 x.deal), (.int .i64 x.first), (.int .i64 s.st), (.int .i64 x.done), (.int .i64 x.undone), (.int .i64 x.fin)])) (.load none (.c (.ptr p 4))) = some (.int .i64 x.undone), wOp evC (List.set (ap H (enS s)) p (.cells [(.int .i64 x.deal), (.int .i64 x.first), (.int .i64 s.st), (.int .i64 x.done), (.int .i64 x.undone), (.int .i64 x.fin)])) (.store 1 (.c (.ptr p 4)) (.c (.int .i64 (IntKind.i64.wrap (x.undone + 1))))) = some ((.tup []), (List.set (List.set (ap H (enS s)) p (.cells [(.int .i64 x.deal), (.int .i64 x.first), (.int .i64 s.st), (.int .i64 x.done), (.int .i64 x.undone), (.int .i64 x.fin)])) p (.cells [(.int .i64 x.deal), (.int .i64 x.first), (.int .i64 s.st), (.int .i64 x.done), (.int .i64 (IntKind.i64.wrap (x.undone + 1))), (.int .i64 x.fin)])), (some p))] u.g12 (by kernel_rfl) (by kernel_rfl) (by kernel_rfl) ⟨rfl, (ldC gl (by kernel_rfl)), (stC (ga hp) (by kernel_rfl) (by kernel_rfl) (by kernel_rfl)), (ldC (gne hne gl) (by kernel_rfl)), (cN h1), (cE h2), (ldC (gset (ga hp)) (by kernel_rfl)), (stC (gset (ga hp)) (by kernel_rfl) (by kernel_rfl) (by kernel_rfl)), trivial⟩
  obtain ⟨lo, hx⟩ := hx
  refine ⟨_, lo, hx, ?_, fr _ _⟩
  rw [gset (gset (ga hp)), show addX x s = { x with last := s.st, undone := IntKind.i64.wrap (x.undone + 1) } by unfold addX; rw [if_neg h1, if_pos h2]]
  rfl
 by_cases h3 : x.fin = 0
 ·have hx : ∃ lo, Cl Γ T 12 [.ptr p 0, .agg (enS s)] H (.tup [], (List.set (List.set (ap H (enS s)) p (.cells [(.int .i64 x.deal), (.int .i64 x.first), (.int .i64 s.st), (.int .i64 x.done), (.int .i64 x.undone), (.int .i64 x.fin)])) p (.cells [(.int .i64 x.deal), (.int .i64 x.first), (.int .i64 s.st), (.int .i64 x.done), (.int .i64 x.undone), (.int .i64 s.r.k)])), lo) := clP (af := a12) [.w (.ptr (List.length H) 0) (ap H (enS s)) none, .f (.int .i64 s.st), .w (.tup []) (List.set (ap H (enS s)) p (.cells [(.int .i64 x.deal), (.int .i64 x.first), (.int .i64 s.st), (.int .i64 x.done), (.int .i64 x.undone), (.int .i64 x.fin)])) (some p), .f (.int .i64 s.r.k), .b false, .b false, .f (.int .i64 x.fin), .b true, .f (.int .i64 s.r.k), .w (.tup []) (List.set (List.set (ap H (enS s)) p (.cells [(.int .i64 x.deal), (.int .i64 x.first), (.int .i64 s.st), (.int .i64 x.done), (.int .i64 x.undone), (.int .i64 x.fin)])) p (.cells [(.int .i64 x.deal), (.int .i64 x.first), (.int .i64 s.st), (.int .i64 x.done), (.int .i64 x.undone), (.int .i64 s.r.k)])) (some p)] [wOp evC H (.box (.c (.agg (enS s)))) = some ((.ptr (List.length H) 0), (ap H (enS s)), none), pOp evC (ap H (enS s)) (.load none (.c (.ptr (List.length H) 0))) = some (.int .i64 s.st), wOp evC (ap H (enS s)) (.store 1 (.c (.ptr p 2)) (.c (.int .i64 s.st))) = some ((.tup []), (List.set (ap H (enS s)) p (.cells [(.int .i64 x.deal), (.int .i64 x.first), (.int .i64 s.st), (.int .i64 x.done), (.int .i64 x.undone), (.int .i64 x.fin)])), (some p)), pOp evC (List.set (ap H (enS s)) p (.cells [(.int .i64 x.deal), (.int .i64 x.first), (.int .i64 s.st), (.int .i64 x.done), (.int .i64 x.undone), (.int .i64 x.fin)])) (.load none (.c (.ptr (List.length H) 1))) = some (.int .i64 s.r.k), cB (s.r.k == 1) false, cB (s.r.k == 2) false, pOp evC (List.set (ap H (enS s)) p (.cells [(.int .i64 x.deal), (.int .i64 x.first), (.int .i64 s.st), (.int .i64 x.done), (.int .i64 x.undone), (.int .i64 x.fin)])) (.load none (.c (.ptr p 5))) = some (.int .i64 x.fin), cB (x.fin == 0) true, pOp evC (List.set (ap H (enS s)) p (.cells [(.int .i64 x.deal), (.int .i64 x.first), (.int .i64 s.st), (.int .i64 x.done), (.int .i64 x.undone), (.int .i64 x.fin)])) (.load none (.c (.ptr (List.length H) 1))) = some (.int .i64 s.r.k), wOp evC (List.set (ap H (enS s)) p (.cells [(.int .i64 x.deal), (.int .i64 x.first), (.int .i64 s.st), (.int .i64 x.done), (.int .i64 x.undone), (.int .i64 x.fin)])) (.store 1 (.c (.ptr p 5)) (.c (.int .i64 s.r.k))) = some ((.tup []), (List.set (List.set (ap H (enS s)) p (.cells [(.int .i64 x.deal), (.int .i64 x.first), (.int .i64 s.st), (.int .i64 x.done), (.int .i64 x.undone), (.int .i64 x.fin)])) p (.cells [(.int .i64 x.deal), (.int .i64 x.first), (.int .i64 s.st), (.int .i64 x.done), (.int .i64 x.undone), (.int .i64 s.r.k)])), (some p))] u.g12 (by kernel_rfl) (by kernel_rfl) (by kernel_rfl) ⟨rfl, (ldC gl (by kernel_rfl)), (stC (ga hp) (by kernel_rfl) (by kernel_rfl) (by kernel_rfl)), (ldC (gne hne gl) (by kernel_rfl)), (cN h1), (cN h2), (ldC (gset (ga hp)) (by kernel_rfl)), (cE h3), (ldC (gne hne gl) (by kernel_rfl)), (stC (gset (ga hp)) (by kernel_rfl) (by kernel_rfl) (by kernel_rfl)), trivial⟩
  obtain ⟨lo, hx⟩ := hx
  refine ⟨_, lo, hx, ?_, fr _ _⟩
  rw [gset (gset (ga hp)), show addX x s = { x with last := s.st, fin := s.r.k } by unfold addX; rw [if_neg h1, if_neg h2, if_pos h3]]
  rfl
 ·have hx : ∃ lo, Cl Γ T 12 [.ptr p 0, .agg (enS s)] H (.tup [], (List.set (ap H (enS s)) p (.cells [(.int .i64 x.deal), (.int .i64 x.first), (.int .i64 s.st), (.int .i64 x.done), (.int .i64 x.undone), (.int .i64 x.fin)])), lo) := clP (af := a12) [.w (.ptr (List.length H) 0) (ap H (enS s)) none, .f (.int .i64 s.st), .w (.tup []) (List.set (ap H (enS s)) p (.cells [(.int .i64 x.deal), (.int .i64 x.first), (.int .i64 s.st), (.int .i64 x.done), (.int .i64 x.undone), (.int .i64 x.fin)])) (some p), .f (.int .i64 s.r.k), .b false, .b false, .f (.int .i64 x.fin), .b false] [wOp evC H (.box (.c (.agg (enS s)))) = some ((.ptr (List.length H) 0), (ap H (enS s)), none), pOp evC (ap H (enS s)) (.load none (.c (.ptr (List.length H) 0))) = some (.int .i64 s.st), wOp evC (ap H (enS s)) (.store 1 (.c (.ptr p 2)) (.c (.int .i64 s.st))) = some ((.tup []), (List.set (ap H (enS s)) p (.cells [(.int .i64 x.deal), (.int .i64 x.first), (.int .i64 s.st), (.int .i64 x.done), (.int .i64 x.undone), (.int .i64 x.fin)])), (some p)), pOp evC (List.set (ap H (enS s)) p (.cells [(.int .i64 x.deal), (.int .i64 x.first), (.int .i64 s.st), (.int .i64 x.done), (.int .i64 x.undone), (.int .i64 x.fin)])) (.load none (.c (.ptr (List.length H) 1))) = some (.int .i64 s.r.k), cB (s.r.k == 1) false, cB (s.r.k == 2) false, pOp evC (List.set (ap H (enS s)) p (.cells [(.int .i64 x.deal), (.int .i64 x.first), (.int .i64 s.st), (.int .i64 x.done), (.int .i64 x.undone), (.int .i64 x.fin)])) (.load none (.c (.ptr p 5))) = some (.int .i64 x.fin), cB (x.fin == 0) false] u.g12 (by kernel_rfl) (by kernel_rfl) (by kernel_rfl) ⟨rfl, (ldC gl (by kernel_rfl)), (stC (ga hp) (by kernel_rfl) (by kernel_rfl) (by kernel_rfl)), (ldC (gne hne gl) (by kernel_rfl)), (cN h1), (cN h2), (ldC (gset (ga hp)) (by kernel_rfl)), (cN h3), trivial⟩
  obtain ⟨lo, hx⟩ := hx
  refine ⟨_, lo, hx, ?_, fr1 _⟩
  rw [gset (ga hp), show addX x s = { x with last := s.st } by unfold addX; rw [if_neg h1, if_neg h2, if_neg h3]]
  rfl
end
end Go.Proofs.Ytlhbfikfnecknaa.AM.Ch
namespace Go.Proofs.Ytlhbfikfnecknaa
open Go.Shelf
def keysA_ren : Go.Shelf.Ren := ⟨fun | 7 => 14 | 10 => 23 | n => n, fun | 23 => 47 | 26 => 3 | 3 => 48 | 28 => 52 | 0 => 0 | 27 => 51 | 33 => 66 | 4 => 4 | n => n, fun | n => n⟩
theorem keysA : Go.Proofs.SlLaysZI.n7 Try.prog keysA_ren := {
 mixed := by kernel_rfl
 f7 := ⟨Try.f14.name, by decide, Try.func14.trans (congrArg some (by kernel_rfl))⟩
 f10 := ⟨Try.f23.name, by decide, Try.func23.trans (congrArg some (by kernel_rfl))⟩
 t0 := Try.underlying0
 a0 := Try.isAgg0
 z0 := Try.sizeOf0
 v0 := Try.zeroValue0
 t4 := Try.underlying4
 a4 := Try.isAgg4
 z4 := Try.sizeOf4
 v4 := Try.zeroValue4
 t23 := Try.underlying47
 a23 := Try.isAgg47
 z23 := Try.sizeOf47
 v23 := Try.zeroValue47
 t26 := Try.underlying3
 a26 := Try.isAgg3
 z26 := Try.sizeOf3
 v26 := Try.zeroValue3
 t27 := Try.underlying51
 a27 := Try.isAgg51
 z27 := Try.sizeOf51
 v27 := Try.zeroValue51
 t28 := Try.underlying52
 a28 := Try.isAgg52
 z28 := Try.sizeOf52
 v28 := Try.zeroValue52
 t33 := Try.underlying66
 a33 := Try.isAgg66
 z33 := Try.sizeOf66
 v33 := Try.zeroValue66 }
def sortedA_ren : Go.Shelf.Ren := ⟨fun | 6 => 13 | 8 => 21 | 9 => 22 | 11 => 31 | 13 => 33 | 12 => 32 | 23 => 55 | 24 => 56 | 14 => 46 | 15 => 47 | 16 => 48 | 17 => 49 | 18 => 50 | 19 => 51 | 20 => 52 | 21 => 53 | 22 => 54 | 25 => 60 | 26 => 61 | 27 => 62 | 28 => 63 | 29 => 64 | 30 => 65 | 31 => 66 | n => n, fun | 26 => 3 | 28 => 52 | 24 => 25 | 0 => 0 | 3 => 3 | 37 => 82 | 48 => 111 | 50 => 113 | 4 => 4 | 40 => 104 | 39 => 103 | 45 => 108 | 5 => 5 | 9 => 9 | 51 => 117 | 55 => 121 | 57 => 123 | 58 => 124 | 33 => 66 | n => n, fun | n => n⟩
theorem sortedA : Go.Proofs.SlLaysZI.n6 Try.prog sortedA_ren := {
 mixed := by kernel_rfl
 f6 := ⟨Try.f13.name, by decide, Try.func13.trans (congrArg some (by kernel_rfl))⟩
 f8 := ⟨Try.f21.name, by decide, Try.func21.trans (congrArg some (by kernel_rfl))⟩
 f11 := ⟨Try.f31.name, by decide, Try.func31.trans (congrArg some (by kernel_rfl))⟩
 t0 := Try.underlying0
 a0 := Try.isAgg0
 z0 := Try.sizeOf0
 v0 := Try.zeroValue0
 t24 := Try.underlying25
 a24 := Try.isAgg25
 z24 := Try.sizeOf25
 v24 := Try.zeroValue25
 t26 := Try.underlying3
 a26 := Try.isAgg3
 z26 := Try.sizeOf3
 v26 := Try.zeroValue3
 t28 := Try.underlying52
 a28 := Try.isAgg52
 z28 := Try.sizeOf52
 v28 := Try.zeroValue52
 i26 := by kernel_rfl }
def sortA_ren : Go.Shelf.Ren := ⟨fun | 5 => 22 | 8 => 33 | 7 => 32 | 19 => 55 | 20 => 56 | 10 => 46 | 11 => 47 | 12 => 48 | 13 => 49 | 14 => 50 | 15 => 51 | 16 => 52 | 17 => 53 | 18 => 54 | 30 => 60 | 31 => 61 | 32 => 62 | 33 => 63 | 34 => 64 | 35 => 65 | 40 => 66 | n => n, fun | 23 => 25 | 25 => 3 | 3 => 3 | 32 => 82 | 22 => 25 | 0 => 0 | 44 => 111 | 46 => 113 | 4 => 4 | 36 => 104 | 35 => 103 | 41 => 108 | 5 => 5 | 9 => 9 | 53 => 117 | 57 => 121 | 63 => 123 | 64 => 124 | n => n, fun | n => n⟩
theorem sortA : Go.Proofs.SlLaysM.n5 Try.prog sortA_ren := {
 mixed := by kernel_rfl
 f5 := ⟨Try.f22.name, by decide, Try.func22.trans (congrArg some (by kernel_rfl))⟩
 f7 := ⟨Try.f32.name, by decide, Try.func32.trans (congrArg some (by kernel_rfl))⟩
 f8 := Try.func33.trans (congrArg some (by kernel_rfl))
 f10 := ⟨Try.f46.name, by decide, Try.func46.trans (congrArg some (by kernel_rfl))⟩
 f11 := ⟨Try.f47.name, by decide, Try.func47.trans (congrArg some (by kernel_rfl))⟩
 f12 := ⟨Try.f48.name, by decide, Try.func48.trans (congrArg some (by kernel_rfl))⟩
 f13 := ⟨Try.f49.name, by decide, Try.func49.trans (congrArg some (by kernel_rfl))⟩
 f14 := ⟨Try.f50.name, by decide, Try.func50.trans (congrArg some (by kernel_rfl))⟩
 f15 := ⟨Try.f51.name, by decide, Try.func51.trans (congrArg some (by kernel_rfl))⟩
 f16 := ⟨Try.f52.name, by decide, Try.func52.trans (congrArg some (by kernel_rfl))⟩
 f17 := ⟨Try.f53.name, by decide, Try.func53.trans (congrArg some (by kernel_rfl))⟩
 f18 := ⟨Try.f54.name, by decide, Try.func54.trans (congrArg some (by kernel_rfl))⟩
 f19 := Try.func55.trans (congrArg some (by kernel_rfl))
 f20 := Try.func56.trans (congrArg some (by kernel_rfl))
 f30 := ⟨Try.f60.name, by decide, Try.func60.trans (congrArg some (by kernel_rfl))⟩
 f31 := Try.func61.trans (congrArg some (by kernel_rfl))
 f32 := Try.func62.trans (congrArg some (by kernel_rfl))
 f33 := ⟨Try.f63.name, by decide, Try.func63.trans (congrArg some (by kernel_rfl))⟩
 f34 := ⟨Try.f64.name, by decide, Try.func64.trans (congrArg some (by kernel_rfl))⟩
 f35 := ⟨Try.f65.name, by decide, Try.func65.trans (congrArg some (by kernel_rfl))⟩
 f40 := ⟨Try.f66.name, by decide, Try.func66.trans (congrArg some (by kernel_rfl))⟩
 t0 := Try.underlying0
 a0 := Try.isAgg0
 z0 := Try.sizeOf0
 v0 := Try.zeroValue0
 t3 := Try.underlying3
 a3 := Try.isAgg3
 z3 := Try.sizeOf3
 v3 := Try.zeroValue3
 t4 := Try.underlying4
 a4 := Try.isAgg4
 z4 := Try.sizeOf4
 v4 := Try.zeroValue4
 t5 := Try.underlying5
 a5 := Try.isAgg5
 z5 := Try.sizeOf5
 v5 := Try.zeroValue5
 t9 := Try.underlying9
 a9 := Try.isAgg9
 z9 := Try.sizeOf9
 v9 := Try.zeroValue9
 t22 := Try.underlying25
 a22 := Try.isAgg25
 z22 := Try.sizeOf25
 v22 := Try.zeroValue25
 t23 := Try.underlying25
 a23 := Try.isAgg25
 z23 := Try.sizeOf25
 v23 := Try.zeroValue25
 t25 := Try.underlying3
 a25 := Try.isAgg3
 z25 := Try.sizeOf3
 v25 := Try.zeroValue3
 t32 := Try.underlying82
 a32 := Try.isAgg82
 z32 := Try.sizeOf82
 v32 := Try.zeroValue82
 t35 := Try.underlying103
 a35 := Try.isAgg103
 z35 := Try.sizeOf103
 v35 := Try.zeroValue103
 t36 := Try.underlying104
 a36 := Try.isAgg104
 z36 := Try.sizeOf104
 v36 := Try.zeroValue104
 t41 := Try.underlying108
 a41 := Try.isAgg108
 z41 := Try.sizeOf108
 v41 := Try.zeroValue108
 t44 := Try.underlying111
 a44 := Try.isAgg111
 z44 := Try.sizeOf111
 v44 := Try.zeroValue111
 t46 := Try.underlying113
 a46 := Try.isAgg113
 z46 := Try.sizeOf113
 v46 := Try.zeroValue113
 t53 := Try.underlying117
 a53 := Try.isAgg117
 z53 := Try.sizeOf117
 v53 := Try.zeroValue117
 t57 := Try.underlying121
 a57 := Try.isAgg121
 z57 := Try.sizeOf121
 v57 := Try.zeroValue121
 t63 := Try.underlying123
 a63 := Try.isAgg123
 z63 := Try.sizeOf123
 v63 := Try.zeroValue123
 t64 := Try.underlying124
 a64 := Try.isAgg124
 z64 := Try.sizeOf124
 v64 := Try.zeroValue124 }
end Go.Proofs.Ytlhbfikfnecknaa
namespace Go.Proofs.Ytlhbfikfnecknaa.AM.Ch
open Go
structure LivesAt (H : List Blk) (m : Nat) (out : List LifeV) (es : List E) : Prop where
 hm : H[m]? = some (.map (es.map kvE))
 ex : ∀ e ∈ es, ∃ x ∈ out, x.deal = e.id ∧ H[e.p]? = some (.cells (enX x))
 all : ∀ x ∈ out, ∃ e ∈ es, e.id = x.deal
 inj : ∀ e ∈ es, ∀ e' ∈ es, e.p = e'.p ∨ e.id = e'.id → e = e'
 nd : (es.map E.id).Nodup
theorem LivesAt.up {H H' : List Blk} {m : Nat} {out : List LifeV} {es : List E} (h : LivesAt H m out es) (u : Up H H') : LivesAt H' m out es :=
 ⟨u.2 _ _ h.hm, fun e he => by obtain ⟨x, h1, h2, h3⟩ := h.ex e he; exact ⟨x, h1, h2, u.2 _ _ h3⟩, h.all, h.inj, h.nd⟩
theorem SrtX.uniq {out : List LifeV} (h : SrtX out) {x y : LifeV} (hx : x ∈ out) (hy : y ∈ out) (he : x.deal = y.deal) : x = y := by
 obtain ⟨i, hi, rfl⟩ := List.getElem_of_mem hx
 obtain ⟨j, hj, rfl⟩ := List.getElem_of_mem hy
 have hs := List.pairwise_iff_getElem.1 h
 by_cases h1 : i < j
 ·have := hs i j hi hj h1; omega
 ·by_cases h2 : j < i
  ·have := hs j i hj hi h2; omega
  ·have : i = j := by omega
   subst this; rfl
theorem curX_of {out : List LifeV} (h : SrtX out) {x : LifeV} {s : Stm} (hx : x ∈ out) (he : x.deal = s.r.deal) : curX out s = x := by
 unfold curX
 cases hf : out.find? fun x => x.deal == s.r.deal with
 | none => have := List.find?_eq_none.1 hf x hx; simp [he] at this
 | some y =>
  have h1 := List.mem_of_find?_eq_some hf
  have h2 := List.find?_some hf
  simp only [beq_iff_eq] at h2
  have := h.uniq h1 hx (show y.deal = x.deal by omega)
  exact this
theorem curX_new {out : List LifeV} {s : Stm} (h : ∀ x ∈ out, x.deal ≠ s.r.deal) : curX out s = newX s := by
 unfold curX
 rw [List.find?_eq_none.2 (fun x hx => by simpa using h x hx)]
 rfl
theorem LivesAt.upd {H H' : List Blk} {m : Nat} {out : List LifeV} {es : List E} (h : LivesAt H m out es) (hs : SrtX out) {e : E} (he : e ∈ es) {y : LifeV} (hy : y.deal = e.id) (hp : H'[e.p]? = some (.cells (enX y))) (hf : Fr e.p H H') : LivesAt H' m (ins out y) es := by
 have hpm : ∀ e ∈ es, m ≠ e.p := fun e he x => by obtain ⟨_, _, _, h3⟩ := h.ex e he; rw [← x, h.hm] at h3; cases h3
 refine ⟨hf.2 _ _ (hpm e he) h.hm, fun e' he' => ?_, fun x hx => ?_, h.inj, h.nd⟩
 ·by_cases hee : e' = e
  ·subst hee; exact ⟨y, (mem_ins hs).2 (.inr rfl), hy, hp⟩
  ·obtain ⟨x, h1, h2, h3⟩ := h.ex e' he'
   refine ⟨x, (mem_ins hs).2 (.inl ⟨h1, fun h4 => hee (h.inj e' he' e he (.inr (by omega)))⟩), h2, hf.2 _ _ (fun h4 => hee (h.inj e' he' e he (.inl h4))) h3⟩
 ·rcases (mem_ins hs).1 hx with ⟨h1, _⟩ | rfl
  ·exact h.all x h1
  ·exact ⟨e, he, hy.symm⟩
theorem LivesAt.put {H H' : List Blk} {m : Nat} {out : List LifeV} {es : List E} (h : LivesAt H m out es) (hs : SrtX out) {d : Int} (hn : ∀ e ∈ es, e.id ≠ d) {y : LifeV} (hy : y.deal = d) {c : List AV} (hp : H'[H.length]? = some (.cells (enX y))) (hf : Fr H.length ((ap H c).set m (.map (es.map kvE ++ [(.int .i64 d, .ptr H.length 0)]))) H') : LivesAt H' m (ins out y) (es ++ [⟨d, H.length, 0⟩]) := by
 have lm := glt h.hm
 have lp : ∀ e ∈ es, e.p < H.length := fun e he => by obtain ⟨_, _, _, h3⟩ := h.ex e he; exact glt h3
 have hpm : ∀ e ∈ es, m ≠ e.p := fun e he x => by obtain ⟨_, _, _, h3⟩ := h.ex e he; rw [← x, h.hm] at h3; cases h3
 refine ⟨?_, fun e he => ?_, fun x hx => ?_, fun e he e' he' hh => ?_, ?_⟩
 ·refine hf.2 _ _ (by omega) ?_
  rw [gset (ga h.hm), List.map_append]
  rfl
 ·rcases List.mem_append.1 he with he | he
  ·obtain ⟨x, h1, h2, h3⟩ := h.ex e he
   exact ⟨x, (mem_ins hs).2 (.inl ⟨h1, fun h4 => hn e he (by omega)⟩), h2, hf.2 _ _ (by have := lp e he; omega) (gne (hpm e he) (ga h3))⟩
  ·rw [List.mem_singleton.1 he]
   exact ⟨y, (mem_ins hs).2 (.inr rfl), hy, hp⟩
 ·rcases (mem_ins hs).1 hx with ⟨h1, _⟩ | rfl
  ·obtain ⟨e, he, h2⟩ := h.all x h1
   exact ⟨e, List.mem_append_left _ he, h2⟩
  ·exact ⟨_, List.mem_append_right _ (List.mem_singleton.2 rfl), hy.symm⟩
 ·rcases List.mem_append.1 he with he | he <;> rcases List.mem_append.1 he' with he' | he'
  ·exact h.inj e he e' he' hh
  ·rw [List.mem_singleton.1 he'] at hh
   rcases hh with hh | hh
   ·have := lp e he; simp only at hh; omega
   ·exact absurd hh (hn e he)
  ·rw [List.mem_singleton.1 he] at hh
   rcases hh with hh | hh
   ·have := lp e' he'; simp only at hh; omega
   ·exact absurd hh.symm (hn e' he')
  ·rw [List.mem_singleton.1 he, List.mem_singleton.1 he']
 ·rw [List.map_append, List.nodup_append]
  refine ⟨h.nd, by simp, fun a ha b hb => ?_⟩
  obtain ⟨e, he, rfl⟩ := List.mem_map.1 ha
  simp at hb
  rw [hb]
  exact hn e he
theorem livesS_srt (l : List Stm) : SrtX (livesS l) := by
 have : ∀ (l : List Stm) (o : List LifeV), SrtX o → SrtX (l.foldl stepX o) := fun l => by
  induction l with
  | nil => exact fun o h => h
  | cons s l ih => exact fun o h => ih _ (stepX_srt h s)
 exact this l [] List.Pairwise.nil
section
variable {Γ : FuncId → Option GF} (u : Un2 Γ)
include u
theorem lives_one {v : AV} {l : List Stm} (hv : LIs v l) (hone : ∀ s ∈ l, One s.r) (hlen1 : l.length ≤ 1000) {t : List AV} {lo : Option Nat} (hl2 : Lv 67 [(0, v), (2, .nils), (3, .map nil0.length)] t) :
  Wp Γ T (hd (tl (tl a6.body))) { t := t, h := apm nil0, lo := lo } fun e s => e = .normal ∧ ∃ t G lo es m, s = { t := t, h := G, lo := lo } ∧ Lv 67 [(2, .nils), (3, .map m)] t ∧ LivesAt G m (livesS l) es := by
 have hlen : pOp evC (apm nil0) (.len 1 (.c v)) = some (.int .i64 (l.length : Int)) := by
  rcases hv with ⟨rfl, rfl⟩ | ⟨ex, rfl⟩
  ·rfl
  ·exact len_ro l _ 12 ex _
 refine Wp.seq ((path4 (nt := 67) [.g (.int .i64 (l.length : Int))] [2, 3, 10, 11, 12] (e := .normal) (vals := [.nils, (.map (List.length nil0)), v, (.int .i64 (l.length : Int)), (.int .i64 0)]) (h' := (apm nil0)) [pOp evC (apm nil0) (.len 1 (.c v)) = some (.int .i64 (l.length : Int))] hl2 (fun t0 => by kernel_rfl) ⟨hlen, trivial⟩).mono ?_)
 rintro e s ⟨rfl, t2, lo2, rfl, hl3⟩
 have hL0 : LivesAt (apm nil0) 0 (livesS (l.take 0)) [] := ⟨rfl, (fun e he => by cases he), (fun x hx => by rw [List.take_zero] at hx; cases hx), (fun e he => by cases he), by simp⟩
 refine Wp.block (Wp.mono (Wp.loop (Q := fun e s => e = .exit 0 ∧ ∃ t G lo es m, s = { t := t, h := G, lo := lo } ∧ Lv 67 [(2, .nils), (3, .map m)] t ∧ LivesAt G m (livesS l) es) (fun k s => ∃ (i : Nat) (t : List AV) (G : List Blk) (lo : Option Nat) (es : List E) (m : Nat), s = { t := t, h := G, lo := lo } ∧ k = l.length - i ∧ i ≤ l.length ∧ Lv 67 [(2, .nils), (3, .map m), (10, v), (11, .int .i64 (l.length : Int)), (12, .int .i64 (i : Int))] t ∧ LivesAt G m (livesS (l.take i)) es) ?_ l.length _ ⟨0, t2, _, lo2, [], 0, rfl, rfl, by omega, hl3, hL0⟩) fun e s h => by
  obtain ⟨rfl, h⟩ := h
  exact ⟨rfl, h⟩)
 clear hl3 hl2 hL0 hlen
 rintro k s ⟨i, t, G, lo, es, m, rfl, rfl, hile, hl, hL⟩
 by_cases hlt : i < l.length
 ·have hi : (i : Int) < (l.length : Int) := by omega
  rcases hv with ⟨rfl, rfl⟩ | ⟨ex, rfl⟩
  ·simp at hlt
  have hg := List.getElem?_eq_getElem hlt
  have hm := List.getElem_mem hlt
  have htk : l.take (i + 1) = l.take i ++ [l[i]] := by rw [List.take_add_one, hg]; rfl
  have hget : (l.map encS)[(i : Int).toNat]? = some (.agg (enS l[i])) := by rw [Int.toNat_natCast, List.getElem?_map, hg]; rfl
  generalize l[i] = s at hget hm htk
  have hr := hone s hm
  have hs1 := oneS hr
  have hsrt := livesS_srt (l.take i)
  have hliv : livesS (l.take (i + 1)) = stepX (livesS (l.take i)) s := by rw [htk, livesS_snoc]
  have hwp : IntKind.i64.wrap ((i : Int) + 1) = ((i + 1 : Nat) : Int) := by rw [IntWalk.i64_in _ (by omega)]; rfl
  obtain ⟨lo1, hco⟩ := isOwn_cl u.toUn s.r (ap G (enS s))
  have hL1 : LivesAt (ap (ap G (enS s)) (enR s.r)) m (livesS (l.take i)) es := hL.up ((Up.app _ _).trans (Up.app _ _))
  have fb : (ap (ap (ap G (enS s)) (enR s.r)) [.int .i64 s.r.deal, .int .i64 s.st, .int .i64 0, .int .i64 0, .int .i64 0, .int .i64 0])[G.length]? = some (.cells (enS s)) := ga (ga gl)
  cases ho : isOwn s.r with
  | false =>
   rw [ho] at hco
   refine (path4 (nt := 67) [.b true, .v (.agg (enS s)), .w (.ptr (List.length G) 0) (ap G [(.int .i64 0), (.int .i64 0), (.int .i64 0), (.int .i64 0), (.int .i64 0), .nils, (.int .i64 0), (.int .i64 0), (.str []), (.str []), .nils, .nils]) none, .w (.tup []) (ap G (enS s)) (some (List.length G)), .f (.agg (enR s.r)), .r (.bool false) (ap (ap G (enS s)) (enR s.r)) lo1] [2, 3, 10, 11, 12] (e := .normal) (vals := [.nils, (.map m), (.ro (l.map encS) 12 ex), (.int .i64 (l.length : Int)), (.int .i64 (IntKind.i64.wrap ((i : Int) + 1)))]) (h' := (ap (ap G (enS s)) (enR s.r))) [cB (decide ((i : Int) < (l.length : Int))) true, 12 = 12, 0 ≤ (i : Int), (i : Int) < (List.length (l.map encS) : Int), ((l.map encS))[(Int.toNat (i : Int))]? = some (.agg (enS s)), wOp evC G (.alloc [(.int .i64 0), (.int .i64 0), (.int .i64 0), (.int .i64 0), (.int .i64 0), .nils, (.int .i64 0), (.int .i64 0), (.str []), (.str []), .nils, .nils]) = some ((.ptr (List.length G) 0), (ap G [(.int .i64 0), (.int .i64 0), (.int .i64 0), (.int .i64 0), (.int .i64 0), .nils, (.int .i64 0), (.int .i64 0), (.str []), (.str []), .nils, .nils]), none), wOp evC (ap G [(.int .i64 0), (.int .i64 0), (.int .i64 0), (.int .i64 0), (.int .i64 0), .nils, (.int .i64 0), (.int .i64 0), (.str []), (.str []), .nils, .nils]) (.store 12 (.c (.ptr (List.length G) 0)) (.c (.agg (enS s)))) = some ((.tup []), (ap G (enS s)), (some (List.length G))), pOp evC (ap G (enS s)) (.load (some 11) (.c (.ptr (List.length G) 1))) = some (.agg (enR s.r)), Cl Γ T 11 [(.agg (enR s.r))] (ap G (enS s)) ((.bool false), (ap (ap G (enS s)) (enR s.r)), lo1)] hl (fun t0 => by kernel_rfl) ⟨(cT hi), rfl, (by omega), (by simp; omega), hget, rfl, (stLast (by kernel_rfl) (by kernel_rfl) hs1), (ldC gl (by kernel_rfl)), hco, trivial⟩).mono ?_
   rintro e s' ⟨rfl, t4, lo4, rfl, hl4⟩
   rw [hwp] at hl4
   exact ⟨l.length - (i + 1), by omega, i + 1, t4, _, lo4, es, m, rfl, rfl, by omega, hl4, by rw [hliv]; unfold stepX; rw [if_neg (by simp [ho])]; exact hL1⟩
  | true =>
   rw [ho] at hco
   by_cases hd : s.r.deal ≤ 0
   ·refine (path4 (nt := 67) [.b true, .v (.agg (enS s)), .w (.ptr (List.length G) 0) (ap G [(.int .i64 0), (.int .i64 0), (.int .i64 0), (.int .i64 0), (.int .i64 0), .nils, (.int .i64 0), (.int .i64 0), (.str []), (.str []), .nils, .nils]) none, .w (.tup []) (ap G (enS s)) (some (List.length G)), .f (.agg (enR s.r)), .r (.bool true) (ap (ap G (enS s)) (enR s.r)) lo1, .f (.int .i64 s.r.deal), .b true] [2, 3, 10, 11, 12] (e := .normal) (vals := [.nils, (.map m), (.ro (l.map encS) 12 ex), (.int .i64 (l.length : Int)), (.int .i64 (IntKind.i64.wrap ((i : Int) + 1)))]) (h' := (ap (ap G (enS s)) (enR s.r))) [cB (decide ((i : Int) < (l.length : Int))) true, 12 = 12, 0 ≤ (i : Int), (i : Int) < (List.length (l.map encS) : Int), ((l.map encS))[(Int.toNat (i : Int))]? = some (.agg (enS s)), wOp evC G (.alloc [(.int .i64 0), (.int .i64 0), (.int .i64 0), (.int .i64 0), (.int .i64 0), .nils, (.int .i64 0), (.int .i64 0), (.str []), (.str []), .nils, .nils]) = some ((.ptr (List.length G) 0), (ap G [(.int .i64 0), (.int .i64 0), (.int .i64 0), (.int .i64 0), (.int .i64 0), .nils, (.int .i64 0), (.int .i64 0), (.str []), (.str []), .nils, .nils]), none), wOp evC (ap G [(.int .i64 0), (.int .i64 0), (.int .i64 0), (.int .i64 0), (.int .i64 0), .nils, (.int .i64 0), (.int .i64 0), (.str []), (.str []), .nils, .nils]) (.store 12 (.c (.ptr (List.length G) 0)) (.c (.agg (enS s)))) = some ((.tup []), (ap G (enS s)), (some (List.length G))), pOp evC (ap G (enS s)) (.load (some 11) (.c (.ptr (List.length G) 1))) = some (.agg (enR s.r)), Cl Γ T 11 [(.agg (enR s.r))] (ap G (enS s)) ((.bool true), (ap (ap G (enS s)) (enR s.r)), lo1), pOp evC (ap (ap G (enS s)) (enR s.r)) (.load none (.c (.ptr (List.length G) 2))) = some (.int .i64 s.r.deal), cB (decide (s.r.deal ≤ 0)) true] hl (fun t0 => by kernel_rfl) ⟨(cT hi), rfl, (by omega), (by simp; omega), hget, rfl, (stLast (by kernel_rfl) (by kernel_rfl) hs1), (ldC gl (by kernel_rfl)), hco, (ldC (ga gl) (by kernel_rfl)), (cT hd), trivial⟩).mono ?_
    rintro e s' ⟨rfl, t4, lo4, rfl, hl4⟩
    rw [hwp] at hl4
    exact ⟨l.length - (i + 1), by omega, i + 1, t4, _, lo4, es, m, rfl, rfl, by omega, hl4, by rw [hliv]; unfold stepX; rw [if_neg (by omega)]; exact hL1⟩
   ·have hst : stepX (livesS (l.take i)) s = ins (livesS (l.take i)) (addX (curX (livesS (l.take i)) s) s) := by unfold stepX; rw [if_pos ⟨ho, by omega⟩]
    rw [hst] at hliv
    by_cases hx : ∃ e ∈ es, e.id = s.r.deal
    ·obtain ⟨e, he, hid⟩ := hx
     obtain ⟨x, hx1, hx2, hx3⟩ := hL1.ex e he
     obtain ⟨G2, lo2, hca, hp2, hf2⟩ := lifeadd_cl u hx3 s
     rw [curX_of hsrt hx1 (by omega)] at hliv
     refine (path4 (nt := 67) [.b true, .v (.agg (enS s)), .w (.ptr (List.length G) 0) (ap G [(.int .i64 0), (.int .i64 0), (.int .i64 0), (.int .i64 0), (.int .i64 0), .nils, (.int .i64 0), (.int .i64 0), (.str []), (.str []), .nils, .nils]) none, .w (.tup []) (ap G (enS s)) (some (List.length G)), .f (.agg (enR s.r)), .r (.bool true) (ap (ap G (enS s)) (enR s.r)) lo1, .f (.int .i64 s.r.deal), .b false, .f (.int .i64 s.r.deal), .f (.ptr e.p 0), .b false, .f (.agg (enS s)), .r (.tup []) G2 lo2] [2, 3, 10, 11, 12] (e := .normal) (vals := [.nils, (.map m), (.ro (l.map encS) 12 ex), (.int .i64 (l.length : Int)), (.int .i64 (IntKind.i64.wrap ((i : Int) + 1)))]) (h' := G2) [cB (decide ((i : Int) < (l.length : Int))) true, 12 = 12, 0 ≤ (i : Int), (i : Int) < (List.length (l.map encS) : Int), ((l.map encS))[(Int.toNat (i : Int))]? = some (.agg (enS s)), wOp evC G (.alloc [(.int .i64 0), (.int .i64 0), (.int .i64 0), (.int .i64 0), (.int .i64 0), .nils, (.int .i64 0), (.int .i64 0), (.str []), (.str []), .nils, .nils]) = some ((.ptr (List.length G) 0), (ap G [(.int .i64 0), (.int .i64 0), (.int .i64 0), (.int .i64 0), (.int .i64 0), .nils, (.int .i64 0), (.int .i64 0), (.str []), (.str []), .nils, .nils]), none), wOp evC (ap G [(.int .i64 0), (.int .i64 0), (.int .i64 0), (.int .i64 0), (.int .i64 0), .nils, (.int .i64 0), (.int .i64 0), (.str []), (.str []), .nils, .nils]) (.store 12 (.c (.ptr (List.length G) 0)) (.c (.agg (enS s)))) = some ((.tup []), (ap G (enS s)), (some (List.length G))), pOp evC (ap G (enS s)) (.load (some 11) (.c (.ptr (List.length G) 1))) = some (.agg (enR s.r)), Cl Γ T 11 [(.agg (enR s.r))] (ap G (enS s)) ((.bool true), (ap (ap G (enS s)) (enR s.r)), lo1), pOp evC (ap (ap G (enS s)) (enR s.r)) (.load none (.c (.ptr (List.length G) 2))) = some (.int .i64 s.r.deal), cB (decide (s.r.deal ≤ 0)) false, pOp evC (ap (ap G (enS s)) (enR s.r)) (.load none (.c (.ptr (List.length G) 2))) = some (.int .i64 s.r.deal), pOp evC (ap (ap G (enS s)) (enR s.r)) (.lookup .nilp 1 (.c (.map m)) (.c (.int .i64 s.r.deal)) false) = some (.ptr e.p 0), pOp evC (ap (ap G (enS s)) (enR s.r)) (.isNil 0 false (.c (.ptr e.p 0))) = some (.bool false), pOp evC (ap (ap G (enS s)) (enR s.r)) (.load (some 12) (.c (.ptr (List.length G) 0))) = some (.agg (enS s)), Cl Γ T 12 [(.ptr e.p 0), (.agg (enS s))] (ap (ap G (enS s)) (enR s.r)) ((.tup []), G2, lo2)] hl (fun t0 => by kernel_rfl) ⟨(cT hi), rfl, (by omega), (by simp; omega), hget, rfl, (stLast (by kernel_rfl) (by kernel_rfl) hs1), (ldC gl (by kernel_rfl)), hco, (ldC (ga gl) (by kernel_rfl)), (cF hd), (ldC (ga gl) (by kernel_rfl)), (lk_some (k := E.id) (v := fun e => .ptr e.p 0) hL1.hm he hid fun x hx h1 => hL1.inj x hx e he (.inr (h1.trans hid.symm))), rfl, (ldC (ga gl) (by kernel_rfl)), hca, trivial⟩).mono ?_
     rintro e' s' ⟨rfl, t4, lo4, rfl, hl4⟩
     rw [hwp] at hl4
     exact ⟨l.length - (i + 1), by omega, i + 1, t4, _, lo4, es, m, rfl, rfl, by omega, hl4, by rw [hliv]; exact hL1.upd hsrt he (by rw [addX_deal]; exact hx2) hp2 hf2⟩
    ·have hn : ∀ e ∈ es, e.id ≠ s.r.deal := fun e he hi => hx ⟨e, he, hi⟩
     have hmne : m ≠ ((ap (ap G (enS s)) (enR s.r))).length := by have := glt hL1.hm; omega
     have fb := gne (i := m) (b := .map (es.map kvE ++ [(.int .i64 s.r.deal, .ptr (List.length (ap (ap G (enS s)) (enR s.r))) 0)])) (by have := glt hL.hm; omega) fb
     obtain ⟨G2, lo2, hca, hp2, hf2⟩ := lifeadd_cl u (x := newX s) (p := ((ap (ap G (enS s)) (enR s.r))).length) (H := (List.set (ap (ap (ap G (enS s)) (enR s.r)) [(.int .i64 s.r.deal), (.int .i64 s.st), (.int .i64 0), (.int .i64 0), (.int .i64 0), (.int .i64 0)]) m (.map (es.map kvE ++ [(.int .i64 s.r.deal, .ptr (List.length (ap (ap G (enS s)) (enR s.r))) 0)])))) (gne hmne gl) s
     rw [curX_new (fun x hx hd => by obtain ⟨e, he, h1⟩ := hL1.all x hx; exact hn e he (by omega))] at hliv
     refine (path4 (nt := 67) [.b true, .v (.agg (enS s)), .w (.ptr (List.length G) 0) (ap G [(.int .i64 0), (.int .i64 0), (.int .i64 0), (.int .i64 0), (.int .i64 0), .nils, (.int .i64 0), (.int .i64 0), (.str []), (.str []), .nils, .nils]) none, .w (.tup []) (ap G (enS s)) (some (List.length G)), .f (.agg (enR s.r)), .r (.bool true) (ap (ap G (enS s)) (enR s.r)) lo1, .f (.int .i64 s.r.deal), .b false, .f (.int .i64 s.r.deal), .f .nilp, .b true, .f (.int .i64 s.r.deal), .f (.int .i64 s.st), .w (.ptr (List.length (ap (ap G (enS s)) (enR s.r))) 0) (ap (ap (ap G (enS s)) (enR s.r)) [(.int .i64 s.r.deal), (.int .i64 s.st), (.int .i64 0), (.int .i64 0), (.int .i64 0), (.int .i64 0)]) none, .f (.int .i64 s.r.deal), .w (.tup []) (List.set (ap (ap (ap G (enS s)) (enR s.r)) [(.int .i64 s.r.deal), (.int .i64 s.st), (.int .i64 0), (.int .i64 0), (.int .i64 0), (.int .i64 0)]) m (.map (es.map kvE ++ [(.int .i64 s.r.deal, .ptr (List.length (ap (ap G (enS s)) (enR s.r))) 0)]))) (some m), .f (.agg (enS s)), .r (.tup []) G2 lo2] [2, 3, 10, 11, 12] (e := .normal) (vals := [.nils, (.map m), (.ro (l.map encS) 12 ex), (.int .i64 (l.length : Int)), (.int .i64 (IntKind.i64.wrap ((i : Int) + 1)))]) (h' := G2) [cB (decide ((i : Int) < (l.length : Int))) true, 12 = 12, 0 ≤ (i : Int), (i : Int) < (List.length (l.map encS) : Int), ((l.map encS))[(Int.toNat (i : Int))]? = some (.agg (enS s)), wOp evC G (.alloc [(.int .i64 0), (.int .i64 0), (.int .i64 0), (.int .i64 0), (.int .i64 0), .nils, (.int .i64 0), (.int .i64 0), (.str []), (.str []), .nils, .nils]) = some ((.ptr (List.length G) 0), (ap G [(.int .i64 0), (.int .i64 0), (.int .i64 0), (.int .i64 0), (.int .i64 0), .nils, (.int .i64 0), (.int .i64 0), (.str []), (.str []), .nils, .nils]), none), wOp evC (ap G [(.int .i64 0), (.int .i64 0), (.int .i64 0), (.int .i64 0), (.int .i64 0), .nils, (.int .i64 0), (.int .i64 0), (.str []), (.str []), .nils, .nils]) (.store 12 (.c (.ptr (List.length G) 0)) (.c (.agg (enS s)))) = some ((.tup []), (ap G (enS s)), (some (List.length G))), pOp evC (ap G (enS s)) (.load (some 11) (.c (.ptr (List.length G) 1))) = some (.agg (enR s.r)), Cl Γ T 11 [(.agg (enR s.r))] (ap G (enS s)) ((.bool true), (ap (ap G (enS s)) (enR s.r)), lo1), pOp evC (ap (ap G (enS s)) (enR s.r)) (.load none (.c (.ptr (List.length G) 2))) = some (.int .i64 s.r.deal), cB (decide (s.r.deal ≤ 0)) false, pOp evC (ap (ap G (enS s)) (enR s.r)) (.load none (.c (.ptr (List.length G) 2))) = some (.int .i64 s.r.deal), pOp evC (ap (ap G (enS s)) (enR s.r)) (.lookup .nilp 1 (.c (.map m)) (.c (.int .i64 s.r.deal)) false) = some .nilp, pOp evC (ap (ap G (enS s)) (enR s.r)) (.isNil 0 false (.c .nilp)) = some (.bool true), pOp evC (ap (ap G (enS s)) (enR s.r)) (.load none (.c (.ptr (List.length G) 2))) = some (.int .i64 s.r.deal), pOp evC (ap (ap G (enS s)) (enR s.r)) (.load none (.c (.ptr (List.length G) 0))) = some (.int .i64 s.st), wOp evC (ap (ap G (enS s)) (enR s.r)) (.box (.c (.agg [(.int .i64 s.r.deal), (.int .i64 s.st), (.int .i64 0), (.int .i64 0), (.int .i64 0), (.int .i64 0)]))) = some ((.ptr (List.length (ap (ap G (enS s)) (enR s.r))) 0), (ap (ap (ap G (enS s)) (enR s.r)) [(.int .i64 s.r.deal), (.int .i64 s.st), (.int .i64 0), (.int .i64 0), (.int .i64 0), (.int .i64 0)]), none), pOp evC (ap (ap (ap G (enS s)) (enR s.r)) [(.int .i64 s.r.deal), (.int .i64 s.st), (.int .i64 0), (.int .i64 0), (.int .i64 0), (.int .i64 0)]) (.load none (.c (.ptr (List.length G) 2))) = some (.int .i64 s.r.deal), wOp evC (ap (ap (ap G (enS s)) (enR s.r)) [(.int .i64 s.r.deal), (.int .i64 s.st), (.int .i64 0), (.int .i64 0), (.int .i64 0), (.int .i64 0)]) (.mapUpd 1 (.c (.map m)) (.c (.int .i64 s.r.deal)) (.c (.ptr (List.length (ap (ap G (enS s)) (enR s.r))) 0))) = some ((.tup []), (List.set (ap (ap (ap G (enS s)) (enR s.r)) [(.int .i64 s.r.deal), (.int .i64 s.st), (.int .i64 0), (.int .i64 0), (.int .i64 0), (.int .i64 0)]) m (.map (es.map kvE ++ [(.int .i64 s.r.deal, .ptr (List.length (ap (ap G (enS s)) (enR s.r))) 0)]))), (some m)), pOp evC (List.set (ap (ap (ap G (enS s)) (enR s.r)) [(.int .i64 s.r.deal), (.int .i64 s.st), (.int .i64 0), (.int .i64 0), (.int .i64 0), (.int .i64 0)]) m (.map (es.map kvE ++ [(.int .i64 s.r.deal, .ptr (List.length (ap (ap G (enS s)) (enR s.r))) 0)]))) (.load (some 12) (.c (.ptr (List.length G) 0))) = some (.agg (enS s)), Cl Γ T 12 [(.ptr (List.length (ap (ap G (enS s)) (enR s.r))) 0), (.agg (enS s))] (List.set (ap (ap (ap G (enS s)) (enR s.r)) [(.int .i64 s.r.deal), (.int .i64 s.st), (.int .i64 0), (.int .i64 0), (.int .i64 0), (.int .i64 0)]) m (.map (es.map kvE ++ [(.int .i64 s.r.deal, .ptr (List.length (ap (ap G (enS s)) (enR s.r))) 0)]))) ((.tup []), G2, lo2)] hl (fun t0 => by kernel_rfl) ⟨(cT hi), rfl, (by omega), (by simp; omega), hget, rfl, (stLast (by kernel_rfl) (by kernel_rfl) hs1), (ldC gl (by kernel_rfl)), hco, (ldC (ga gl) (by kernel_rfl)), (cF hd), (ldC (ga gl) (by kernel_rfl)), (lk_none (k := E.id) (v := fun e => .ptr e.p 0) hL1.hm hn), rfl, (ldC (ga gl) (by kernel_rfl)), (ldC (ga gl) (by kernel_rfl)), rfl, (ldC (ga (ga gl)) (by kernel_rfl)), (up_new (k := E.id) (v := fun e => .ptr e.p 0) (ga hL1.hm) hn), (ldC fb (by kernel_rfl)), hca, trivial⟩).mono ?_
     rintro e' s' ⟨rfl, t4, lo4, rfl, hl4⟩
     rw [hwp] at hl4
     exact ⟨l.length - (i + 1), by omega, i + 1, t4, _, lo4, _, m, rfl, rfl, by omega, hl4, by rw [hliv]; exact hL1.put hsrt hn (by rw [addX_deal]; rfl) hp2 hf2⟩
 ·have hi : ¬ (i : Int) < (l.length : Int) := by omega
  refine (path4 (nt := 67) [.b false] [2, 3] (e := (.exit 0)) (vals := [.nils, (.map m)]) (h' := G) [cB (decide ((i : Int) < (l.length : Int))) false] hl (fun t0 => by kernel_rfl) ⟨(cF hi), trivial⟩).mono ?_
  rintro e s ⟨rfl, t4, lo4, rfl, hl4⟩
  rw [List.take_of_length_le (by omega)] at hL
  exact ⟨rfl, t4, _, lo4, es, m, rfl, hl4, hL⟩
end
def livesV (out : List LifeV) (id : Nat) : AV := if out = [] then .nils else .sl id 6 0 out.length out.length false
section
variable {Γ : FuncId → Option GF}
theorem apNils {H : List Blk} {jd : Nat} {e : List AV} (hj : H[jd]? = some (.cells e)) (he : e.length = 6) (h1 : e.all AV.one = true) : wOp evC H (.append 6 48 (.c .nils) (.c (.sl jd 6 0 1 1 true))) = some (.sl H.length 6 0 1 1 false, ap H e, none) := by
 have hx : elems H 6 (.sl jd 6 0 1 1 true) = some e := by
  simp only [elems, if_pos, Nat.one_ne_zero, if_false, rdCells, hj, Nat.one_mul, Nat.zero_add, List.drop_zero]
  rw [if_pos (by omega), List.take_of_length_le (by omega)]
 simp only [wOp, evC, lenOf, hx, Nat.one_ne_zero, if_false, h1]
 rfl
theorem lives_two {G0 : List Blk} {m : Nat} {out : List LifeV} {es : List E} (hL0 : LivesAt G0 m out es) (hs : SrtX out) (hlen : out.length ≤ 1000) {t : List AV} {lo : Option Nat} (hl4 : Lv 67 [(2, .nils), (3, .map m), (51, keysV (out.map LifeV.deal)), (52, .int .i64 (out.length : Int)), (53, .int .i64 0)] t) :
  Wp Γ T (tl (hd (tl (tl (tl a6.body))))) { t := t, h := G0, lo := lo } fun e s => e = .normal ∧ s.t.length = 67 ∧ ∃ id, getX s.t 2 = livesV out id ∧ (out ≠ [] → Built 6 (out.map enX) s.h id false) := by
 have hkv : ∀ j, j < out.length → keysV (out.map LifeV.deal) = (.ro (List.map (AV.int .i64) (List.map LifeV.deal out)) 1 false) := fun j hj => by
  unfold keysV
  rw [if_neg]
  intro h
  cases out with
  | nil => simp at hj
  | cons a b => simp at h
 refine Wp.block (Wp.mono (Wp.loop (Q := fun e s => e = .exit 2 ∧ s.t.length = 67 ∧ ∃ id, getX s.t 2 = livesV out id ∧ (out ≠ [] → Built 6 (out.map enX) s.h id false)) (fun k s => ∃ (j : Nat) (t : List AV) (G : List Blk) (lo : Option Nat) (id : Nat), s = { t := t, h := G, lo := lo } ∧ k = out.length - j ∧ j ≤ out.length ∧ Lv 67 [(2, if j = 0 then .nils else .sl id 6 0 j j false), (3, .map m), (51, keysV (out.map LifeV.deal)), (52, .int .i64 (out.length : Int)), (53, .int .i64 (j : Int))] t ∧ (∀ i x, i < G0.length → G0[i]? = some x → G[i]? = some x) ∧ (0 < j → G0.length ≤ id ∧ Built 6 ((out.take j).map enX) G id false)) ?_ out.length _ ⟨0, t, G0, lo, 0, rfl, rfl, by omega, hl4, fun i x _ h => h, fun h => by omega⟩) fun e s h => by
  obtain ⟨rfl, h⟩ := h
  exact ⟨rfl, h⟩)
 clear hl4
 rintro k s ⟨j, t, G, lo, id, rfl, rfl, hjle, hl, hU, hB⟩
 have hL : LivesAt G m out es := ⟨hU _ _ (glt hL0.hm) hL0.hm, fun e he => by obtain ⟨x, h1, h2, h3⟩ := hL0.ex e he; exact ⟨x, h1, h2, hU _ _ (glt h3) h3⟩, hL0.all, hL0.inj, hL0.nd⟩
 by_cases hjl : j < out.length
 ·have hj : (j : Int) < (out.length : Int) := by omega
  have hgj := List.getElem?_eq_getElem hjl
  have hxm := List.getElem_mem hjl
  have htk : (out.take (j + 1)).map enX = (out.take j).map enX ++ [enX out[j]] := by rw [List.take_add_one, hgj, List.map_append]; rfl
  have hgk : ((out.map LifeV.deal).map (AV.int .i64))[(j : Int).toNat]? = some (.int .i64 out[j].deal) := by rw [Int.toNat_natCast, List.getElem?_map, List.getElem?_map, hgj]; rfl
  generalize out[j] = x at htk hgk hxm
  obtain ⟨e, he, hid⟩ := hL.all x hxm
  obtain ⟨y, hy1, hy2, hpx⟩ := hL.ex e he
  have : x = y := hs.uniq hxm hy1 (by omega)
  subst this
  have hwp : IntKind.i64.wrap ((j : Int) + 1) = ((j + 1 : Nat) : Int) := by rw [IntWalk.i64_in _ (by omega)]; rfl
  rw [hkv j hjl] at hl
  by_cases hj0 : j = 0
  ·subst hj0
   rw [if_pos rfl] at hl
   have hap := apNils (H := ap G (enX x)) (jd := G.length) gl rfl (enX_one x)
   generalize hjj : 0 = j at hl hgk hj hwp
   refine (path4 (nt := 67) [.b true, .v (.int .i64 x.deal), .f (.ptr e.p 0), .f (.agg (enX x)), .w (.sl (List.length G) 6 0 1 1 true) (ap G [(.int .i64 x.deal), (.int .i64 x.first), (.int .i64 x.last), (.int .i64 x.done), (.int .i64 x.undone), (.int .i64 x.fin)]) none, .w (.sl (List.length (ap G (enX x))) 6 0 1 1 false) (ap (ap G (enX x)) (enX x)) none] [2, 3, 51, 52, 53] (e := .normal) (vals := [(.sl (List.length (ap G (enX x))) 6 0 1 1 false), (.map m), (.ro (List.map (AV.int .i64) (List.map LifeV.deal out)) 1 false), (.int .i64 (out.length : Int)), (.int .i64 (IntKind.i64.wrap ((j : Int) + 1)))]) (h' := (ap (ap G (enX x)) (enX x))) [cB (decide ((j : Int) < (out.length : Int))) true, 1 = 1, 0 ≤ (j : Int), (j : Int) < (List.length (List.map (AV.int .i64) (List.map LifeV.deal out)) : Int), ((List.map (AV.int .i64) (List.map LifeV.deal out)))[(Int.toNat (j : Int))]? = some (.int .i64 x.deal), pOp evC G (.lookup .nilp 1 (.c (.map m)) (.c (.int .i64 x.deal)) false) = some (.ptr e.p 0), pOp evC G (.load (some 6) (.c (.ptr e.p 0))) = some (.agg (enX x)), wOp evC G (.buildSl [(.int .i64 0), (.int .i64 0), (.int .i64 0), (.int .i64 0), (.int .i64 0), (.int .i64 0)] 1 [(0, (.c (.agg (enX x))))]) = some ((.sl (List.length G) 6 0 1 1 true), (ap G [(.int .i64 x.deal), (.int .i64 x.first), (.int .i64 x.last), (.int .i64 x.done), (.int .i64 x.undone), (.int .i64 x.fin)]), none), wOp evC (ap G [(.int .i64 x.deal), (.int .i64 x.first), (.int .i64 x.last), (.int .i64 x.done), (.int .i64 x.undone), (.int .i64 x.fin)]) (.append 6 48 (.c .nils) (.c (.sl (List.length G) 6 0 1 1 true))) = some ((.sl (List.length (ap G (enX x))) 6 0 1 1 false), (ap (ap G (enX x)) (enX x)), none)] hl (fun t0 => by kernel_rfl) ⟨(cT hj), rfl, (by omega), (by simp; omega), hgk, (lk_some (k := E.id) (v := fun e => .ptr e.p 0) hL.hm he hid fun y hy h1 => hL.inj y hy e he (.inr (h1.trans hid.symm))), (ldC hpx (by kernel_rfl)), rfl, hap, trivial⟩).mono ?_
   rintro e' s' ⟨rfl, t5, lo5, rfl, hl5⟩
   subst hjj
   rw [hwp] at hl5
   rw [← hkv 0 hjl] at hl5
   have hGle : G0.length ≤ G.length := by
    by_cases h0 : G0.length ≤ G.length
    ·exact h0
    ·have hlt : G.length < G0.length := by omega
     have := glt (hU G.length _ hlt (List.getElem?_eq_getElem hlt))
     omega
   refine ⟨out.length - (0 + 1), by omega, 0 + 1, t5, _, lo5, (ap G (enX x)).length, rfl, rfl, by omega, hl5, fun i z hi hz => ga (ga (hU i z hi hz)), fun _ => ⟨by simp; omega, ?_⟩⟩
   rw [htk]
   refine ⟨?_, (fun h => by cases h), (fun _ => by simp), ?_, ?_⟩
   ·rw [gl]; simp
   ·intro e he; simp at he; rw [he]; rfl
   ·intro e he; simp at he; rw [he]; rfl
  ·rw [if_neg hj0] at hl
   obtain ⟨hidle, hb⟩ := hB (by omega)
   have hb2 : Built 6 ((out.take j).map enX) (ap G (enX x)) id false := hb.grow (by rw [hb.blk]; exact ga hb.blk)
   have hll : ((out.take j).map enX).length = j := by simp; omega
   have hap := app_one (by_ := 48) (jd := G.length) (e := enX x) hb2 rfl (enX_one x) gl (by rw [hll]; omega)
   unfold bSl at hap
   rw [hll] at hap
   have hba := hb2.app (e := enX x) rfl (enX_one x)
   rw [← htk] at hap hba
   have hk2 : ∀ i z, i < G0.length → G0[i]? = some z → (appH (ap G (enX x)) id false ((out.take (j + 1)).map enX).flatten)[i]? = some z := fun i z hi hx => by
    have hgi := hU i z hi hx
    rw [appH_get (by have := glt hgi; simp; omega) (by omega)]
    exact ga hgi
   have hal : (appL id false) = some id := rfl
   rw [hal] at hap
   generalize appH (ap G (enX x)) id false ((out.take (j + 1)).map enX).flatten = G2 at hap hba hk2
   refine (path4 (nt := 67) [.b true, .v (.int .i64 x.deal), .f (.ptr e.p 0), .f (.agg (enX x)), .w (.sl (List.length G) 6 0 1 1 true) (ap G [(.int .i64 x.deal), (.int .i64 x.first), (.int .i64 x.last), (.int .i64 x.done), (.int .i64 x.undone), (.int .i64 x.fin)]) none, .w (.sl (List.length (ap G (enX x))) 6 0 (j + 1) (j + 1) false) G2 (some id)] [2, 3, 51, 52, 53] (e := .normal) (vals := [(.sl (List.length (ap G (enX x))) 6 0 (j + 1) (j + 1) false), (.map m), (.ro (List.map (AV.int .i64) (List.map LifeV.deal out)) 1 false), (.int .i64 (out.length : Int)), (.int .i64 (IntKind.i64.wrap ((j : Int) + 1)))]) (h' := G2) [cB (decide ((j : Int) < (out.length : Int))) true, 1 = 1, 0 ≤ (j : Int), (j : Int) < (List.length (List.map (AV.int .i64) (List.map LifeV.deal out)) : Int), ((List.map (AV.int .i64) (List.map LifeV.deal out)))[(Int.toNat (j : Int))]? = some (.int .i64 x.deal), pOp evC G (.lookup .nilp 1 (.c (.map m)) (.c (.int .i64 x.deal)) false) = some (.ptr e.p 0), pOp evC G (.load (some 6) (.c (.ptr e.p 0))) = some (.agg (enX x)), wOp evC G (.buildSl [(.int .i64 0), (.int .i64 0), (.int .i64 0), (.int .i64 0), (.int .i64 0), (.int .i64 0)] 1 [(0, (.c (.agg (enX x))))]) = some ((.sl (List.length G) 6 0 1 1 true), (ap G [(.int .i64 x.deal), (.int .i64 x.first), (.int .i64 x.last), (.int .i64 x.done), (.int .i64 x.undone), (.int .i64 x.fin)]), none), wOp evC (ap G [(.int .i64 x.deal), (.int .i64 x.first), (.int .i64 x.last), (.int .i64 x.done), (.int .i64 x.undone), (.int .i64 x.fin)]) (.append 6 48 (.c (.sl id 6 0 j j false)) (.c (.sl (List.length G) 6 0 1 1 true))) = some ((.sl (List.length (ap G (enX x))) 6 0 (j + 1) (j + 1) false), G2, (some id))] hl (fun t0 => by kernel_rfl) ⟨(cT hj), rfl, (by omega), (by simp; omega), hgk, (lk_some (k := E.id) (v := fun e => .ptr e.p 0) hL.hm he hid fun y hy h1 => hL.inj y hy e he (.inr (h1.trans hid.symm))), (ldC hpx (by kernel_rfl)), rfl, hap, trivial⟩).mono ?_
   rintro e' s' ⟨rfl, t5, lo5, rfl, hl5⟩
   rw [hwp] at hl5
   rw [← hkv j hjl] at hl5
   refine ⟨out.length - (j + 1), by omega, j + 1, t5, _, lo5, (ap G (enX x)).length, rfl, rfl, by omega, by rw [if_neg (by omega)]; exact hl5, hk2, fun _ => ⟨?_, hba⟩⟩
   have := glt hb2.blk
   omega
 ·have hj : ¬ (j : Int) < (out.length : Int) := by omega
  have hje : j = out.length := by omega
  have hr : (if j = 0 then AV.nils else .sl id 6 0 j j false) = livesV out id := by
   unfold livesV
   by_cases h0 : out = []
   ·rw [if_pos h0, if_pos (by rw [hje, h0]; rfl)]
   ·rw [if_neg h0, if_neg (fun h => h0 (List.eq_nil_of_length_eq_zero (by omega))), hje]
  rw [hr] at hl
  generalize hlv : livesV out id = r at hl
  refine (path4 (nt := 67) [.b false] [2] (e := (.exit 2)) (vals := [r]) (h' := G) [cB (decide ((j : Int) < (out.length : Int))) false] hl (fun t0 => by kernel_rfl) ⟨(cF hj), trivial⟩).mono ?_
  rintro e' s' ⟨rfl, t5, lo5, rfl, hl5⟩
  refine ⟨rfl, hl5.len, id, (hl5.get (2, r) (by simp)).trans hlv.symm, fun hne => ?_⟩
  have h0 : 0 < j := by
   rw [hje]
   exact List.length_pos_iff.2 hne
  have := (hB h0).2
  rw [List.take_of_length_le (by omega)] at this
  exact this
end
end Go.Proofs.Ytlhbfikfnecknaa.AM.Ch

/-
  'gauger's law ModelBack holds of every input: it returns true, and each argument reads behind the call as it read before.
  This text: part 13 of 22 of the proof (MoF, MoG, MoH).
-/
import Derived.Test.YtenpjpldjmoefaaGreatMal
import Derived.Test.YtenpjpldjmoefaaGreatMah
import Derived.Test.YtenpjpldjmoefaaGreatMaj
set_option linter.unusedVariables false
set_option linter.unusedSimpArgs false
set_option maxRecDepth 100000
set_option maxHeartbeats 4000000
namespace Go.Proofs.YtenpjpldjmoefaaGreat.AM.Mo
open Go
abbrev KT := List UInt8 × Tot
abbrev enM (e : KT) : AV × AV := (.str e.1, .agg (enT e.2))
def lkK (k : List UInt8) : List KT → Option Tot
 | [] => none
 | e :: r => if k = e.1 then some e.2 else lkK k r
def putK (k : List UInt8) (t : Tot) : List KT → List KT
 | [] => [(k, t)]
 | e :: r => if k = e.1 then (k, t) :: r else e :: putK k t r
theorem bytesEq_ff {a b : List UInt8} (h : a ≠ b) : bytesEq a b = false := by
 cases hb : bytesEq a b with
 | true => exact absurd (bytesEq_iff.1 hb) h
 | false => rfl
theorem findS {k : List UInt8} : ∀ {l : List KT} {i : Nat}, (lkK k l = none ∧ findK 2 (.str k) (l.map enM) i = some none) ∨ ∃ t j, lkK k l = some t ∧ findK 2 (.str k) (l.map enM) i = some (some (i + j, .agg (enT t))) ∧ ∀ t', putK k t' l = l.set j (k, t') ∧ j < l.length
 | [], _ => .inl ⟨rfl, rfl⟩
 | e :: r, i => by
  by_cases h : k = e.1
  ·refine .inr ⟨e.2, 0, by simp [lkK, h], ?_, fun t' => ⟨by simp [putK, h], by simp⟩⟩
   rw [List.map_cons, findK]
   simp [eq1, h, bytesEq_refl]
  ·rcases findS (k := k) (l := r) (i := i + 1) with ⟨h1, h2⟩ | ⟨t, j, h1, h2, h3⟩
   ·refine .inl ⟨by simp [lkK, h, h1], ?_⟩
    rw [List.map_cons, findK]
    simp only [eq1, bytesEq_ff h]
    exact h2
   ·refine .inr ⟨t, j + 1, by simp [lkK, h, h1], ?_, fun t' => ⟨by simp [putK, h, (h3 t').1], by simp [(h3 t').2]⟩⟩
    rw [List.map_cons, findK]
    simp only [eq1, bytesEq_ff h]
    rw [h2]
    congr 3
    omega
theorem putK_none {k : List UInt8} {t : Tot} : ∀ {l : List KT}, lkK k l = none → putK k t l = l ++ [(k, t)]
 | [], _ => rfl
 | e :: r, h => by
  rw [lkK] at h
  split at h
  ·cases h
  ·rename_i hne
   simp [putK, hne, putK_none h]
section
variable {H : List Blk} {m : Nat} {l : List KT} {k : List UInt8} {z : AV}
theorem lkS_none (hm : H[m]? = some (.map (l.map enM))) (h : lkK k l = none) : pOp evC H (.lookup z 2 (.c (.map m)) (.c (.str k)) true) = some (.tup [z, .bool false]) := by
 rcases findS (k := k) (l := l) (i := 0) with ⟨_, h2⟩ | ⟨t, j, h1, _⟩
 ·simp only [pOp, evC, isKey, if_true, hm, h2, Option.map_some]
 ·rw [h] at h1; cases h1
theorem lkS_some {t : Tot} {ok : Bool} (hm : H[m]? = some (.map (l.map enM))) (h : lkK k l = some t) : pOp evC H (.lookup z 2 (.c (.map m)) (.c (.str k)) ok) = some (if ok then .tup [.agg (enT t), .bool true] else .agg (enT t)) := by
 rcases findS (k := k) (l := l) (i := 0) with ⟨h1, _⟩ | ⟨t', j, h1, h2, _⟩
 ·rw [h] at h1; cases h1
 ·rw [h] at h1; cases h1
  simp only [pOp, evC, isKey, if_true, hm, h2, Option.map_some]
theorem upS {t : Tot} (hm : H[m]? = some (.map (l.map enM))) : wOp evC H (.mapUpd 2 (.c (.map m)) (.c (.str k)) (.c (.agg (enT t)))) = some (.tup [], H.set m (.map ((putK k t l).map enM)), some m) := by
 rcases findS (k := k) (l := l) (i := 0) with ⟨h1, h2⟩ | ⟨t', j, h1, h2, h3⟩
 ·simp only [wOp, evC, isKey, if_true, hm, h2, Option.map_some, putK_none h1, List.map_append]
  rfl
 ·have h4 := (h3 t).1
  simp only [wOp, evC, isKey, if_true, hm, h2, Option.map_some, h4, List.map_set, Nat.zero_add]
end
def nxT (l : List KT) (k : List UInt8) (t : Tot) : Tot := match lkK k l with
 | some t0 => addT t0 t
 | none => t
def addS (l : List KT) (k : List UInt8) (t : Tot) : List KT := putK k (nxT l k t) l
theorem keN {k : List UInt8} {H : List Blk} (h : k ≠ []) : pOp evC H (.bin .eql (.c (.str k)) (.c (.str []))) = some (.bool false) := by
 have : bytesEq k [] = false := bytesEq_ff h
 simp only [pOp, evC, abin, astr, this]
structure UnF (Γ : FuncId → Option GF) : Prop where
 n105 : Γ 105 = none
 e129 : Γ 129 = some (pureG g129)
 e130 : Γ 130 = some (pureG g130)
 e132 : Γ 132 = some (pureG g132)
theorem add_step {Γ : FuncId → Option GF} (u : UnF Γ) {T : List (List Int)} {V : List Vw} {v : Int} {row : List Val} {w : Vw} {m : Nat} {l : List KT} {H : List Blk} (hT : T.length ≤ 9223372036854775807) (hr : row.length ≤ 9223372036854775807) (hgr : OkGr T V row) (hv0 : 0 ≤ v) (hw0 : V[v.toNat]? = some w)
  (hne0 : groupS T V v row ≠ []) (hsl : w.2.2.length ≤ 1000) (hsm : ∀ s ∈ w.2.2, 0 ≤ s ∧ s < (row.length : Int)) (hokt0 : OkTot (totalS w row)) (hokl : ∀ e ∈ l, OkTot e.2) (hm : H[m]? = some (.map (l.map enM))) :
  ∃ H' lo, Cl Γ Mo.T 105 [.map m, pA T V, .int .i64 v, rV row, .bool false] H (.tup [], H', lo) ∧ H'[m]? = some (.map ((addS l (groupS T V v row) (totalS w row)).map enM)) ∧ H.length ≤ H'.length ∧ ∀ (i : Nat) (x : Blk), i ≠ m → H[i]? = some x → H'[i]? = some x := by
 obtain ⟨key, hkey⟩ : ∃ k, groupS T V v row = k := ⟨_, rfl⟩
 obtain ⟨tt, htt⟩ : ∃ t, totalS w row = t := ⟨_, rfl⟩
 have hne : key ≠ [] := hkey ▸ hne0
 have hokt : OkTot tt := htt ▸ hokt0
 have hvl := (List.getElem?_eq_some_iff.1 hw0).1
 have hw : (List.map vwV V)[v.toNat]? = some (.agg [(.int .i64 (Prod.fst w)), (.int .i64 (Prod.fst (Prod.snd w))), (.ro (List.map iV (Prod.snd (Prod.snd w))) 1 false)]) := by simp [hw0]
 rw [hkey, htt]
 cases hlk : lkK key l with
 | none =>
  rw [show addS l key tt = putK key tt l by simp [addS, nxT, hlk]]
  obtain ⟨lo, hc⟩ := (clV 1 (af := a105) (r := (.tup [])) (h' := (List.set (ap (ap (ap H [(.ro (T.map tV) 1 false), (.ro (V.map vwV) 3 false)]) (enT tt)) [(.int .i64 0), (.int .u64 0), .nils]) m (.map (List.map enM (putK key tt l))))) [.w (.box (.c (.agg [(.ro (T.map tV) 1 false), (.ro (V.map vwV) 3 false)]))) (.ptr H.length 0) (ap H [(.ro (T.map tV) 1 false), (.ro (V.map vwV) 3 false)]) none, .f (.load (some 2) (.c (.ptr H.length 0))) (.agg (pL T V)), .r 129 [(.agg (pL T V)), (.int .i64 v), (.ro (row.map vV) 3 false)] (.str key) (ap H [(.ro (T.map tV) 1 false), (.ro (V.map vwV) 3 false)]) none, .q (.bin .eql (.c (.str key)) (.c (.str []))) false, .f (.load none (.c (.ptr H.length 1))) (.ro (V.map vwV) 3 false), .p (3 = 3), .p ((0 : Int) ≤ v), .p ((v : Int) < (List.length (V.map vwV) : Int)), .e (V.map vwV) (Int.toNat v) (.agg [(.int .i64 (Prod.fst w)), (.int .i64 (Prod.fst (Prod.snd w))), (.ro (List.map iV (Prod.snd (Prod.snd w))) 1 false)]), .r 130 [(.agg [(.int .i64 (Prod.fst w)), (.int .i64 (Prod.fst (Prod.snd w))), (.ro (List.map iV (Prod.snd (Prod.snd w))) 1 false)]), (.ro (row.map vV) 3 false)] (.agg (enT tt)) (ap H [(.ro (T.map tV) 1 false), (.ro (V.map vwV) 3 false)]) none, .w (.alloc [(.int .i64 0), (.int .u64 0), .nils]) (.ptr (List.length (ap H [(.ro (T.map tV) 1 false), (.ro (V.map vwV) 3 false)])) 0) (ap (ap H [(.ro (T.map tV) 1 false), (.ro (V.map vwV) 3 false)]) [(.int .i64 0), (.int .u64 0), .nils]) none, .w (.store 3 (.c (.ptr (List.length (ap H [(.ro (T.map tV) 1 false), (.ro (V.map vwV) 3 false)])) 0)) (.c (.agg (enT tt)))) (.tup []) (ap (ap H [(.ro (T.map tV) 1 false), (.ro (V.map vwV) 3 false)]) (enT tt)) (some (List.length (ap H [(.ro (T.map tV) 1 false), (.ro (V.map vwV) 3 false)]))), .f (.lookup (.agg [(.int .i64 0), (.int .u64 0), .nils]) 2 (.c (.map m)) (.c (.str key)) true) (.tup [(.agg [(.int .i64 0), (.int .u64 0), .nils]), (.bool false)]), .w (.alloc [(.int .i64 0), (.int .u64 0), .nils]) (.ptr (List.length (ap (ap H [(.ro (T.map tV) 1 false), (.ro (V.map vwV) 3 false)]) (enT tt))) 0) (ap (ap (ap H [(.ro (T.map tV) 1 false), (.ro (V.map vwV) 3 false)]) (enT tt)) [(.int .i64 0), (.int .u64 0), .nils]) none, .w (.store 3 (.c (.ptr (List.length (ap (ap H [(.ro (T.map tV) 1 false), (.ro (V.map vwV) 3 false)]) (enT tt))) 0)) (.c (.agg [(.int .i64 0), (.int .u64 0), .nils]))) (.tup []) (ap (ap (ap H [(.ro (T.map tV) 1 false), (.ro (V.map vwV) 3 false)]) (enT tt)) [(.int .i64 0), (.int .u64 0), .nils]) (some (List.length (ap (ap H [(.ro (T.map tV) 1 false), (.ro (V.map vwV) 3 false)]) (enT tt)))), .f (.load (some 3) (.c (.ptr (List.length (ap H [(.ro (T.map tV) 1 false), (.ro (V.map vwV) 3 false)])) 0))) (.agg (enT tt)), .w (.mapUpd 2 (.c (.map m)) (.c (.str key)) (.c (.agg (enT tt)))) (.tup []) (List.set (ap (ap (ap H [(.ro (T.map tV) 1 false), (.ro (V.map vwV) 3 false)]) (enT tt)) [(.int .i64 0), (.int .u64 0), .nils]) m (.map (List.map enM (putK key tt l)))) (some m)] [] u.n105 ⟨rfl, (ldV gl), (hkey ▸ grp_e u.e129 hT hr hgr _), (keN hne), (ldV gl), rfl, hv0, (by simp; omega), hw, (htt ▸ tot_e u.e130 hsl hsm _), rfl, stZ, (lkS_none (ga (ga hm)) hlk), rfl, stZ, (ldV (ga gl)), (upS (ga (ga (ga hm)))), trivial⟩ : ∃ lo, Cl Γ Mo.T 105 [.map m, pA T V, .int .i64 v, rV row, .bool false] H (.tup [], _, lo))
  refine ⟨_, lo, hc, gset (x := .map (l.map enM)) (b := .map (List.map enM (putK key tt l))) ?_, ?_, fun i x hi hx => gne (Ne.symm hi) ?_⟩
  ·exact (ga (ga (ga hm)))
  ·simp <;> omega
  ·exact (ga (ga (ga hx)))
 | some t0 =>
  have hok0 : OkTot t0 := by
   rcases findS (k := key) (l := l) (i := 0) with ⟨h1, _⟩ | ⟨t', j, h1, _, _⟩
   ·rw [hlk] at h1; cases h1
   ·clear hm
    have : ∀ {l : List KT}, lkK key l = some t0 → ∃ e ∈ l, e.2 = t0 := by
     intro l
     induction l with
     | nil => intro h; cases h
     | cons e r ih =>
      intro h
      rw [lkK] at h
      split at h
      ·cases h; exact ⟨e, by simp, rfl⟩
      ·obtain ⟨x, h1, h2⟩ := ih h
       exact ⟨x, by simp [h1], h2⟩
    obtain ⟨e, h1, h2⟩ := this hlk
    exact h2 ▸ hokl e h1
  obtain ⟨ta, hta⟩ : ∃ t, addT t0 tt = t := ⟨_, rfl⟩
  rw [show addS l key tt = putK key ta l by simp [addS, nxT, hlk, hta]]
  obtain ⟨lo, hc⟩ := (clV 1 (af := a105) (r := (.tup [])) (h' := (List.set (List.set (ap (ap (ap H [(.ro (T.map tV) 1 false), (.ro (V.map vwV) 3 false)]) (enT tt)) (enT t0)) (List.length (ap H [(.ro (T.map tV) 1 false), (.ro (V.map vwV) 3 false)])) (.cells [(.int .i64 (Prod.fst ta.c)), (.int .u64 (Prod.snd ta.c)), (.ro (ta.s.map wV) 2 false)])) m (.map (List.map enM (putK key ta l))))) [.w (.box (.c (.agg [(.ro (T.map tV) 1 false), (.ro (V.map vwV) 3 false)]))) (.ptr H.length 0) (ap H [(.ro (T.map tV) 1 false), (.ro (V.map vwV) 3 false)]) none, .f (.load (some 2) (.c (.ptr H.length 0))) (.agg (pL T V)), .r 129 [(.agg (pL T V)), (.int .i64 v), (.ro (row.map vV) 3 false)] (.str key) (ap H [(.ro (T.map tV) 1 false), (.ro (V.map vwV) 3 false)]) none, .q (.bin .eql (.c (.str key)) (.c (.str []))) false, .f (.load none (.c (.ptr H.length 1))) (.ro (V.map vwV) 3 false), .p (3 = 3), .p ((0 : Int) ≤ v), .p ((v : Int) < (List.length (V.map vwV) : Int)), .e (V.map vwV) (Int.toNat v) (.agg [(.int .i64 (Prod.fst w)), (.int .i64 (Prod.fst (Prod.snd w))), (.ro (List.map iV (Prod.snd (Prod.snd w))) 1 false)]), .r 130 [(.agg [(.int .i64 (Prod.fst w)), (.int .i64 (Prod.fst (Prod.snd w))), (.ro (List.map iV (Prod.snd (Prod.snd w))) 1 false)]), (.ro (row.map vV) 3 false)] (.agg (enT tt)) (ap H [(.ro (T.map tV) 1 false), (.ro (V.map vwV) 3 false)]) none, .w (.alloc [(.int .i64 0), (.int .u64 0), .nils]) (.ptr (List.length (ap H [(.ro (T.map tV) 1 false), (.ro (V.map vwV) 3 false)])) 0) (ap (ap H [(.ro (T.map tV) 1 false), (.ro (V.map vwV) 3 false)]) [(.int .i64 0), (.int .u64 0), .nils]) none, .w (.store 3 (.c (.ptr (List.length (ap H [(.ro (T.map tV) 1 false), (.ro (V.map vwV) 3 false)])) 0)) (.c (.agg (enT tt)))) (.tup []) (ap (ap H [(.ro (T.map tV) 1 false), (.ro (V.map vwV) 3 false)]) (enT tt)) (some (List.length (ap H [(.ro (T.map tV) 1 false), (.ro (V.map vwV) 3 false)]))), .f (.lookup (.agg [(.int .i64 0), (.int .u64 0), .nils]) 2 (.c (.map m)) (.c (.str key)) true) (.tup [(.agg (enT t0)), (.bool true)]), .w (.alloc [(.int .i64 0), (.int .u64 0), .nils]) (.ptr (List.length (ap (ap H [(.ro (T.map tV) 1 false), (.ro (V.map vwV) 3 false)]) (enT tt))) 0) (ap (ap (ap H [(.ro (T.map tV) 1 false), (.ro (V.map vwV) 3 false)]) (enT tt)) [(.int .i64 0), (.int .u64 0), .nils]) none, .w (.store 3 (.c (.ptr (List.length (ap (ap H [(.ro (T.map tV) 1 false), (.ro (V.map vwV) 3 false)]) (enT tt))) 0)) (.c (.agg (enT t0)))) (.tup []) (ap (ap (ap H [(.ro (T.map tV) 1 false), (.ro (V.map vwV) 3 false)]) (enT tt)) (enT t0)) (some (List.length (ap (ap H [(.ro (T.map tV) 1 false), (.ro (V.map vwV) 3 false)]) (enT tt)))), .f (.load (some 3) (.c (.ptr (List.length (ap (ap H [(.ro (T.map tV) 1 false), (.ro (V.map vwV) 3 false)]) (enT tt))) 0))) (.agg (enT t0)), .f (.load (some 3) (.c (.ptr (List.length (ap H [(.ro (T.map tV) 1 false), (.ro (V.map vwV) 3 false)])) 0))) (.agg (enT tt)), .r 132 [(.agg (enT t0)), (.agg (enT tt))] (.agg (enT ta)) (ap (ap (ap H [(.ro (T.map tV) 1 false), (.ro (V.map vwV) 3 false)]) (enT tt)) (enT t0)) none, .w (.store 3 (.c (.ptr (List.length (ap H [(.ro (T.map tV) 1 false), (.ro (V.map vwV) 3 false)])) 0)) (.c (.agg (enT ta)))) (.tup []) (List.set (ap (ap (ap H [(.ro (T.map tV) 1 false), (.ro (V.map vwV) 3 false)]) (enT tt)) (enT t0)) (List.length (ap H [(.ro (T.map tV) 1 false), (.ro (V.map vwV) 3 false)])) (.cells [(.int .i64 (Prod.fst ta.c)), (.int .u64 (Prod.snd ta.c)), (.ro (ta.s.map wV) 2 false)])) (some (List.length (ap H [(.ro (T.map tV) 1 false), (.ro (V.map vwV) 3 false)]))), .f (.load (some 3) (.c (.ptr (List.length (ap H [(.ro (T.map tV) 1 false), (.ro (V.map vwV) 3 false)])) 0))) (.agg (enT ta)), .w (.mapUpd 2 (.c (.map m)) (.c (.str key)) (.c (.agg (enT ta)))) (.tup []) (List.set (List.set (ap (ap (ap H [(.ro (T.map tV) 1 false), (.ro (V.map vwV) 3 false)]) (enT tt)) (enT t0)) (List.length (ap H [(.ro (T.map tV) 1 false), (.ro (V.map vwV) 3 false)])) (.cells [(.int .i64 (Prod.fst ta.c)), (.int .u64 (Prod.snd ta.c)), (.ro (ta.s.map wV) 2 false)])) m (.map (List.map enM (putK key ta l)))) (some m)] [] u.n105 ⟨rfl, (ldV gl), (hkey ▸ grp_e u.e129 hT hr hgr _), (keN hne), (ldV gl), rfl, hv0, (by simp; omega), hw, (htt ▸ tot_e u.e130 hsl hsm _), rfl, stZ, (lkS_some (ok := true) (ga (ga hm)) hlk), rfl, stZ, (ldV gl), (ldV (ga gl)), (hta ▸ adt_e u.e132 hok0 hokt _), (stK (ga gl)), (ldV (gset (ga gl))), (upS (gne (by have := glt hm; simp; omega) (ga (ga (ga hm))))), trivial⟩ : ∃ lo, Cl Γ Mo.T 105 [.map m, pA T V, .int .i64 v, rV row, .bool false] H (.tup [], _, lo))
  refine ⟨_, lo, hc, gset (x := .map (l.map enM)) (b := .map (List.map enM (putK key ta l))) ?_, ?_, fun i x hi hx => gne (Ne.symm hi) ?_⟩
  ·exact (gne (by have := glt hm; simp; omega) (ga (ga (ga hm))))
  ·simp <;> omega
  ·exact (gne (by have := glt hx; simp; omega) (ga (ga (ga hx))))
end Go.Proofs.YtenpjpldjmoefaaGreat.AM.Mo
namespace Go.Proofs.YtenpjpldjmoefaaGreat
open Go.RowKit Go.Maps Go.Sort Go.Shelf Go.Proofs.YtenpjpldjmoefaaGreat.AM
theorem sortsA (m : Nat) : AnyZ.SortsIn Tryz.prog sortedA_ren Fence.wide m :=
  ⟨fun blk off cap ss W hH hblk hsz => callsIn_wide.2 (AnyM.slices_Sort_string sortA blk off cap ss W hH hblk hsz),
   fun p cap W => callsIn_wide.2 (AnyM.slices_Sort_string_none sortA p cap W)⟩
theorem keysC_ok : KeysC Tryz.prog 134 159 184 := fun mb W => (callsIn_wide (n := 5)).1 (AnyZ.keys_in keysA Fence.wide 5 trivial rfl mb W)
theorem sortedC_ok : SortedS Tryz.prog 133 159 184 9 := fun b nn D0 R w hown hmax hbytes => by
  have hbl := hown.lt
  have hseq : SeqGives Fence.wide 2 Tryz.prog 159 #[.pointer (some ⟨w.heap.size, 0, none⟩)] encStr (fun ss => ss.Perm (strKeys D0)) (Maps.size D0) (w.alloc (.cells #[.map (some b)] 184)) :=
    AnyZ.keys_gives (ρ := keysA_ren) { keysA with } Fence.wide _ trivial rfl (by omega) w.heap.size b nn D0 _ (by simp) (by simp) (by
      obtain ⟨es, clock, hb, Ft, hs, hD⟩ := hown
      exact ⟨es, clock, (Below.heap_alloc _ _ b hbl).trans hb, Ft, hs, hD⟩)
  have cS := AnyZ.sorted_in sortedA Fence.wide 5 trivial trivial trivial trivial rfl (by omega) (sortsA _) (enters_of Tryz.func158 (by kernel_rfl) rfl) 159 #[.pointer (some ⟨w.heap.size, 0, none⟩)] trivial (enters_of Tryz.func159 (by kernel_rfl) rfl) _ _ hmax hbytes _ hseq
  exact (callsIn_wide (n := 5)).1 cS
end Go.Proofs.YtenpjpldjmoefaaGreat
namespace Go.Proofs.YtenpjpldjmoefaaGreat.AM.Mo
open Go
instance : Inhabited Tot := ⟨⟨(0, 0), []⟩⟩
abbrev enG (e : KT) : List AV := [.str e.1, .int .i64 e.2.c.1, .int .u64 e.2.c.2, .ro (e.2.s.map wV) 2 false]
def keysL (l : List KT) : List (List UInt8) := (l.map Prod.fst).mergeSort fun x y => decide (x ≤ y)
def grpL (l : List KT) : List KT := (keysL l).map fun k => (k, (lkK k l).getD default)
theorem lkK_of {k : List UInt8} : ∀ {l : List KT}, k ∈ l.map Prod.fst → ∃ t, lkK k l = some t
  | [], h => by simp at h
  | e :: r, h => by
    by_cases hk : k = e.1
    · exact ⟨e.2, by simp [lkK, hk]⟩
    · rw [List.map_cons, List.mem_cons] at h
      obtain ⟨t, ht⟩ := lkK_of (h.resolve_left hk)
      exact ⟨t, by simp [lkK, hk, ht]⟩
theorem keysL_mem {l : List KT} {k : List UInt8} (h : k ∈ keysL l) : k ∈ l.map Prod.fst := (List.mergeSort_perm _ _).mem_iff.1 h
theorem v107_cl {Γ : FuncId → Option GF} (hg : Γ 107 = none) (t0 : Tot) (H : List Blk) : ∃ lo, Cl Γ Mo.T 107 [.agg (enT t0)] H (.bool true, ap H (enT t0), lo) :=
  clV 1 (af := a107) (r := (.bool true)) (h' := (ap H (enT t0))) [.w (.box (.c (.agg (enT t0)))) (.ptr H.length 0) (ap H (enT t0)) none] [] hg ⟨rfl, trivial⟩
section
variable {Γ : FuncId → Option GF}
theorem grp_two (hg : Γ 107 = none) {H0 : List Blk} {m : Nat} {l : List KT} (hl : l.length ≤ 1000000) (hm0 : H0[m]? = some (.map (l.map enM))) {t : List AV} {lo : Option Nat} (hl4 : Lv 30 [(11, .int .i64 0), (0, .map m), (1, .fn (.func 107) [] []), (4, .nils), (9, keyRow (keysL l)), (10, .int .i64 ((keysL l).length : Int))] t) :
    Wp Γ Mo.T (tl (hd (tl a106.body))) { t := t, h := H0, lo := lo } fun e s => e = .normal ∧ ∃ t' H' lo' sv, s = { t := t', h := H', lo := lo' } ∧ Lv 30 [(4, sv)] t' ∧ Gro 4 ((grpL l).map enG) H' sv ∧ H0.length ≤ H'.length := by
  have hkl : (keysL l).length = l.length := by simp [keysL]
  have hkm : ∀ k ∈ keysL l, ∃ t, lkK k l = some t := fun k hk => lkK_of (keysL_mem hk)
  have hgl : grpL l = (keysL l).map fun k => (k, (lkK k l).getD default) := rfl
  generalize keysL l = ks at hl4 hkl hkm hgl
  generalize grpL l = gs at hgl ⊢
  have hgsl : gs.length = ks.length := by rw [hgl]; simp
  refine (rangeL (X := List Blk × AV) (N := ks.length) (fun _ x => [(0, .map m), (1, .fn (.func 107) [] []), (4, x.2), (9, keyRow ks), (10, .int .i64 (ks.length : Int))]) (fun _ x => x.1)
    (fun k x => x.1[m]? = some (.map (l.map enM)) ∧ Gro 4 ((gs.take k).map enG) x.1 x.2 ∧ (∀ i, svId x.2 = some i → i ≠ m) ∧ H0.length ≤ x.1.length) (fun _ => False)
    (by omega) (by decide) (by decide) (by decide) (by decide) (by decide) (fun _ _ => rfl) (fun _ _ => rfl) ?_ (x0 := (H0, .nils)) ⟨hm0, Gro.nil _ _, (fun i h => by cases h), Nat.le_refl _⟩ hl4).mono ?_
  · rintro k ⟨H, sv⟩ t4 lo4 hkN ⟨hm, hgr, hid, hlen⟩ hlb
    simp only at hm hgr hid hlen hlb ⊢
    have hkr : keyRow ks = .ro (ks.map AV.str) 1 false := by
      unfold keyRow
      rw [if_neg]
      intro h; rw [h] at hkN; simp at hkN
    rw [hkr] at hlb ⊢
    have hk : (List.map AV.str ks)[(k : Int).toNat]? = some (.str ks[k]) := by simp [hkN]
    obtain ⟨t0, hlk⟩ := hkm _ (List.getElem_mem hkN)
    have htk : gs.take (k + 1) = gs.take k ++ [(ks[k], t0)] := by
      rw [List.take_succ_eq_append_getElem (by omega)]
      simp [hgl, hlk]
    generalize ks[k] = k0 at hk hlk htk
    obtain ⟨l7, h7⟩ := v107_cl (Γ := Γ) hg t0 H
    have hg1 : Gro 4 ((gs.take k).map enG) (ap (ap H (enT t0)) (enG (k0, t0))) sv := hgr.grow fun i _ x hx => ga (ga hx)
    obtain ⟨sv', H1, lo1, happ, hg2, hi2, hl2, hfr⟩ := hg1.app (by_ := 56) (e := enG (k0, t0)) rfl rfl (jd := (ap H (enT t0)).length) gl (by rw [List.length_map, List.length_take]; omega)
    have km := hfr m _ (fun h => hid m h rfl) (ga (ga hm))
    generalize hjd : (ap (ap H (enT t0)) (enG (k0, t0))).length = jd at hi2 hl2
    have hjd2 : jd = H.length + 2 := by rw [← hjd]; simp
    generalize (((gs.take k).map enG).length + 1) = nn at hi2
    subst hi2
    refine (pathE (nt := 30) [.p (1 = 1), .p ((0 : Int) ≤ (k : Int)), .p (((k : Int) : Int) < (List.length (List.map AV.str ks) : Int)), .e (List.map AV.str ks) (Int.toNat (k : Int)) (.str k0), .f (.lookup (.agg [(.int .i64 0), (.int .u64 0), .nils]) 2 (.c (.map m)) (.c (.str k0)) false) (.agg (enT t0)), .r 107 [(.agg (enT t0))] (.bool true) (ap H [.int .i64 (Prod.fst t0.c), .int .u64 (Prod.snd t0.c), .ro (t0.s.map wV) 2 false]) l7, .f (.lookup (.agg [(.int .i64 0), (.int .u64 0), .nils]) 2 (.c (.map m)) (.c (.str k0)) false) (.agg (enT t0)), .w (.buildSl [(.str []), (.int .i64 0), (.int .u64 0), .nils] 1 [(0, (.c (.agg [(.str k0), (.int .i64 (Prod.fst t0.c)), (.int .u64 (Prod.snd t0.c)), (.ro (t0.s.map wV) 2 false)])))]) (.sl (List.length (ap H [(.int .i64 (Prod.fst t0.c)), (.int .u64 (Prod.snd t0.c)), (.ro (t0.s.map wV) 2 false)])) 4 0 1 1 true) (ap (ap H [.int .i64 (Prod.fst t0.c), .int .u64 (Prod.snd t0.c), .ro (t0.s.map wV) 2 false]) [(.str k0), (.int .i64 (Prod.fst t0.c)), (.int .u64 (Prod.snd t0.c)), (.ro (t0.s.map wV) 2 false)]) none, .w (.append 4 56 (.c sv) (.c (.sl (List.length (ap H [(.int .i64 (Prod.fst t0.c)), (.int .u64 (Prod.snd t0.c)), (.ro (t0.s.map wV) 2 false)])) 4 0 1 1 true))) (.sl jd 4 0 nn nn false) H1 lo1] [11, 0, 1, 4, 9, 10] (e := .normal) (vals := [(.int .i64 (k : Int)), (.map m), (.fn (.func 107) [] []), (.sl jd 4 0 nn nn false), (.ro (List.map AV.str ks) 1 false), (.int .i64 (List.length ks : Int))]) (h' := H1) hlb (fun _ => by kernel_rfl) ⟨rfl, (by omega), (by simp; omega), hk, (lkS_some (ok := false) hm hlk), h7, (lkS_some (ok := false) (ga hm) hlk), rfl, happ, trivial⟩).mono ?_
    rintro e s' ⟨rfl, t5, lo5, rfl, hl5⟩
    refine .inl ⟨rfl, (H1, .sl jd 4 0 nn nn false), t5, lo5, rfl, ⟨km, ?_, (fun i hi => ?_), by simp only; omega⟩, hl5⟩
    · rw [htk, List.map_append]
      exact hg2
    · cases hi
      have := glt hm
      omega
  · rintro e s (⟨rfl, ⟨H, sv⟩, t5, lo5, rfl, ⟨hm, hgr, hid, hlen⟩, hle⟩ | ⟨rfl, h⟩)
    · simp only at hm hgr hid hlen hle
      rw [List.take_of_length_le (by omega)] at hgr
      exact ⟨rfl, t5, H, lo5, sv, rfl, hle.sub (by simp), hgr, hlen⟩
    · exact h.elim
end
noncomputable def hB106 : Code := (Tryz.f106.body).getD .skip
noncomputable def hR106 : Code := ghd (ghd (gtl hB106))
noncomputable def oK : List Oper := gops hR106
noncomputable def oK1 (i : Nat) : Oper := oK.getD i ⟨none, .assign (.tmp 0), 0, "", #[], none⟩
noncomputable def calleeO (o : Oper) : Operand := match o.op with
  | .call { callee := .value g, .. } => g
  | _ => .tmp 0
noncomputable def atsO (o : Oper) : Array TypeId := match o.op with
  | .call { argTypes := a, .. } => a
  | _ => #[]
theorem hB106_is : hB106 = .seq (ghd hB106) (.seq (.seq (.region (gid hR106) oK.toArray false) (gtl (ghd (gtl hB106)))) (gtl (gtl hB106))) := by kernel_rfl
theorem groups_ams {H : List Blk} {m : Nat} {l : List KT} (hl : l.length ≤ 1000000) (hnd : (l.map Prod.fst).Nodup) (hwf : ∀ e ∈ l, e.1.length ≤ maxLen) (hm : H[m]? = some (.map (l.map enM))) :
    ∃ sv h', AMS Tryz.prog 106 [.map m, .fn (.func 107) [] []] H sv h' ∧ Gro 4 ((grpL l).map enG) h' sv ∧ H.length ≤ h'.length := by
  have K := K5
  have hl0 : Lv 30 [(0, .map m), (1, .fn (.func 107) [] [])] ([AV.map m, .fn (.func 107) [] []] ++ List.replicate (Tryz.f106.ntmps - 2) (.tup [])) := ⟨by kernel_rfl, by simp [getX_eq]⟩
  have w0 := pathE (Γ := G5) (tbl := Mo.T) (k := hd a106.body) (h := H) (lo := none) (nt := 30) [] [0, 1, 4] (e := .normal) (vals := [(.map m), (.fn (.func 107) [] []), .nils]) (h' := H) hl0 (fun _ => by kernel_rfl) trivial
  obtain ⟨e0, s0, ⟨rfl, t1, lo1, rfl, hl1⟩, d0⟩ := DC.det K (P := Tryz.prog) (code := ghd hB106) (c := hd a106.body) (by kernel_rfl) w0
  obtain ⟨n1, t2, lo2, hr1, hl2⟩ := pathO (Γ := G5) (tbl := Mo.T) (t := t1) (lo := lo1) (nt := 30) (k := [⟨(some 7), (.mv (.t 0)), none, 0, 0⟩]) [] [0, 1, 4, 7] (vals := [(.map m), (.fn (.func 107) [] []), .nils, (.map m)]) (h' := H) [] hl1 (fun t0 => by kernel_rfl) trivial
  have hlenK : pOp evC H (.len 1 (.c (keyRow (keysL l)))) = some (.int .i64 ((keysL l).length : Int)) := by
    unfold keyRow
    split
    · rename_i h; rw [h]; rfl
    · simp [pOp, evC]
  have hl3 : Lv 30 [(0, .map m), (1, .fn (.func 107) [] []), (4, .nils), (9, keyRow (keysL l))] (put (put t2 (some 8) .dead) (some 9) (keyRow (keysL l))) := by
    have := ((hl2.sub (live' := [(0, .map m), (1, .fn (.func 107) [] []), (4, .nils)]) (by simp)).put (d := 8) (v := .dead) (by simp)).put' (d := 9) (v := keyRow (keysL l)) (by decide) (by simp)
    exact this.sub (by simp)
  have hl4 := hl3
  generalize hkv : keyRow (keysL l) = kv at hl3 hlenK
  obtain ⟨ks, hks⟩ : ∃ ks, keysL l = ks := ⟨_, rfl⟩
  rw [hks] at hlenK
  obtain ⟨n2, t3, lo3, hr2, hl5⟩ := pathO (Γ := G5) (tbl := Mo.T) (t := put (put t2 (some 8) .dead) (some 9) kv) (lo := none) (nt := 30) (k := [⟨(some 10), (.len 1 (.t 9)), none, 0, 0⟩, ⟨(some 11), (.mv (.c (.int .i64 0))), none, 0, 0⟩]) [.g (.int .i64 (List.length ks : Int))] [11, 0, 1, 4, 9, 10] (vals := [(.int .i64 0), (.map m), (.fn (.func 107) [] []), .nils, kv, (.int .i64 (List.length ks : Int))]) (h' := H) [pOp evC H (.len 1 (.c kv)) = some (.int .i64 (List.length ks : Int))] hl3 (fun t0 => by kernel_rfl) ⟨hlenK, trivial⟩
  rw [← hkv] at hr2 hl5
  rw [← hks] at hl5
  have hc1 := runOps_mono (callF_mono (Γ := G5) (tbl := Mo.T) n1 (n1 + n2) (by omega)) _ _ _ hr1
  have hc2 := runOps_mono (callF_mono (Γ := G5) (tbl := Mo.T) n2 (n1 + n2) (by omega)) _ _ _ hr2
  have hzip : l.map enM = ((l.map Prod.fst).map AV.str).zip (l.map fun e => AV.agg (enT e.2)) := by
    rw [List.map_map, List.zip_map']
    rfl
  have hmm := hm
  rw [hzip] at hmm
  have dk := DC.keysS (P := Tryz.prog) (call := callF G5 Mo.T (n1 + n2)) (callF_sound _ Mo.T K _) (fK := 134) (fS := 133) (fC := 159) (tm := 7) (d1 := 8) (d2 := 9) (i0 := gid hR106) keysC_ok sortedC_ok Tryz.underlying9 ⟨_, Tryz.func134, by kernel_rfl, by kernel_rfl⟩ ⟨_, Tryz.func133, by kernel_rfl, by kernel_rfl⟩
    (ops := oK.toArray) (oK.take 1) (oK.drop 3) (o1 := oK1 1) (o2 := oK1 2) (g1 := calleeO (oK1 1)) (g2 := calleeO (oK1 2)) (ats1 := atsO (oK1 1)) (ats2 := atsO (oK1 2)) (by kernel_rfl) ⟨by kernel_rfl, by kernel_rfl, by kernel_rfl⟩ ⟨by kernel_rfl, by kernel_rfl, by kernel_rfl⟩ (by kernel_rfl) (by kernel_rfl)
    (s := { t := t1, h := H, lo := lo1 }) (s1 := { t := t2, h := H, lo := lo2 }) (by kernel_rfl) hc1 (id := m) (ks := l.map Prod.fst) (vs := l.map fun e => AV.agg (enT e.2)) (by simp) (by have := hl2.get (7, .map m) (by simp); rw [getX_eq] at this; exact this) hmm
    hnd (fun k hk => by obtain ⟨e, he, rfl⟩ := List.mem_map.1 hk; exact hwf e he) (by simpa using hl) (by show 8 < t2.length; rw [hl2.len]; decide) (by kernel_rfl) (s2 := { t := t3, h := H, lo := lo3 }) hc2
  have w3 := grp_two (Γ := G5) (by kernel_rfl) hl hm (lo := lo3) hl5
  obtain ⟨e5, s5, ⟨rfl, t5, H5, lo5, sv, rfl, hl6, hgr, hlen⟩, d5⟩ := DC.det K (P := Tryz.prog) (code := gtl (ghd (gtl hB106))) (c := tl (hd (tl a106.body))) (by kernel_rfl) w3
  have w4 := pathE (Γ := G5) (tbl := Mo.T) (k := tl (tl a106.body)) (h := H5) (lo := lo5) (nt := 30) [] [4] (e := .ret) (vals := [sv]) (h' := H5) hl6 (fun _ => by kernel_rfl) trivial
  obtain ⟨e6, s6, ⟨rfl, t6, lo6, rfl, hl9⟩, d6⟩ := DC.det K (P := Tryz.prog) (code := gtl (gtl hB106)) (c := tl (tl a106.body)) (by kernel_rfl) w4
  refine ⟨sv, H5, ?_, hgr, hlen⟩
  refine DC.ams (fn := Tryz.f106) (body := hB106) (rs := [.t 4]) Tryz.func106 (by kernel_rfl) (by kernel_rfl) (DC.mono (Q := fun e s => e = .ret ∧ s = { t := t6, h := H5, lo := lo6 }) ?_ fun e s h => ?_)
  · rw [hB106_is]
    refine DC.seq d0 (fun s' h => ?_) (fun e s' hne h => absurd h.1 hne)
    obtain ⟨_, rfl⟩ := h
    refine DC.seq (Q := fun e s => e = .normal ∧ s = { t := t5, h := H5, lo := lo5 }) (DC.seq dk (fun s' h => ?_) (fun e s' hne h => absurd h.1 hne)) (fun s' h => ?_) (fun e s' hne h => absurd h.1 hne)
    · obtain ⟨_, rfl⟩ := h
      exact d5
    · obtain ⟨_, rfl⟩ := h
      exact d6
  · obtain ⟨rfl, rfl⟩ := h
    refine ⟨(fun i hi => by cases hi), [sv], ?_, rfl, rfl⟩
    have := hl9.get (4, sv) (by simp)
    rw [getX_eq] at this
    simp [resAll, resOf, this]
open Go
abbrev bV (rows : List (List Val)) : AV := .ro (rows.map rV) 1 false
def foldS (T : List (List Int)) (V : List Vw) (v : Int) (w : Vw) (rows : List (List Val)) : List KT := rows.foldl (fun l row => addS l (groupS T V v row) (totalS w row)) []
def viewS (T : List (List Int)) (V : List Vw) (v : Int) (rows : List (List Val)) : List KT := match V[v.toNat]? with
 | some w => grpL (foldS T V v w rows)
 | none => []
structure OkRow (T : List (List Int)) (V : List Vw) (w : Vw) (row : List Val) : Prop where
 len : row.length ≤ 1000
 fit : fitsB T w.1 row = true
 gr : OkGr T V row
 sm : ∀ s ∈ w.2.2, 0 ≤ s ∧ s < (row.length : Int)
theorem codeNum_len (n : Int) : (codeNum n).length = 9 := rfl
theorem group_len {T : List (List Int)} {V : List Vw} {v : Int} {w : Vw} {row : List Val} (h : OkRow T V w row) (hv : 0 ≤ v) (hw : V[v.toNat]? = some w) : (groupS T V v row).length = 9 := by
 obtain ⟨h1, x, h2, h3⟩ := h.gr w (List.mem_of_getElem? hw) h.fit
 simp [groupS, show ¬ v < 0 by omega, hw, h.fit, h2, codeNum]
theorem group_key {T : List (List Int)} {V : List Vw} {v : Int} {w : Vw} {row : List Val} (h : OkRow T V w row) (hv : 0 ≤ v) (hw : V[v.toNat]? = some w) : ∃ n, groupS T V v row = codeNum n := by
 obtain ⟨h1, x, h2, h3⟩ := h.gr w (List.mem_of_getElem? hw) h.fit
 exact ⟨x.n, by simp [groupS, show ¬ v < 0 by omega, hw, h.fit, h2]⟩
theorem addW_nn (a b : Int × Int) : 0 ≤ (addW a b).2 := by
 show 0 ≤ sumU a.2 b.2
 unfold sumU
 omega
theorem OkTot.add {a b : Tot} (ha : OkTot a) : OkTot (addT a b) := ⟨addW_nn _ _, fun x hx => by
 simp only [addT] at hx
 obtain ⟨i, h1, h2⟩ := List.getElem_of_mem hx
 rw [List.getElem_zipWith] at h2
 rw [← h2]
 exact addW_nn _ _, by have := ha.l; simp [addT]; omega⟩
theorem OkTot.total {w : Vw} {row : List Val} (h : w.2.2.length ≤ 1000) : OkTot (totalS w row) := ⟨wrapU_nn _, fun x hx => by
 simp only [totalS, List.mem_map] at hx
 obtain ⟨s, _, rfl⟩ := hx
 exact wrapU_nn _, by simp [totalS, h]⟩
theorem putK_keys {k : List UInt8} {t : Tot} : ∀ {l : List KT}, (putK k t l).map Prod.fst = if k ∈ l.map Prod.fst then l.map Prod.fst else l.map Prod.fst ++ [k]
 | [] => by simp [putK]
 | e :: r => by
  by_cases h : k = e.1
  ·simp [putK, h]
  ·rw [putK, if_neg h, List.map_cons, putK_keys]
   by_cases h2 : k ∈ r.map Prod.fst
   ·rw [if_pos h2, if_pos (by rw [List.map_cons]; exact List.mem_cons_of_mem _ h2), List.map_cons]
   ·rw [if_neg h2, if_neg (by rw [List.map_cons, List.mem_cons]; exact fun h3 => h3.elim h h2), List.map_cons]
    rfl
theorem putK_mem {k : List UInt8} {t : Tot} {e : KT} : ∀ {l : List KT}, e ∈ putK k t l → e = (k, t) ∨ e ∈ l
 | [], h => by simp [putK] at h; exact .inl h
 | a :: r, h => by
  rw [putK] at h
  split at h
  ·rcases List.mem_cons.1 h with h | h
   ·exact .inl h
   ·exact .inr (List.mem_cons_of_mem _ h)
  ·rcases List.mem_cons.1 h with h | h
   ·exact .inr (by rw [h]; simp)
   ·rcases putK_mem h with h | h
    ·exact .inl h
    ·exact .inr (List.mem_cons_of_mem _ h)
theorem lkK_mem {k : List UInt8} {t : Tot} : ∀ {l : List KT}, lkK k l = some t → (k, t) ∈ l
 | [], h => by cases h
 | e :: r, h => by
  rw [lkK] at h
  split at h
  ·rename_i hk; cases h; subst hk; simp
  ·exact List.mem_cons_of_mem _ (lkK_mem h)
structure OkL (l : List KT) (n : Nat) : Prop where
 tot : ∀ e ∈ l, OkTot e.2
 key : ∀ e ∈ l, ∃ n, e.1 = codeNum n
 nd : (l.map Prod.fst).Nodup
 len : l.length ≤ n
theorem OkL.add {l : List KT} {n : Nat} (h : OkL l n) {k : List UInt8} {t : Tot} (hk : ∃ n, k = codeNum n) (ht : OkTot t) : OkL (addS l k t) (n + 1) := by
 have ht2 : OkTot (nxT l k t) := by
  unfold nxT
  split
  ·rename_i t0 h0
   exact (h.tot _ (lkK_mem h0)).add
  ·exact ht
 unfold addS
 generalize nxT l k t = t2 at ht2
 have hkeys := putK_keys (k := k) (t := t2) (l := l)
 refine ⟨fun e he => ?_, fun e he => ?_, ?_, ?_⟩
 ·rcases putK_mem he with rfl | he
  ·exact ht2
  ·exact h.tot e he
 ·rcases putK_mem he with rfl | he
  ·exact hk
  ·exact h.key e he
 ·rw [hkeys]
  split
  ·exact h.nd
  ·rename_i hne
   exact List.nodup_append.2 ⟨h.nd, by simp, fun a ha b hb hab => hne (by rw [List.mem_singleton.1 hb] at hab; exact hab ▸ ha)⟩
 ·have h1 := congrArg List.length hkeys
  have h2 := h.len
  rw [List.length_map] at h1
  split at h1
  ·rw [List.length_map] at h1; omega
  ·simp at h1; omega
theorem foldS_snoc (T V v w) (rows : List (List Val)) (row : List Val) : foldS T V v w (rows ++ [row]) = addS (foldS T V v w rows) (groupS T V v row) (totalS w row) := by simp [foldS]
theorem foldS_ok {T : List (List Int)} {V : List Vw} {v : Int} {w : Vw} (hv : 0 ≤ v) (hw : V[v.toNat]? = some w) (hwl : w.2.2.length ≤ 1000) {rows : List (List Val)} (h : ∀ r ∈ rows, OkRow T V w r) (k : Nat) (hk : k ≤ rows.length) : OkL (foldS T V v w (rows.take k)) k := by
 induction k with
 | zero => exact ⟨fun e he => by simp [foldS] at he, fun e he => by simp [foldS] at he, by simp [foldS], by simp [foldS]⟩
 | succ k ih =>
  have hlt : k < rows.length := by omega
  rw [List.take_succ_eq_append_getElem hlt, foldS_snoc]
  exact (ih (by omega)).add (group_key (h _ (List.getElem_mem hlt)) hv hw) (OkTot.total hwl)
def IG (args : List AV) (h : List Blk) (r : AV) (h' : List Blk) : Prop := ∃ m l, args = [.map m, .fn (.func 107) [] []] ∧ h[m]? = some (.map (List.map enM l)) ∧ Gro 4 ((grpL l).map enG) h' r
noncomputable def gam6 : List (Nat × GF) := (106, anyG Tryz.prog 106 IG) :: gam5
theorem K6 : Known (gGet gam6) tree.get Tryz.prog := known_of (by kernel_rfl) ⟨anyG_ok ⟨_, Tryz.func106, by kernel_rfl, by kernel_rfl⟩, grp_ok, tot_ok, adt_ok, fit_ok, code_ok, int_ok, of_ok, add_ok, cmp_ok, good_ok, xSub_ok, xAdd_ok, trivial⟩ all
noncomputable abbrev G6 : FuncId → Option GF := gGet gam6
theorem U6 : UnF G6 := ⟨by kernel_rfl, by kernel_rfl, by kernel_rfl, by kernel_rfl⟩
theorem enM_inj (a b : KT) (h : enM a = enM b) : a = b := by
 obtain ⟨a1, a2⟩ := a
 obtain ⟨b1, b2⟩ := b
 simp only [Prod.mk.injEq, AV.str.injEq, AV.agg.injEq] at h
 have e : enT a2 = enT b2 := h.2
 rw [h.1, enT_inj e]
theorem groups_cl {H : List Blk} {m : Nat} {l : List KT} {n : Nat} (h : OkL l n) (hn : n ≤ 1000000) (hm : H[m]? = some (.map (l.map enM))) : ∃ r h' lo, Gro 4 ((grpL l).map enG) h' r ∧ Cl G6 Mo.T 106 [.map m, .fn (.func 107) [] []] H (r, h', lo) := by
 obtain ⟨sv, h', ha, hg, hl⟩ := groups_ams (H := H) (m := m) (l := l) (by have := h.len; omega) h.nd (fun e he => by obtain ⟨n, hn⟩ := h.key e he; rw [hn, codeNum_len]; decide) hm
 obtain ⟨r, h2, lo, ⟨m', l', h3, h4, h5⟩, hc⟩ := anyG_cl (Γ := G6) (tbl := Mo.T) (f := 106) (I := IG) (by kernel_rfl) (args := [.map m, .fn (.func 107) [] []]) (h := H) ⟨m, l, rfl, hm, hg⟩ ha hl
 simp only [List.cons.injEq, AV.map.injEq, and_true] at h3
 subst h3
 rw [hm] at h4
 simp only [Option.some.injEq, Blk.map.injEq] at h4
 rw [← map_inj enM_inj h4] at h5
 exact ⟨r, h2, lo, h5, hc⟩
theorem frz_ws {h : List Blk} {n : Nat} (s : List (Int × Int)) : AM.frz h (n + 3) (.ro (s.map wV) 2 false) = some (.ro (s.map wV) 2 false) := by
 have e : mapO (AM.frz h (n + 2)) (s.map wV) = some (s.map wV) := by
  induction s with
  | nil => rfl
  | cons a r ih =>
   rw [List.map_cons, mapO, ih]
   rfl
 show ((mapO (AM.frz h (n + 2)) (s.map wV)).bind fun es' => if (es'.all fun e => Nat.beq e.cells.length 2) then some (AV.ro es' 2 false) else none) = _
 rw [e, Option.bind_some, if_pos]
 rw [List.all_eq_true]
 intro x hx
 obtain ⟨y, _, rfl⟩ := List.mem_map.1 hx
 rfl
abbrev gsV (gs : List KT) : AV := .ro (gs.map fun e => .agg (enG e)) 4 false
structure OkVw (T : List (List Int)) (V : List Vw) (v : Int) (w : Vw) (rows : List (List Val)) : Prop where
 t : T.length ≤ 1000
 v0 : 0 ≤ v
 hw : V[v.toNat]? = some w
 wl : w.2.2.length ≤ 1000
 hr : ∀ r ∈ rows, OkRow T V w r
 len : rows.length ≤ 100000
theorem view_pure {T : List (List Int)} {V : List Vw} {v : Int} {w : Vw} {rows : List (List Val)} (ok : OkVw T V v w rows) : PureS Tryz.prog 66 [pA T V, .int .i64 v, bV rows] (gsV (viewS T V v rows)) := by
 have hvs : viewS T V v rows = grpL (foldS T V v w rows) := by simp [viewS, ok.hw]
 have key : ∃ r h' lo, Gro 4 ((grpL (foldS T V v w rows)).map enG) h' r ∧ Cl G6 Mo.T 66 [pA T V, .int .i64 v, bV rows] [] (r, h', lo) := by
  refine clE (Γ := G6) (tbl := Mo.T) (f := 66) (af := a66) (args := [pA T V, .int .i64 v, bV rows]) (h := []) (by kernel_rfl) (by kernel_rfl) (by kernel_rfl) (fun r h' => Gro 4 ((grpL (foldS T V v w rows)).map enG) h' r) ?_
  refine Wp.seq ((pathE (nt := 25) (live := [(0, (.agg [(.ro (T.map tV) 1 false), (.ro (V.map vwV) 3 false)])), (1, (.int .i64 v)), (2, (.ro (rows.map rV) 1 false))]) [.w (.box (.c (.agg [(.ro (T.map tV) 1 false), (.ro (V.map vwV) 3 false)]))) (.ptr (List.length ([] : List Blk)) 0) (ap ([] : List Blk) [(.ro (T.map tV) 1 false), (.ro (V.map vwV) 3 false)]) none] [1, 2, 3, 6] (e := .normal) (vals := [(.int .i64 v), (.ro (rows.map rV) 1 false), (.ptr (List.length ([] : List Blk)) 0), .nils]) (h' := (ap ([] : List Blk) [(.ro (T.map tV) 1 false), (.ro (V.map vwV) 3 false)])) (Lv.start (by rfl) (by simp)) (fun _ => by kernel_rfl) ⟨rfl, trivial⟩).mono ?_)
  rintro e s ⟨rfl, t1, lo1, rfl, hl1⟩
  refine Wp.seq ((pathE (nt := 25) [.w .mkmap (.map (List.length (ap ([] : List Blk) [(.ro (T.map tV) 1 false), (.ro (V.map vwV) 3 false)]))) (apm (ap ([] : List Blk) [(.ro (T.map tV) 1 false), (.ro (V.map vwV) 3 false)])) none] [1, 2, 3, 6, 7] (e := .normal) (vals := [(.int .i64 v), (.ro (rows.map rV) 1 false), (.ptr 0 0), .nils, (.map (List.length (ap ([] : List Blk) [(.ro (T.map tV) 1 false), (.ro (V.map vwV) 3 false)])))]) (h' := (apm (ap ([] : List Blk) [(.ro (T.map tV) 1 false), (.ro (V.map vwV) 3 false)]))) hl1 (fun _ => by kernel_rfl) ⟨rfl, trivial⟩).mono ?_)
  rintro e s ⟨rfl, t2, lo2, rfl, hl2⟩
  have h0 : ((apm (ap ([] : List Blk) [(.ro (List.map tV T) 1 false), (.ro (List.map vwV V) 3 false)])) : List Blk)[0]? = some (.cells (pL T V)) := rfl
  have h1 : ((apm (ap ([] : List Blk) [(.ro (List.map tV T) 1 false), (.ro (List.map vwV V) 3 false)])) : List Blk)[1]? = some (.map (List.map enM (foldS T V v w (rows.take 0)))) := rfl
  generalize ((apm (ap ([] : List Blk) [(.ro (List.map tV T) 1 false), (.ro (List.map vwV V) 3 false)])) : List Blk) = H at h0 h1 hl2 ⊢
  refine Wp.seq (Wp.seq ((pathE (nt := 25) [] [13, 1, 3, 7, 11, 12] (e := .normal) (vals := [(.int .i64 0), (.int .i64 v), (.ptr 0 0), (.map 1), (.ro (rows.map rV) 1 false), (.int .i64 ((List.length (rows.map rV)) : Int))]) (h' := H) hl2 (fun _ => by kernel_rfl) trivial).mono ?_))
  rintro e s ⟨rfl, t3, lo3, rfl, hl3⟩
  simp only [List.length_map] at hl3
  refine (rangeL (X := List Blk) (N := rows.length) (fun _ _ => [(1, .int .i64 v), (3, .ptr 0 0), (7, .map 1), (11, bV rows), (12, .int .i64 (rows.length : Int))]) (fun _ x => x)
   (fun k x => x[0]? = some (.cells (pL T V)) ∧ x[1]? = some (.map (List.map enM (foldS T V v w (rows.take k))))) (fun _ => False)
   (by have := ok.len; omega) (by decide) (by decide) (by decide) (by decide) (by decide) (fun _ _ => rfl) (fun _ _ => rfl) ?_ (x0 := H) ⟨h0, h1⟩ hl3).mono ?_
  ·rintro k H t4 lo4 hkN ⟨h0, h1⟩ hlb
   have hrow : (List.map rV rows)[(k : Int).toNat]? = some (.ro (List.map vV rows[k]) 3 false) := by simp [hkN]
   have hro := ok.hr _ (List.getElem_mem hkN)
   have htk := List.take_succ_eq_append_getElem hkN
   have hokl := foldS_ok ok.v0 ok.hw ok.wl ok.hr k (by omega)
   generalize rows[k] = row at hrow hro htk
   have hgl := group_len hro ok.v0 ok.hw
   obtain ⟨H', lo1, hc, g1, g2, g3⟩ := add_step (Γ := G6) U6 (T := T) (V := V) (v := v) (row := row) (w := w) (m := 1) (l := foldS T V v w (rows.take k)) (H := H) (by have := ok.t; omega) (by have := hro.len; omega) hro.gr ok.v0 ok.hw (fun h => by rw [h] at hgl; cases hgl) ok.wl hro.sm (OkTot.total ok.wl) hokl.tot h1
   refine (pathE (nt := 25) [.p (1 = 1), .p ((0 : Int) ≤ (k : Int)), .p (((k : Int) : Int) < (List.length (rows.map rV) : Int)), .e (rows.map rV) (Int.toNat (k : Int)) (.ro (row.map vV) 3 false), .f (.load (some 2) (.c (.ptr 0 0))) (.agg (pL T V)), .r 105 [(.map 1), (.agg (pL T V)), (.int .i64 v), (.ro (row.map vV) 3 false), (.bool false)] (.tup []) H' lo1] [13, 1, 3, 7, 11, 12] (e := .normal) (vals := [(.int .i64 (k : Int)), (.int .i64 v), (.ptr 0 0), (.map 1), (.ro (rows.map rV) 1 false), (.int .i64 (List.length rows : Int))]) (h' := H') hlb (fun _ => by kernel_rfl) ⟨rfl, (by omega), (by simp; omega), hrow, (ldV h0), hc, trivial⟩).mono ?_
   rintro e s' ⟨rfl, t5, lo5, rfl, hl5⟩
   refine .inl ⟨rfl, H', t5, lo5, rfl, ⟨g3 0 _ (by decide) h0, ?_⟩, hl5⟩
   rw [htk, foldS_snoc]
   exact g1
  ·rintro e s (⟨rfl, H, t5, lo5, rfl, ⟨h0, h1⟩, hle⟩ | ⟨rfl, h⟩)
   ·have hokl := foldS_ok ok.v0 ok.hw ok.wl ok.hr rows.length (by omega)
    rw [List.take_of_length_le (Nat.le_refl _)] at h1 hokl
    obtain ⟨r, h', lo2, hgr, hcg⟩ := groups_cl hokl (by have := ok.len; omega) h1
    refine (pathE (nt := 25) [.r 106 [(.map 1), (.fn (.func 107) [] [])] r h' lo2] [6] (e := .ret) (vals := [r]) (h' := h') hle (fun _ => by kernel_rfl) ⟨hcg, trivial⟩).mono ?_
    rintro e s ⟨rfl, t6, lo6, rfl, hl6⟩
    refine ⟨rfl, [r], ?_, hgr⟩
    have := hl6.get (6, r) (by simp)
    rw [getX_eq] at this
    show resAll _ [.t 6] = _
    simp only [resAll, resOf, this]
   ·exact h.elim
 obtain ⟨r, h', lo, hg, hcl⟩ := key
 obtain ⟨r', hf, hcv⟩ := hg.frz (n := 3) (by decide) fun e he => by
  obtain ⟨x, _, rfl⟩ := List.mem_map.1 he
  rw [mapO, mapO, mapO, mapO, frz_ws (n := 0)]
  rfl
 rw [hvs]
 refine (pureS_clf K6 (k := 4) hcl (by kernel_rfl) hf).cv ?_
 rw [List.map_map] at hcv
 exact hcv
theorem viewS_keys {T : List (List Int)} {V : List Vw} {v : Int} {w : Vw} {rows : List (List Val)} (ok : OkVw T V v w rows) : ∀ e ∈ viewS T V v rows, ∃ n, e.1 = codeNum n := by
 have hvs : viewS T V v rows = grpL (foldS T V v w rows) := by simp [viewS, ok.hw]
 have hokl := foldS_ok ok.v0 ok.hw ok.wl ok.hr rows.length (by omega)
 rw [List.take_of_length_le (Nat.le_refl _)] at hokl
 intro e he
 rw [hvs] at he
 obtain ⟨k, hk, rfl⟩ := List.mem_map.1 he
 obtain ⟨e', he', rfl⟩ := List.mem_map.1 (keysL_mem hk)
 exact hokl.key e' he'
theorem viewS_len {T : List (List Int)} {V : List Vw} {v : Int} {w : Vw} {rows : List (List Val)} (ok : OkVw T V v w rows) : (viewS T V v rows).length ≤ rows.length := by
 have hvs : viewS T V v rows = grpL (foldS T V v w rows) := by simp [viewS, ok.hw]
 have hokl := foldS_ok ok.v0 ok.hw ok.wl ok.hr rows.length (by omega)
 rw [List.take_of_length_le (Nat.le_refl _)] at hokl
 rw [hvs]
 have := hokl.len
 simp [grpL, keysL]
 omega
theorem viewS_tot {T : List (List Int)} {V : List Vw} {v : Int} {w : Vw} {rows : List (List Val)} (ok : OkVw T V v w rows) : ∀ e ∈ viewS T V v rows, e.2.s.length ≤ 1000 := by
 have hvs : viewS T V v rows = grpL (foldS T V v w rows) := by simp [viewS, ok.hw]
 have hokl := foldS_ok ok.v0 ok.hw ok.wl ok.hr rows.length (by omega)
 rw [List.take_of_length_le (Nat.le_refl _)] at hokl
 intro e he
 rw [hvs] at he
 obtain ⟨k, hk, rfl⟩ := List.mem_map.1 he
 obtain ⟨t, ht⟩ := lkK_of (keysL_mem hk)
 simp only [ht, Option.getD_some]
 exact (hokl.tot _ (lkK_mem ht)).l
abbrev VwA := List (List Int) × List Vw × Int × List (List Val)
def okVw (x : VwA) : Prop := ∃ w, OkVw x.1 x.2.1 x.2.2.1 w x.2.2.2
abbrev enVw (x : VwA) : List AV := [pA x.1 x.2.1, .int .i64 x.2.2.1, bV x.2.2.2]
abbrev fVw (x : VwA) : AV := gsV (viewS x.1 x.2.1 x.2.2.1 x.2.2.2)
noncomputable def g66 : List AV → Option AV := gOf okVw enVw fVw
theorem view_ok : GOk Tryz.prog 66 (pureG g66) := gOf_ok ⟨_, Tryz.func66, by kernel_rfl, by kernel_rfl⟩ fun x hx => by
 obtain ⟨w, h⟩ := hx
 exact view_pure h
theorem bV_inj (a b : List (List Val)) (h : bV a = bV b) : a = b := by
 simp only [AV.ro.injEq] at h
 exact map_inj rV_inj h.1
theorem clo_bV (x : List (List Val)) : clo (bV x) = true := by simp [bV, clo, cloL_map clo_rV x]
theorem clo_enG (e : KT) : clo (.agg (enG e)) = true := by simp [enG, clo, cloL, cloL_map (f := wV) (fun _ => rfl) e.2.s]
theorem clo_gsV (gs : List KT) : clo (gsV gs) = true := by simp [gsV, clo, cloL_map clo_enG gs]
theorem view_e {Γ : FuncId → Option GF} (hg : Γ 66 = some (pureG g66)) {T : List (List Int)} {V : List Vw} {v : Int} {w : Vw} {rows : List (List Val)} (ok : OkVw T V v w rows) (H : List Blk) : Cl Γ Mo.T 66 [pA T V, .int .i64 v, bV rows] H (gsV (viewS T V v rows), H, none) :=
 Cl.pure (g := g66) hg (gOf_eq (ok := okVw) (en := enVw) (f := fVw) (fun a b _ _ h => by
  obtain ⟨a1, a2, a3, a4⟩ := a
  obtain ⟨b1, b2, b3, b4⟩ := b
  simp only [List.cons.injEq] at h
  obtain ⟨h1, h2, h3, -⟩ := h
  rw [(pA_inj h1).1, (pA_inj h1).2, bV_inj _ _ h3, iV_inj _ _ h2]) (a := (T, V, v, rows)) ⟨w, ok⟩) (by simp only [cloL, clo_pA, clo_bV, Bool.and_true]; rfl) (clo_gsV _) H
end Go.Proofs.YtenpjpldjmoefaaGreat.AM.Mo

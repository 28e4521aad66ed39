/-
  'gauger's law ChainExact holds of every input: it returns true, and each argument reads behind the call as it read before.
  This text: part 11 of 14 of the proof (ChN, ChO, ChP).
-/
import Derived.Test.YtlhbfikfnecknaaMaj
set_option linter.unusedVariables false
set_option linter.unusedSimpArgs false
set_option maxRecDepth 100000
set_option maxHeartbeats 4000000
namespace Go.Proofs.Ytlhbfikfnecknaa
open Go.RowKit Go.Maps Go.Sort Go.Shelf Go.Proofs.Ytlhbfikfnecknaa.AM
theorem sortsA (m : Nat) : AnyZI.SortsIn Try.prog sortedA_ren Fence.wide m :=
  ⟨fun blk off cap ss W hH hblk hsz => callsIn_wide.2 (AnyM.slices_Sort_int sortA blk off cap ss W hH hblk hsz),
   fun p cap W => callsIn_wide.2 (AnyM.slices_Sort_int_none sortA p cap W)⟩
theorem keysC_ok : KeysC Try.prog 14 23 47 := fun mb W => (callsIn_wide (n := 5)).1 (AnyZI.keys_in keysA Fence.wide 5 trivial rfl mb W)
theorem sortedC_ok : SortedC Try.prog 13 23 47 3 := fun b nn D0 R w hown hmax hbytes => by
  have hbl := hown.lt
  have hseq : SeqGives Fence.wide 2 Try.prog 23 #[.pointer (some ⟨w.heap.size, 0, none⟩)] encZ (fun ss => ss.Perm (intKeys D0)) (Maps.size D0) (w.alloc (.cells #[.map (some b)] 47)) :=
    AnyZI.keys_gives (ρ := keysA_ren) { keysA with } Fence.wide _ trivial rfl (by omega) w.heap.size b nn D0 _ (by simp) (by simp) (by
      obtain ⟨es, clock, hb, Ft, hs, hD⟩ := hown
      exact ⟨es, clock, (Below.heap_alloc _ _ b hbl).trans hb, Ft, hs, hD⟩)
  have cS := AnyZI.sorted_in sortedA Fence.wide 5 trivial trivial trivial trivial rfl (by omega) (sortsA _) (enters_of Try.func22 (by kernel_rfl) rfl) 23 #[.pointer (some ⟨w.heap.size, 0, none⟩)] trivial (enters_of Try.func23 (by kernel_rfl) rfl) _ _ hmax hbytes _ hseq
  exact (callsIn_wide (n := 5)).1 cS
end Go.Proofs.Ytlhbfikfnecknaa
namespace Go.Proofs.Ytlhbfikfnecknaa.AM.Ch
open Go
noncomputable def hB6 : Code := (Try.f6.body).getD .skip
noncomputable def hR6 : Code := ghd (ghd (gtl (gtl (gtl hB6))))
noncomputable def oK : List Oper := gops hR6
noncomputable def o6 (i : Nat) : Oper := oK.getD i ⟨none, .assign (.tmp 0), 0, "", #[], none⟩
noncomputable def callee6 (o : Oper) : Operand := match o.op with
  | .call { callee := .value g, .. } => g
  | _ => .tmp 0
noncomputable def ats6 (o : Oper) : Array TypeId := match o.op with
  | .call { argTypes := a, .. } => a
  | _ => #[]
theorem hB6_is : hB6 = .seq (ghd hB6) (.seq (ghd (gtl hB6)) (.seq (ghd (gtl (gtl hB6))) (.seq (.seq (.region (gid hR6) oK.toArray false) (gtl (ghd (gtl (gtl (gtl hB6)))))) (gtl (gtl (gtl (gtl hB6))))))) := by kernel_rfl
theorem sorted_ids {H : List Blk} {m : Nat} {out : List LifeV} {es : List E} (h : LivesAt H m out es) (hs : SrtX out) : ((es.map E.id).mergeSort fun x y => decide (x ≤ y)) = out.map LifeV.deal ∧ (es.map E.id).length = out.length := by
  have hp : (es.map E.id).Perm (out.map LifeV.deal) := by
    refine (List.perm_ext_iff_of_nodup h.nd ?_).2 fun a => ?_
    · exact List.pairwise_map.2 (hs.imp fun hlt he => by omega)
    · rw [List.mem_map, List.mem_map]
      constructor
      · rintro ⟨e, he, rfl⟩
        obtain ⟨x, h1, h2, _⟩ := h.ex e he
        exact ⟨x, h1, h2⟩
      · rintro ⟨x, hx, rfl⟩
        obtain ⟨e, h1, h2⟩ := h.all x hx
        exact ⟨e, h1, h2⟩
  refine ⟨?_, by have := hp.length_eq; simpa using this⟩
  rw [mergeSort_of_perm_i hp]
  refine List.mergeSort_of_pairwise (List.pairwise_map.2 (hs.imp fun hlt => ?_))
  simp only [decide_eq_true_eq]
  omega
theorem livesS_from (l : List Stm) : (livesS l).length ≤ l.length ∧ ∀ x ∈ livesS l, ∃ s ∈ l, x.deal = s.r.deal := by
  have : ∀ n, n ≤ l.length → (livesS (l.take n)).length ≤ n ∧ ∀ x ∈ livesS (l.take n), ∃ s ∈ l, x.deal = s.r.deal := fun n => by
    induction n with
    | zero => exact fun _ => ⟨by simp [livesS], fun x hx => by simp [livesS] at hx⟩
    | succ n ih =>
      intro hn
      obtain ⟨h1, h2⟩ := ih (by omega)
      have hg := List.getElem?_eq_getElem (show n < l.length by omega)
      rw [List.take_add_one, hg]
      show (livesS (l.take n ++ [l[n]])).length ≤ _ ∧ ∀ x ∈ livesS (l.take n ++ [l[n]]), _
      rw [livesS_snoc]
      refine ⟨by have := stepX_len (livesS (l.take n)) l[n]; omega, fun x hx => ?_⟩
      unfold stepX at hx
      split at hx
      · rcases (mem_ins (livesS_srt _)).1 hx with ⟨h3, _⟩ | rfl
        · exact h2 x h3
        · exact ⟨l[n], List.getElem_mem _, by rw [addX_deal, curX_deal]⟩
      · exact h2 x hx
  have h := this l.length (Nat.le_refl _)
  rw [List.take_length] at h
  exact h
theorem U20 : Un2 (gGet gam0) := { U0 with g12 := rfl, g14 := rfl, g7 := rfl }
theorem lives_ams {v : AV} {l : List Stm} (hv : LIs v l) (hone : ∀ s ∈ l, One s.r) (hlen1 : l.length ≤ 1000) (hwf : ∀ s ∈ l, (Lit.int .i64 s.r.deal).wf = true) :
    ∃ h' id, AMS Try.prog 6 [v] [] (livesV (livesS l) id) h' ∧ (livesS l ≠ [] → Built 6 ((livesS l).map enX) h' id false) := by
  have K := K0
  have hl0 : Lv 67 [(0, v)] ([v] ++ List.replicate (Try.f6.ntmps - 1) (.tup [])) := ⟨by kernel_rfl, by simp [getX_eq]⟩
  have w0 := path4 (Γ := gGet gam0) (tbl := T) (k := hd a6.body) (h := nil0) (lo := none) (nt := 67) [] [0, 2] (e := .normal) (vals := [v, .nils]) (h' := nil0) [] hl0 (fun t0 => by kernel_rfl) trivial
  obtain ⟨e0, s0, ⟨rfl, t0, lo0, rfl, hl1⟩, d0⟩ := DC.det K (P := Try.prog) (code := ghd hB6) (c := hd a6.body) (by kernel_rfl) w0
  have w1 := path4 (Γ := gGet gam0) (tbl := T) (k := hd (tl a6.body)) (h := nil0) (lo := lo0) (nt := 67) [.w (.map (List.length nil0)) (apm nil0) none] [0, 2, 3] (e := .normal) (vals := [v, .nils, (.map (List.length nil0))]) (h' := (apm nil0)) [wOp evC nil0 .mkmap = some ((.map (List.length nil0)), (apm nil0), none)] hl1 (fun t0 => by kernel_rfl) ⟨rfl, trivial⟩
  obtain ⟨e1, s1, ⟨rfl, t1, lo1, rfl, hl2⟩, d1⟩ := DC.det K (P := Try.prog) (code := ghd (gtl hB6)) (c := hd (tl a6.body)) (by kernel_rfl) w1
  have w2 := lives_one U20 hv hone hlen1 (lo := lo1) hl2
  obtain ⟨e2, s2, ⟨rfl, t2, G, lo2, es, m, rfl, hl3, hL⟩, d2⟩ := DC.det K (P := Try.prog) (code := ghd (gtl (gtl hB6))) (c := hd (tl (tl a6.body))) (by kernel_rfl) w2
  have hsrt := livesS_srt l
  obtain ⟨hfl, hfm⟩ := livesS_from l
  generalize livesS l = out at hL hsrt hfl hfm
  obtain ⟨hms, hml⟩ := sorted_ids hL hsrt
  obtain ⟨n1, t3, lo3, hr1, hl4⟩ := pathO (Γ := gGet gam0) (tbl := T) (k := [⟨some 49, (.mv (.t 3)), none, 0, 0⟩]) (t := t2) (lo := lo2) (nt := 67) [] [2, 3, 49] (vals := [.nils, (.map m), (.map m)]) (h' := G) [] hl3 (fun t0 => by kernel_rfl) trivial
  have hl5 : Lv 67 [(2, .nils), (3, .map m), (51, keysV (out.map LifeV.deal))] (put (put t3 (some 50) .dead) (some 51) (keysV (out.map LifeV.deal))) := by
    have ht3 : t3.length = 67 := hl4.len
    refine ⟨by rw [put_len, put_len]; exact ht3, fun p hp => ?_⟩
    simp only [List.mem_cons, List.not_mem_nil, or_false] at hp
    rcases hp with rfl | rfl | rfl
    · show getX _ 2 = _
      rw [getX_put (by decide), getX_put (by decide)]
      exact hl4.get (2, .nils) (by simp)
    · show getX _ 3 = _
      rw [getX_put (by decide), getX_put (by decide)]
      exact hl4.get (3, .map m) (by simp)
    · exact getX_put' (by rw [put_len, ht3]; decide)
  have hlenK : pOp evC G (.len 1 (.c (keysV (out.map LifeV.deal)))) = some (.int .i64 (out.length : Int)) := by
    unfold keysV
    split
    · rename_i h
      cases out with
      | nil => rfl
      | cons a b => simp at h
    · have := len_ro (out.map LifeV.deal) (AV.int .i64) 1 false G
      rw [List.length_map] at this
      exact this
  have hl6 := hl5
  generalize hkv : keysV (out.map LifeV.deal) = kv at hl5 hlenK
  obtain ⟨n2, t4, lo4, hr2, hl7⟩ := pathO (Γ := gGet gam0) (tbl := T) (k := [⟨some 52, (.len 1 (.t 51)), none, 0, 0⟩, ⟨some 53, (.mv (.c (.int .i64 0))), none, 0, 0⟩]) (t := put (put t3 (some 50) .dead) (some 51) kv) (lo := none) (nt := 67) [.g (.int .i64 (out.length : Int))] [2, 3, 51, 52, 53] (vals := [.nils, (.map m), kv, (.int .i64 (out.length : Int)), (.int .i64 0)]) (h' := G) [pOp evC G (.len 1 (.c kv)) = some (.int .i64 (out.length : Int))] hl5 (fun t0 => by kernel_rfl) ⟨hlenK, trivial⟩
  rw [← hkv] at hr2 hl7
  have hc1 := runOps_mono (callF_mono (Γ := gGet gam0) (tbl := T) n1 (n1 + n2) (by omega)) _ _ _ hr1
  have hc2 := runOps_mono (callF_mono (Γ := gGet gam0) (tbl := T) n2 (n1 + n2) (by omega)) _ _ _ hr2
  have hzip : es.map kvE = ((es.map E.id).map (AV.int .i64)).zip (es.map fun e => AV.ptr e.p 0) := by
    rw [List.map_map, List.zip_map']
    rfl
  have hmm := hL.hm
  rw [hzip] at hmm
  have dk := DC.keys (P := Try.prog) (call := callF (gGet gam0) T (n1 + n2)) (callF_sound _ T K _) (fK := 14) (fS := 13) (fC := 23) (tm := 49) (d1 := 50) (d2 := 51) (i0 := gid hR6) keysC_ok sortedC_ok Try.underlying3 ⟨_, Try.func14, by kernel_rfl, by kernel_rfl⟩ ⟨_, Try.func13, by kernel_rfl, by kernel_rfl⟩
    (ops := oK.toArray) (oK.take 1) (oK.drop 3) (o1 := o6 1) (o2 := o6 2) (g1 := callee6 (o6 1)) (g2 := callee6 (o6 2)) (ats1 := ats6 (o6 1)) (ats2 := ats6 (o6 2)) (by kernel_rfl) ⟨by kernel_rfl, by kernel_rfl, by kernel_rfl⟩ ⟨by kernel_rfl, by kernel_rfl, by kernel_rfl⟩ (by kernel_rfl) (by kernel_rfl)
    (s := { t := t2, h := G, lo := lo2 }) (s1 := { t := t3, h := G, lo := lo3 }) (by kernel_rfl) hc1 (id := m) (ks := es.map E.id) (vs := es.map fun e => AV.ptr e.p 0) (by simp) (by have := hl4.get (49, .map m) (by simp); rw [getX_eq] at this; exact this) hmm
    hL.nd (fun k hk => by
      obtain ⟨e, he, rfl⟩ := List.mem_map.1 hk
      obtain ⟨x, h1, h2, _⟩ := hL.ex e he
      obtain ⟨s, h3, h4⟩ := hfm x h1
      rw [← h2, h4]
      exact hwf s h3) (by rw [hml]; omega) (by show 50 < t3.length; rw [hl4.len]; decide) (by kernel_rfl) (s2 := { t := t4, h := G, lo := lo4 }) (by rw [hms]; exact hc2)
  have w3 := lives_two (Γ := gGet gam0) hL hsrt (by omega) (lo := lo4) hl7
  obtain ⟨e5, s5, ⟨rfl, hlen5, id, hr5, hb5⟩, d5⟩ := DC.det K (P := Try.prog) (code := gtl (ghd (gtl (gtl (gtl hB6))))) (c := tl (hd (tl (tl (tl a6.body))))) (by kernel_rfl) w3
  obtain ⟨t5, G5, lo5⟩ := s5
  simp only at hlen5 hr5 hb5
  generalize hrr : livesV out id = r at hr5
  have hl8 : Lv 67 [(2, r)] t5 := ⟨hlen5, fun p hp => by rw [List.mem_singleton.1 hp]; exact hr5⟩
  have w4 := path4 (Γ := gGet gam0) (tbl := T) (k := tl (tl (tl (tl a6.body)))) (h := G5) (lo := lo5) (nt := 67) [] [2] (e := .ret) (vals := [r]) (h' := G5) [] hl8 (fun t0 => by kernel_rfl) trivial
  obtain ⟨e6, s6, ⟨rfl, t6, lo6, rfl, hl9⟩, d6⟩ := DC.det K (P := Try.prog) (code := gtl (gtl (gtl (gtl hB6)))) (c := tl (tl (tl (tl a6.body)))) (by kernel_rfl) w4
  refine ⟨G5, id, ?_, hb5⟩
  rw [hrr]
  refine DC.ams (fn := Try.f6) (body := hB6) (rs := [.t 2]) Try.func6 (by kernel_rfl) (by kernel_rfl) (DC.mono (Q := fun e s => e = .ret ∧ s = { t := t6, h := G5, lo := lo6 }) ?_ fun e s h => ?_)
  · rw [hB6_is]
    refine DC.seq d0 (fun s' h => ?_) (fun e s' hne h => absurd h.1 hne)
    obtain ⟨_, rfl⟩ := h
    refine DC.seq d1 (fun s' h => ?_) (fun e s' hne h => absurd h.1 hne)
    obtain ⟨_, rfl⟩ := h
    refine DC.seq d2 (fun s' h => ?_) (fun e s' hne h => absurd h.1 hne)
    obtain ⟨_, rfl⟩ := h
    refine DC.seq (Q := fun e s => e = .normal ∧ s = { t := t5, h := G5, lo := lo5 }) (DC.seq dk (fun s' h => ?_) (fun e s' hne h => absurd h.1 hne)) (fun s' h => ?_) (fun e s' hne h => absurd h.1 hne)
    · obtain ⟨_, rfl⟩ := h
      exact d5
    · obtain ⟨_, rfl⟩ := h
      exact d6
  · obtain ⟨rfl, rfl⟩ := h
    refine ⟨(fun i hi => by cases hi), [r], ?_, rfl, rfl⟩
    have := hl9.get (2, r) (by simp)
    rw [getX_eq] at this
    simp [resAll, resOf, this]
open Go
theorem flat_sub {st : Nat} : ∀ {es : List (List AV)} {a n : Nat}, (∀ e ∈ es, e.length = st) → a + n ≤ es.length → (es.flatten.drop (a * st)).take (n * st) = ((es.drop a).take n).flatten
 | es, 0, 0, _, _ => by simp
 | [], 0, n + 1, _, h => by simp at h
 | e :: es, 0, n + 1, hl, h => by
  have he := hl e (by simp)
  have ih := flat_sub (es := es) (a := 0) (n := n) (fun x hx => hl x (by simp [hx])) (by simp at h; omega)
  simp only [Nat.zero_mul, List.drop_zero] at ih ⊢
  rw [List.flatten_cons, Nat.succ_mul, List.take_succ_cons, List.flatten_cons, ← ih, List.take_append, List.take_of_length_le (by omega)]
  congr 2
  omega
 | [], a + 1, n, _, h => by simp at h
 | e :: es, a + 1, n, hl, h => by
  have he := hl e (by simp)
  have ih := flat_sub (es := es) (a := a) (n := n) (fun x hx => hl x (by simp [hx])) (by simp at h; omega)
  rw [List.flatten_cons, Nat.succ_mul, List.drop_succ_cons, ← ih, List.drop_append, List.drop_of_length_le (by omega), List.nil_append]
  congr 2
  omega
theorem el_sub {st : Nat} {es : List (List AV)} {H : List Blk} {id : Nat} {ex x : Bool} {a n c : Nat} (hb : Built st es H id ex) (h : a + n ≤ es.length) : elems H st (.sl id st (a * st) n c x) = some ((es.drop a).take n).flatten := by
 simp only [elems, if_pos]
 split
 ·rename_i h0
  subst h0
  rw [List.take_zero]
  rfl
 ·have hfl := flatn_len hb.len
  have := Nat.mul_le_mul_right st h
  rw [Nat.add_mul] at this
  simp only [rdCells, hb.blk]
  rw [if_pos (by omega), flat_sub hb.len h]
theorem app_any {st by_ : Nat} {es es2 : List (List AV)} {H : List Blk} {id : Nat} {ex : Bool} {src : AV} (hb : Built st es H id ex) (hs : elems H st src = some es2.flatten) (hn : lenOf src = some es2.length) (hl2 : ∀ e ∈ es2, e.length = st) (h1 : ∀ e ∈ es2, e.all AV.one = true) (hle : (es.length + es2.length) * by_ ≤ 140737488355328) :
  ∃ H' id' ex' lo, wOp evC H (.append st by_ (.c (bSl st es id ex)) (.c src)) = some (bSl st (es ++ es2) id' ex', H', lo) ∧ Built st (es ++ es2) H' id' ex' ∧ (∀ (i : Nat) (x : Blk), i ≠ id → H[i]? = some x → H'[i]? = some x) ∧ H.length ≤ H'.length ∧ (id' = id ∨ H.length ≤ id') := by
 by_cases h0 : es2 = []
 ·subst h0
  rw [List.append_nil]
  refine ⟨H, id, ex, none, ?_, hb, fun i x _ h => h, Nat.le_refl _, .inl rfl⟩
  simp only [wOp, evC, hn, hs, List.length_nil, if_pos, bSl]
 ·have hp : 0 < es2.length := List.length_pos_iff.2 h0
  have hs1 : elems H st (bSl st es id ex) = some es.flatten := by
   have := el_sub (x := ex) (c := es.length) hb (a := 0) (n := es.length) (by omega)
   rw [Nat.zero_mul, List.drop_zero, List.take_length] at this
   exact this
  have hall : es2.flatten.all AV.one = true := by
   rw [List.all_eq_true]
   intro v hv
   obtain ⟨e, he, hve⟩ := List.mem_flatten.1 hv
   exact List.all_eq_true.1 (h1 e he) v hve
  refine ⟨appH H id ex (es ++ es2).flatten, H.length, false, appL id ex, ?_, ⟨?_, (fun h => by cases h), (fun _ h => h0 (List.append_eq_nil_iff.1 h).2), ?_, ?_⟩, fun i x hi hx => ?_, ?_, .inr (Nat.le_refl _)⟩
  ·simp only [wOp, evC, hn, hs]
   rw [if_neg (by omega)]
   simp only [bSl]
   rw [if_pos (by simp [hle, hall]), if_neg (by omega)]
   rw [show elems H st (.sl id st 0 es.length es.length ex) = some es.flatten from hs1]
   simp only
   have hf : es.flatten ++ es2.flatten = (es ++ es2).flatten := by simp
   cases ex with
   | true =>
    simp only [if_true, appH, appL, hf, List.length_append]
   | false =>
    have hr : hasRow H id 0 = true := by simp [hasRow, hb.blk]
    simp only [Bool.false_eq_true, if_false, hr, if_true, appH, appL, hf, List.length_append]
  ·have : (if ex then H else H.set id .gone).length = H.length := by cases ex <;> simp
   unfold appH
   rw [List.getElem?_append_right (by omega), this]
   simp
  ·intro e he
   rcases List.mem_append.1 he with h | h
   ·exact hb.len e h
   ·exact hl2 e h
  ·intro e he
   rcases List.mem_append.1 he with h | h
   ·exact hb.one e h
   ·exact h1 e h
  ·rw [appH_get (glt hx) hi]; exact hx
  ·rw [appH_len]; omega
theorem flat_set {st : Nat} : ∀ {es : List (List AV)} {i k : Nat} {e : List AV} {v : AV}, (∀ e ∈ es, e.length = st) → es[i]? = some e → k < st → splice es.flatten (i * st + k) [v] = (es.set i (splice e k [v])).flatten
 | [], i, k, e, v, _, h, _ => by simp at h
 | x :: es, 0, k, e, v, hl, h, hk => by
  cases h
  have hx := hl x (by simp)
  rw [List.set_cons_zero, List.flatten_cons, List.flatten_cons, Nat.zero_mul, Nat.zero_add]
  unfold splice
  rw [List.take_append_of_le_length (by omega), List.drop_append_of_le_length (by simp; omega)]
  simp
 | x :: es, i + 1, k, e, v, hl, h, hk => by
  have hx := hl x (by simp)
  have ih := flat_set (v := v) (fun y hy => hl y (by simp [hy])) (show es[i]? = some e by simpa using h) hk
  rw [List.set_cons_succ, List.flatten_cons, List.flatten_cons, ← ih]
  unfold splice
  rw [show (i + 1) * st + k = st + (i * st + k) by rw [Nat.succ_mul]; omega, List.take_append, List.take_of_length_le (by omega), List.drop_append, List.drop_of_length_le (by simp; omega)]
  simp only [List.nil_append, List.append_assoc, List.length_cons, List.length_nil]
  congr 3
  ·omega
  ·congr 2
   omega
theorem stX {es : List LifeV} {H : List Blk} {id at_ k : Nat} {ex : Bool} {x0 x1 : LifeV} {v : AV} (hb : Built 6 (es.map enX) H id ex) (hx : es[at_]? = some x0) (hk : k < 6) (he : splice (enX x0) k [v] = enX x1) (h1 : v.one = true) (hc : v.cells = [v]) :
  ∃ H', wOp evC H (.store 1 (.c (.ptr id ((0 + (at_ : Int).toNat * 6) + k))) (.c v)) = some (.tup [], H', some id) ∧ Built 6 ((es.set at_ x1).map enX) H' id ex ∧ (∀ (i : Nat) (x : Blk), i ≠ id → H[i]? = some x → H'[i]? = some x) ∧ H.length ≤ H'.length := by
 have hxe : (es.map enX)[at_]? = some (enX x0) := by rw [List.getElem?_map, hx]; rfl
 have hal := (List.getElem?_eq_some_iff.1 hxe).1
 have hfl := flatn_len hb.len
 have hm : (at_ + 1) * 6 ≤ (es.map enX).length * 6 := Nat.mul_le_mul_right 6 hal
 refine ⟨H.set id (.cells ((es.set at_ x1).map enX).flatten), ?_, ⟨gset hb.blk, fun h => ?_, fun h => ?_, fun e he => ?_, fun e he => ?_⟩, fun i x hi hx => gne (Ne.symm hi) hx, by simp⟩
 ·rw [stC hb.blk (by rw [hc]; rfl) (by rw [Int.toNat_natCast, hfl]; exact Nat.ble_eq_true_of_le (by omega)) (by rw [hc]; simp [h1])]
  rw [hc, Int.toNat_natCast, Nat.zero_add, flat_set hb.len hxe hk, he, List.map_set]
 ·have := hb.nil h
  have h0 : es = [] := List.map_eq_nil_iff.1 this
  subst h0; simp at hx
 ·intro h0
  have := List.map_eq_nil_iff.1 h0
  rw [List.set_eq_nil_iff] at this
  subst this; simp at hx
 ·obtain ⟨x, _, rfl⟩ := List.mem_map.1 he; rfl
 ·obtain ⟨x, _, rfl⟩ := List.mem_map.1 he; rfl
theorem slcTo {H : List Blk} {id n a : Nat} {ex : Bool} (h : a ≤ n) : pOp evC H (.slc 6 (.c (.sl id 6 0 n n ex)) none (some (.c (.int .i64 (a : Int)))) none) = some (.sl id 6 0 a n ex) := by
 simp [pOp, evC, optNat, asNat, h]
theorem slcFrom {H : List Blk} {id n a : Nat} {ex : Bool} (h : a ≤ n) : pOp evC H (.slc 6 (.c (.sl id 6 0 n n ex)) (some (.c (.int .i64 (a : Int)))) none none) = some (.sl id 6 (a * 6) (n - a) (n - a) ex) := by
 simp [pOp, evC, optNat, asNat, h]
theorem ins_new : ∀ {out : List LifeV} {y : LifeV} {a : Nat}, a ≤ out.length → (∀ x ∈ out.take a, x.deal < y.deal) → (∀ x, out[a]? = some x → y.deal < x.deal) → ins out y = out.take a ++ y :: out.drop a
 | [], y, a, h, _, _ => by
  have : a = 0 := by simpa using h
  subst this; rfl
 | x :: r, y, 0, _, _, h2 => by
  have := h2 x rfl
  rw [ins, if_neg (by omega), if_neg (by omega)]
  rfl
 | x :: r, y, a + 1, h, h1, h2 => by
  have hx := h1 x (by simp)
  rw [ins, if_pos hx, ins_new (out := r) (a := a) (by simpa using h) (fun z hz => h1 z (by simp [hz])) (fun z hz => h2 z (by simpa using hz))]
  rfl
theorem ins_old : ∀ {out : List LifeV} {y x : LifeV} {a : Nat}, (∀ x ∈ out.take a, x.deal < y.deal) → out[a]? = some x → x.deal = y.deal → ins out y = out.set a y
 | [], y, x, a, _, h, _ => by simp at h
 | z :: r, y, x, 0, _, h, he => by
  cases h
  rw [ins, if_neg (by omega), if_pos he]
  rfl
 | z :: r, y, x, a + 1, h1, h, he => by
  have hx := h1 z (by simp)
  rw [ins, if_pos hx, ins_old (out := r) (a := a) (fun w hw => h1 w (by simp [hw])) (by simpa using h) he]
  rfl
section
variable {Γ : FuncId → Option GF} (u : Un2 Γ)
include u
omit u in
theorem rl_switch {G : List Blk} {l : List Stm} {idL idS : Nat} {exL exS : Bool} {out : List LifeV} {id at_ B i : Nat} {ex : Bool} {s : Stm} {x0 : LifeV} (hB : Built 6 (out.map enX) G id ex) (hx0 : out[at_]? = some x0) (fB : G[B]? = some (.cells (enR s.r))) (hBne : B ≠ id) (ht : Two G idL idS l) (hS : idS ≠ id) (hx : l[i]? = some s) (hilen : i < l.length) {t : List AV} {lo : Option Nat} (hl : Lv 120 [(0, (.sl idL 11 0 l.length l.length exL)), (1, (.sl idS 1 0 l.length l.length exS)), (5, (.sl id 6 0 out.length out.length ex)), (6, (.int .i64 (i : Int))), (7, (.ptr B 0)), (10, (.ptr id (0 + (Int.toNat (at_ : Int)) * 6)))] t) :
  Wp Γ T (tl (tl (tl (tl (tl (tl (blk (AM.hd (tl (lp (blk (tl (AM.hd (tl (tl a7.body))))))))))))))) { t := t, h := G, lo := lo } fun e s' => e = .normal ∧ ∃ t' G' lo', s' = { t := t', h := G', lo := lo' } ∧ Lv 120 [(0, (.sl idL 11 0 l.length l.length exL)), (1, (.sl idS 1 0 l.length l.length exS)), (5, (.sl id 6 0 out.length out.length ex)), (6, (.int .i64 (i : Int)))] t' ∧ Built 6 ((out.set at_ (addX x0 s)).map enX) G' id ex ∧ (∀ (j : Nat) (x : Blk), j ≠ id → G[j]? = some x → G'[j]? = some x) ∧ G.length ≤ G'.length := by
 have hgetS : (l.map fun s => [AV.int .i64 s.st])[i]? = some [.int .i64 s.st] := by rw [List.getElem?_map, hx]; rfl
 have fS := ht.S
 have hl2 := hl
 obtain ⟨G2, hst1, hB2, hf2, hle2⟩ := stX (x1 := { x0 with last := s.st }) (k := 2) (v := .int .i64 s.st) hB hx0 (by decide) rfl rfl rfl
 generalize hlo1 : some id = lo1 at hst1
 refine Wp.seq ((path4 (nt := 120) [.f (.int .i64 s.st), .w (.tup []) G2 lo1] [0, 1, 5, 6, 7, 10] (e := .normal) (vals := [(.sl idL 11 0 l.length l.length exL), (.sl idS 1 0 l.length l.length exS), (.sl id 6 0 out.length out.length ex), (.int .i64 (i : Int)), (.ptr B 0), (.ptr id (0 + (Int.toNat (at_ : Int)) * 6))]) (h' := G2) [1 = 1, 0 ≤ (i : Int), (i : Int) < ((l.length : Nat) : Int), pOp evC G (.load none (.c (.ptr idS (0 + (Int.toNat (i : Int)) * 1)))) = some (.int .i64 s.st), wOp evC G (.store 1 (.c (.ptr id ((0 + (Int.toNat (at_ : Int)) * 6) + 2))) (.c (.int .i64 s.st))) = some ((.tup []), G2, lo1)] hl2 (fun t0 => by kernel_rfl) ⟨rfl, (by omega), (by omega), (ldEl0 fS hgetS (by kernel_rfl)), hst1, trivial⟩).mono ?_)
 rintro e' s' ⟨rfl, t1, lo2, rfl, hl3⟩
 have fB2 := hf2 _ _ hBne fB
 have hat := (List.getElem?_eq_some_iff.1 hx0).1
 have hx1 : (out.set at_ { x0 with last := s.st })[at_]? = some { x0 with last := s.st } := by rw [List.getElem?_set_self hat]
 have hset : ∀ y, (out.set at_ { x0 with last := s.st }).set at_ y = out.set at_ y := fun y => by rw [List.set_set]
 have hlen1 : (out.set at_ { x0 with last := s.st }).length = out.length := by simp
 clear hl hl2 fS hst1 fB
 generalize hx1e : ({ x0 with last := s.st } : LifeV) = x1 at hB2 hx1 hset hlen1
 have fB := fB2
 generalize G2 = G at hl3 hB2 fB hf2 hle2
 have hl := hl3
 refine Wp.seq ((path4 (nt := 120) [.f (.int .i64 s.r.k)] [0, 1, 5, 6, 7, 10, 90] (e := .normal) (vals := [(.sl idL 11 0 l.length l.length exL), (.sl idS 1 0 l.length l.length exS), (.sl id 6 0 out.length out.length ex), (.int .i64 (i : Int)), (.ptr B 0), (.ptr id (0 + (Int.toNat (at_ : Int)) * 6)), (.int .i64 s.r.k)]) (h' := G) [pOp evC G (.load none (.c (.ptr B 0))) = some (.int .i64 s.r.k)] hl (fun t0 => by kernel_rfl) ⟨(ldC fB (by kernel_rfl)), trivial⟩).mono ?_)
 rintro e' s' ⟨rfl, t2, lo3, rfl, hl4⟩
 have hl := hl4
 have fO : (∀ e ∈ ((out.set at_ x1).map enX), e.length = 6) ∧ G[id]? = some (.cells ((out.set at_ x1).map enX).flatten) := ⟨hB2.len, hB2.blk⟩
 have hg1 : ((out.set at_ x1).map enX)[at_]? = some (enX x1) := by rw [List.getElem?_map, hx1]; rfl
 by_cases h1 : s.r.k = 1
 ·obtain ⟨G2, hst2, hB3, hf3, hle3⟩ := stX (x1 := { x1 with done := IntKind.i64.wrap (x1.done + 1) }) (k := 3) (v := .int .i64 (IntKind.i64.wrap (x1.done + 1))) hB2 hx1 (by decide) rfl rfl rfl
  generalize some id = lo1 at hst2
  refine (path4 (nt := 120) [.b true, .f (.int .i64 x1.done), .w (.tup []) G2 lo1] [0, 1, 5, 6] (e := .normal) (vals := [(.sl idL 11 0 l.length l.length exL), (.sl idS 1 0 l.length l.length exS), (.sl id 6 0 out.length out.length ex), (.int .i64 (i : Int))]) (h' := G2) [cB (s.r.k == 1) true, pOp evC G (.load none (.c (.ptr id ((0 + (Int.toNat (at_ : Int)) * 6) + 3)))) = some (.int .i64 x1.done), wOp evC G (.store 1 (.c (.ptr id ((0 + (Int.toNat (at_ : Int)) * 6) + 3))) (.c (.int .i64 (IntKind.i64.wrap (x1.done + 1))))) = some ((.tup []), G2, lo1)] hl (fun t0 => by kernel_rfl) ⟨(cE h1), (ldEl fO hg1 (by kernel_rfl)), hst2, trivial⟩).mono ?_
  rintro e' s' ⟨rfl, t3, lo4, rfl, hl5⟩
  refine ⟨rfl, t3, _, lo4, rfl, hl5, ?_, fun j x hj hx => hf3 j x hj (hf2 j x hj hx), Nat.le_trans hle2 hle3⟩
  rw [hset] at hB3
  rw [show addX x0 s = { x1 with done := IntKind.i64.wrap (x1.done + 1) } by rw [← hx1e]; unfold addX; rw [if_pos h1]]
  exact hB3
 by_cases h2 : s.r.k = 2
 ·obtain ⟨G2, hst2, hB3, hf3, hle3⟩ := stX (x1 := { x1 with undone := IntKind.i64.wrap (x1.undone + 1) }) (k := 4) (v := .int .i64 (IntKind.i64.wrap (x1.undone + 1))) hB2 hx1 (by decide) rfl rfl rfl
  generalize some id = lo1 at hst2
  refine (path4 (nt := 120) [.b false, .b true, .f (.int .i64 x1.undone), .w (.tup []) G2 lo1] [0, 1, 5, 6] (e := .normal) (vals := [(.sl idL 11 0 l.length l.length exL), (.sl idS 1 0 l.length l.length exS), (.sl id 6 0 out.length out.length ex), (.int .i64 (i : Int))]) (h' := G2) [cB (s.r.k == 1) false, cB (s.r.k == 2) true, pOp evC G (.load none (.c (.ptr id ((0 + (Int.toNat (at_ : Int)) * 6) + 4)))) = some (.int .i64 x1.undone), wOp evC G (.store 1 (.c (.ptr id ((0 + (Int.toNat (at_ : Int)) * 6) + 4))) (.c (.int .i64 (IntKind.i64.wrap (x1.undone + 1))))) = some ((.tup []), G2, lo1)] hl (fun t0 => by kernel_rfl) ⟨(cN h1), (cE h2), (ldEl fO hg1 (by kernel_rfl)), hst2, trivial⟩).mono ?_
  rintro e' s' ⟨rfl, t3, lo4, rfl, hl5⟩
  refine ⟨rfl, t3, _, lo4, rfl, hl5, ?_, fun j x hj hx => hf3 j x hj (hf2 j x hj hx), Nat.le_trans hle2 hle3⟩
  rw [hset] at hB3
  rw [show addX x0 s = { x1 with undone := IntKind.i64.wrap (x1.undone + 1) } by rw [← hx1e]; unfold addX; rw [if_neg h1, if_pos h2]]
  exact hB3
 have hfin : x1.fin = x0.fin := by rw [← hx1e]
 by_cases h3 : x1.fin = 0
 ·obtain ⟨G2, hst2, hB3, hf3, hle3⟩ := stX (x1 := { x1 with fin := s.r.k }) (k := 5) (v := .int .i64 s.r.k) hB2 hx1 (by decide) rfl rfl rfl
  generalize some id = lo1 at hst2
  refine (path4 (nt := 120) [.b false, .b false, .f (.int .i64 x1.fin), .b true, .f (.int .i64 s.r.k), .w (.tup []) G2 lo1] [0, 1, 5, 6] (e := .normal) (vals := [(.sl idL 11 0 l.length l.length exL), (.sl idS 1 0 l.length l.length exS), (.sl id 6 0 out.length out.length ex), (.int .i64 (i : Int))]) (h' := G2) [cB (s.r.k == 1) false, cB (s.r.k == 2) false, pOp evC G (.load none (.c (.ptr id ((0 + (Int.toNat (at_ : Int)) * 6) + 5)))) = some (.int .i64 x1.fin), cB (x1.fin == 0) true, pOp evC G (.load none (.c (.ptr B 0))) = some (.int .i64 s.r.k), wOp evC G (.store 1 (.c (.ptr id ((0 + (Int.toNat (at_ : Int)) * 6) + 5))) (.c (.int .i64 s.r.k))) = some ((.tup []), G2, lo1)] hl (fun t0 => by kernel_rfl) ⟨(cN h1), (cN h2), (ldEl fO hg1 (by kernel_rfl)), (cE h3), (ldC fB (by kernel_rfl)), hst2, trivial⟩).mono ?_
  rintro e' s' ⟨rfl, t3, lo4, rfl, hl5⟩
  refine ⟨rfl, t3, _, lo4, rfl, hl5, ?_, fun j x hj hx => hf3 j x hj (hf2 j x hj hx), Nat.le_trans hle2 hle3⟩
  rw [hset] at hB3
  rw [show addX x0 s = { x1 with fin := s.r.k } by rw [← hx1e]; unfold addX; rw [if_neg h1, if_neg h2, if_pos (by omega)]]
  exact hB3
 ·refine (path4 (nt := 120) [.b false, .b false, .f (.int .i64 x1.fin), .b false] [0, 1, 5, 6] (e := .normal) (vals := [(.sl idL 11 0 l.length l.length exL), (.sl idS 1 0 l.length l.length exS), (.sl id 6 0 out.length out.length ex), (.int .i64 (i : Int))]) (h' := G) [cB (s.r.k == 1) false, cB (s.r.k == 2) false, pOp evC G (.load none (.c (.ptr id ((0 + (Int.toNat (at_ : Int)) * 6) + 5)))) = some (.int .i64 x1.fin), cB (x1.fin == 0) false] hl (fun t0 => by kernel_rfl) ⟨(cN h1), (cN h2), (ldEl fO hg1 (by kernel_rfl)), (cN h3), trivial⟩).mono ?_
  rintro e' s' ⟨rfl, t3, lo4, rfl, hl5⟩
  refine ⟨rfl, t3, _, lo4, rfl, hl5, ?_, hf2, hle2⟩
  rw [show addX x0 s = x1 by rw [← hx1e]; unfold addX; rw [if_neg h1, if_neg h2, if_neg (by omega)]]
  exact hB2
theorem rlives_cl {H : List Blk} {idL idS : Nat} {l : List Stm} {exL exS : Bool} (ht : Two H idL idS l) (hone : ∀ s ∈ l, One s.r) (hl1000 : l.length ≤ 1000) :
  ∃ H' lo id ex, Cl Γ T 7 [(.sl idL 11 0 l.length l.length exL), (.sl idS 1 0 l.length l.length exS)] H (.sl id 6 0 (livesS l).length (livesS l).length ex, H', lo) ∧ Built 6 ((livesS l).map enX) H' id ex ∧ Up H H' := by
 have hb := clB (Γ := Γ) (tbl := T) (f := 7) (af := a7) (args := [(.sl idL 11 0 l.length l.length exL), (.sl idS 1 0 l.length l.length exS)]) (h := H) u.g7 (by kernel_rfl) (by kernel_rfl) (fun r h' => ∃ id ex, r = .sl id 6 0 (livesS l).length (livesS l).length ex ∧ Built 6 ((livesS l).map enX) h' id ex ∧ Up H h') ?_
 ·obtain ⟨r, h', lo, ⟨id, ex, rfl, h1, h3⟩, h2⟩ := hb
  exact ⟨h', lo, id, ex, h2, h1, h3⟩
 refine Wp.seq ((path4 (nt := 120) (live := [(0, (.sl idL 11 0 l.length l.length exL)), (1, (.sl idS 1 0 l.length l.length exS))]) [] [0, 1] (e := .normal) (vals := [(.sl idL 11 0 l.length l.length exL), (.sl idS 1 0 l.length l.length exS)]) (h' := H) [] ⟨by simp [a7], by simp [getX_eq]⟩ (fun t0 => by kernel_rfl) trivial).mono ?_)
 rintro e s ⟨rfl, t0, lo0, rfl, hl1⟩
 refine Wp.seq ((path4 (nt := 120) [.w (.sl (List.length H) 6 0 0 0 true) (ap H []) none] [0, 1, 5] (e := .normal) (vals := [(.sl idL 11 0 l.length l.length exL), (.sl idS 1 0 l.length l.length exS), (.sl (List.length H) 6 0 0 0 true)]) (h' := (ap H [])) [wOp evC H (.buildSl [(.int .i64 0), (.int .i64 0), (.int .i64 0), (.int .i64 0), (.int .i64 0), (.int .i64 0)] 0 []) = some ((.sl (List.length H) 6 0 0 0 true), (ap H []), none)] hl1 (fun t0 => by kernel_rfl) ⟨rfl, trivial⟩).mono ?_)
 rintro e s ⟨rfl, t1, lo1, rfl, hl2⟩
 refine Wp.seq (Wp.seq ((path4 (nt := 120) [] [0, 1, 5, 6] (e := .normal) (vals := [(.sl idL 11 0 l.length l.length exL), (.sl idS 1 0 l.length l.length exS), (.sl (List.length H) 6 0 0 0 true), (.int .i64 0)]) (h' := (ap H [])) [] hl2 (fun t0 => by kernel_rfl) trivial).mono ?_))
 rintro e s ⟨rfl, t2, lo2, rfl, hl3⟩
 refine Wp.block (Wp.mono (Wp.loop (Q := fun e s => e = .exit 0 ∧ ∃ t G lo id ex, s = { t := t, h := G, lo := lo } ∧ Lv 120 [(5, .sl id 6 0 (livesS l).length (livesS l).length ex)] t ∧ Built 6 ((livesS l).map enX) G id ex ∧ Up H G) (fun k s => ∃ (i : Nat) (t : List AV) (G : List Blk) (lo : Option Nat) (id : Nat) (ex : Bool), s = { t := t, h := G, lo := lo } ∧ k = l.length - i ∧ i ≤ l.length ∧ Lv 120 [(0, (.sl idL 11 0 l.length l.length exL)), (1, (.sl idS 1 0 l.length l.length exS)), (5, .sl id 6 0 (livesS (l.take i)).length (livesS (l.take i)).length ex), (6, .int .i64 (i : Int))] t ∧ Built 6 ((livesS (l.take i)).map enX) G id ex ∧ Up H G ∧ H.length ≤ id) ?_ l.length _ ⟨0, t2, _, lo2, H.length, true, rfl, rfl, by omega, by rw [List.take_zero]; exact hl3, by rw [List.take_zero]; exact Built.new 6 H, Up.app _ _, Nat.le_refl _⟩) fun e s h => ?_)
 ·clear hl3 hl2 hl1
  rintro k s ⟨i, t, G, lo, id, ex, rfl, rfl, hile, hl, hB, hU, hid⟩
  obtain ⟨hfl, _⟩ := livesS_from (l.take i)
  have hsrt := livesS_srt (l.take i)
  by_cases hlt : i < l.length
  case neg =>
   have hi : ¬ (i : Int) < (l.length : Int) := by omega
   rw [List.take_of_length_le (by omega)] at hl hB
   generalize hout : livesS l = out at hl hB
   refine (path4 (nt := 120) [.b false] [5] (e := (.exit 0)) (vals := [(.sl id 6 0 out.length out.length ex)]) (h' := G) [cB (decide ((i : Int) < (l.length : Int))) false] hl (fun t0 => by kernel_rfl) ⟨(cF hi), trivial⟩).mono ?_
   rintro e s ⟨rfl, t4, lo4, rfl, hl4⟩
   exact ⟨rfl, t4, _, lo4, id, ex, rfl, hl4, hB, hU⟩
  have hi : (i : Int) < (l.length : Int) := by omega
  have hx := List.getElem?_eq_getElem hlt
  have hm := List.getElem_mem hlt
  have htk : l.take (i + 1) = l.take i ++ [l[i]] := by rw [List.take_add_one, hx]; rfl
  have hget : (l.map fun s => enR s.r)[i]? = some (enR l[i].r) := by rw [List.getElem?_map, hx]; rfl
  generalize l[i] = s at hx hm htk hget
  have hgetS : (l.map fun s => [AV.int .i64 s.st])[i]? = some [.int .i64 s.st] := by rw [List.getElem?_map, hx]; rfl
  have hr := hone s hm
  have hliv : livesS (l.take (i + 1)) = stepX (livesS (l.take i)) s := by rw [htk, livesS_snoc]
  rw [List.length_take] at hfl
  generalize livesS (l.take i) = out at hl hB hsrt hliv hfl
  have hwp : IntKind.i64.wrap ((i : Int) + 1) = ((i + 1 : Nat) : Int) := by rw [IntWalk.i64_in _ (by omega)]; rfl
  have fL := (ht.up hU).L
  have fS := (ht.up hU).S
  have hidl := glt hB.blk
  obtain ⟨lo1, hco⟩ := own_cl u.toUn s.r (ap G (enR s.r))
  have hU2 : Up H (ap (ap G (enR s.r)) (enR s.r)) := (hU.trans (Up.app _ _)).trans (Up.app _ _)
  have hB2 : Built 6 (out.map enX) (ap (ap G (enR s.r)) (enR s.r)) id ex := hB.grow (by rw [hB.blk]; exact ga (ga hB.blk))
  cases ho : isOwn s.r with
  | false =>
   rw [ho] at hco
   refine (path4 (nt := 120) [.b true, .f (.agg (enR s.r)), .w (.ptr (List.length G) 0) (ap G [(.int .i64 0), (.int .i64 0), (.int .i64 0), (.int .i64 0), .nils, (.int .i64 0), (.int .i64 0), (.str []), (.str []), .nils, .nils]) none, .w (.tup []) (ap G (enR s.r)) (some (List.length G)), .f (.agg (enR s.r)), .r (.bool false) (ap (ap G (enR s.r)) (enR s.r)) lo1] [0, 1, 5, 6] (e := .normal) (vals := [(.sl idL 11 0 l.length l.length exL), (.sl idS 1 0 l.length l.length exS), (.sl id 6 0 out.length out.length ex), (.int .i64 (IntKind.i64.wrap ((i : Int) + 1)))]) (h' := (ap (ap G (enR s.r)) (enR s.r))) [cB (decide ((i : Int) < (l.length : Int))) true, 11 = 11, 0 ≤ (i : Int), (i : Int) < ((l.length : Nat) : Int), pOp evC G (.load (some 11) (.c (.ptr idL (0 + (Int.toNat (i : Int)) * 11)))) = some (.agg (enR s.r)), wOp evC G (.alloc [(.int .i64 0), (.int .i64 0), (.int .i64 0), (.int .i64 0), .nils, (.int .i64 0), (.int .i64 0), (.str []), (.str []), .nils, .nils]) = some ((.ptr (List.length G) 0), (ap G [(.int .i64 0), (.int .i64 0), (.int .i64 0), (.int .i64 0), .nils, (.int .i64 0), (.int .i64 0), (.str []), (.str []), .nils, .nils]), none), wOp evC (ap G [(.int .i64 0), (.int .i64 0), (.int .i64 0), (.int .i64 0), .nils, (.int .i64 0), (.int .i64 0), (.str []), (.str []), .nils, .nils]) (.store 11 (.c (.ptr (List.length G) 0)) (.c (.agg (enR s.r)))) = some ((.tup []), (ap G (enR s.r)), (some (List.length G))), pOp evC (ap G (enR s.r)) (.load (some 11) (.c (.ptr (List.length G) 0))) = some (.agg (enR s.r)), Cl Γ T 15 [(.agg (enR s.r))] (ap G (enR s.r)) ((.bool false), (ap (ap G (enR s.r)) (enR s.r)), lo1)] hl (fun t0 => by kernel_rfl) ⟨(cT hi), rfl, (by omega), (by omega), (ldEl0 fL hget (by kernel_rfl)), rfl, (stLast (by kernel_rfl) (by kernel_rfl) hr.all'), (ldC gl (by kernel_rfl)), hco, trivial⟩).mono ?_
   rintro e s' ⟨rfl, t4, lo4, rfl, hl4⟩
   rw [hwp] at hl4
   rw [show stepX out s = out by unfold stepX; rw [if_neg (by simp [ho])]] at hliv
   exact ⟨l.length - (i + 1), by omega, i + 1, t4, _, lo4, id, ex, rfl, rfl, by omega, by rw [hliv]; exact hl4, by rw [hliv]; exact hB2, hU2, hid⟩
  | true =>
   rw [ho] at hco
   by_cases hd : s.r.deal ≤ 0
   ·refine (path4 (nt := 120) [.b true, .f (.agg (enR s.r)), .w (.ptr (List.length G) 0) (ap G [(.int .i64 0), (.int .i64 0), (.int .i64 0), (.int .i64 0), .nils, (.int .i64 0), (.int .i64 0), (.str []), (.str []), .nils, .nils]) none, .w (.tup []) (ap G (enR s.r)) (some (List.length G)), .f (.agg (enR s.r)), .r (.bool true) (ap (ap G (enR s.r)) (enR s.r)) lo1, .f (.int .i64 s.r.deal), .b true] [0, 1, 5, 6] (e := .normal) (vals := [(.sl idL 11 0 l.length l.length exL), (.sl idS 1 0 l.length l.length exS), (.sl id 6 0 out.length out.length ex), (.int .i64 (IntKind.i64.wrap ((i : Int) + 1)))]) (h' := (ap (ap G (enR s.r)) (enR s.r))) [cB (decide ((i : Int) < (l.length : Int))) true, 11 = 11, 0 ≤ (i : Int), (i : Int) < ((l.length : Nat) : Int), pOp evC G (.load (some 11) (.c (.ptr idL (0 + (Int.toNat (i : Int)) * 11)))) = some (.agg (enR s.r)), wOp evC G (.alloc [(.int .i64 0), (.int .i64 0), (.int .i64 0), (.int .i64 0), .nils, (.int .i64 0), (.int .i64 0), (.str []), (.str []), .nils, .nils]) = some ((.ptr (List.length G) 0), (ap G [(.int .i64 0), (.int .i64 0), (.int .i64 0), (.int .i64 0), .nils, (.int .i64 0), (.int .i64 0), (.str []), (.str []), .nils, .nils]), none), wOp evC (ap G [(.int .i64 0), (.int .i64 0), (.int .i64 0), (.int .i64 0), .nils, (.int .i64 0), (.int .i64 0), (.str []), (.str []), .nils, .nils]) (.store 11 (.c (.ptr (List.length G) 0)) (.c (.agg (enR s.r)))) = some ((.tup []), (ap G (enR s.r)), (some (List.length G))), pOp evC (ap G (enR s.r)) (.load (some 11) (.c (.ptr (List.length G) 0))) = some (.agg (enR s.r)), Cl Γ T 15 [(.agg (enR s.r))] (ap G (enR s.r)) ((.bool true), (ap (ap G (enR s.r)) (enR s.r)), lo1), pOp evC (ap (ap G (enR s.r)) (enR s.r)) (.load none (.c (.ptr (List.length G) 1))) = some (.int .i64 s.r.deal), cB (decide (s.r.deal ≤ 0)) true] hl (fun t0 => by kernel_rfl) ⟨(cT hi), rfl, (by omega), (by omega), (ldEl0 fL hget (by kernel_rfl)), rfl, (stLast (by kernel_rfl) (by kernel_rfl) hr.all'), (ldC gl (by kernel_rfl)), hco, (ldC (ga gl) (by kernel_rfl)), (cT hd), trivial⟩).mono ?_
    rintro e s' ⟨rfl, t4, lo4, rfl, hl4⟩
    rw [hwp] at hl4
    rw [show stepX out s = out by unfold stepX; rw [if_neg (by omega)]] at hliv
    exact ⟨l.length - (i + 1), by omega, i + 1, t4, _, lo4, id, ex, rfl, rfl, by omega, by rw [hliv]; exact hl4, by rw [hliv]; exact hB2, hU2, hid⟩
   rw [show stepX out s = ins out (addX (curX out s) s) by unfold stepX; rw [if_pos ⟨ho, by omega⟩]] at hliv
   refine Wp.seq ((path4 (nt := 120) [.b true] [0, 1, 5, 6] (e := .normal) (vals := [(.sl idL 11 0 l.length l.length exL), (.sl idS 1 0 l.length l.length exS), (.sl id 6 0 out.length out.length ex), (.int .i64 (i : Int))]) (h' := G) [cB (decide ((i : Int) < (l.length : Int))) true] hl (fun t0 => by kernel_rfl) ⟨(cT hi), trivial⟩).mono ?_)
   rintro e s' ⟨rfl, t4, lo4, rfl, hl1⟩
   refine Wp.seq (Wp.block (Wp.seq ((path4 (nt := 120) [.f (.agg (enR s.r)), .w (.ptr (List.length G) 0) (ap G [(.int .i64 0), (.int .i64 0), (.int .i64 0), (.int .i64 0), .nils, (.int .i64 0), (.int .i64 0), (.str []), (.str []), .nils, .nils]) none, .w (.tup []) (ap G (enR s.r)) (some (List.length G))] [0, 1, 5, 6, 7] (e := .normal) (vals := [(.sl idL 11 0 l.length l.length exL), (.sl idS 1 0 l.length l.length exS), (.sl id 6 0 out.length out.length ex), (.int .i64 (i : Int)), (.ptr (List.length G) 0)]) (h' := (ap G (enR s.r))) [11 = 11, 0 ≤ (i : Int), (i : Int) < ((l.length : Nat) : Int), pOp evC G (.load (some 11) (.c (.ptr idL (0 + (Int.toNat (i : Int)) * 11)))) = some (.agg (enR s.r)), wOp evC G (.alloc [(.int .i64 0), (.int .i64 0), (.int .i64 0), (.int .i64 0), .nils, (.int .i64 0), (.int .i64 0), (.str []), (.str []), .nils, .nils]) = some ((.ptr (List.length G) 0), (ap G [(.int .i64 0), (.int .i64 0), (.int .i64 0), (.int .i64 0), .nils, (.int .i64 0), (.int .i64 0), (.str []), (.str []), .nils, .nils]), none), wOp evC (ap G [(.int .i64 0), (.int .i64 0), (.int .i64 0), (.int .i64 0), .nils, (.int .i64 0), (.int .i64 0), (.str []), (.str []), .nils, .nils]) (.store 11 (.c (.ptr (List.length G) 0)) (.c (.agg (enR s.r)))) = some ((.tup []), (ap G (enR s.r)), (some (List.length G)))] hl1 (fun t0 => by kernel_rfl) ⟨rfl, (by omega), (by omega), (ldEl0 fL hget (by kernel_rfl)), rfl, (stLast (by kernel_rfl) (by kernel_rfl) hr.all'), trivial⟩).mono ?_)))
   rintro e s' ⟨rfl, t5, lo5, rfl, hl2⟩
   have hU1 : Up H (ap G (enR s.r)) := hU.trans (Up.app _ _)
   have fB : ((ap G (enR s.r)))[G.length]? = some (.cells (enR s.r)) := gl
   have hBid : G.length ≠ id := by omega
   have hB1 : Built 6 (out.map enX) (ap G (enR s.r)) id ex := hB.grow (by rw [hB.blk]; exact ga hB.blk)
   have hHB : H.length ≤ G.length := hU.1
   generalize G.length = B at hl2 fB hBid hHB
   clear hl hl1 fL fS hB hU hU2 hB2 hidl
   generalize (ap G (enR s.r)) = G at hl2 fB hB1 hU1 hco
   have fL := (ht.up hU1).L
   refine Wp.seq ((path4 (nt := 120) [.f (.agg (enR s.r)), .r (.bool true) (ap G (enR s.r)) lo1, .f (.int .i64 s.r.deal), .b false] [0, 1, 5, 6, 7] (e := .normal) (vals := [(.sl idL 11 0 l.length l.length exL), (.sl idS 1 0 l.length l.length exS), (.sl id 6 0 out.length out.length ex), (.int .i64 (i : Int)), (.ptr B 0)]) (h' := (ap G (enR s.r))) [pOp evC G (.load (some 11) (.c (.ptr B 0))) = some (.agg (enR s.r)), Cl Γ T 15 [(.agg (enR s.r))] G ((.bool true), (ap G (enR s.r)), lo1), pOp evC (ap G (enR s.r)) (.load none (.c (.ptr B 1))) = some (.int .i64 s.r.deal), cB (decide (s.r.deal ≤ 0)) false] hl2 (fun t0 => by kernel_rfl) ⟨(ldC fB (by kernel_rfl)), hco, (ldC (ga fB) (by kernel_rfl)), (cF hd), trivial⟩).mono ?_)
   rintro e s' ⟨rfl, t6, lo6, rfl, hl3⟩
   have fB2 : (ap G (enR s.r))[B]? = some (.cells (enR s.r)) := ga fB
   have hU : Up H (ap G (enR s.r)) := hU1.trans (Up.app G (.cells (enR s.r)))
   have hB : Built 6 (out.map enX) (ap G (enR s.r)) id ex := hB1.grow (by rw [hB1.blk]; exact ga hB1.blk)
   clear hl2 fL hB1 hU1 fB hco
   have fB := fB2
   clear fB2
   generalize ap G (enR s.r) = G at hl3 fB hB hU
   refine Wp.seq ((path4 (nt := 120) [] [0, 1, 5, 6, 7, 8] (e := .normal) (vals := [(.sl idL 11 0 l.length l.length exL), (.sl idS 1 0 l.length l.length exS), (.sl id 6 0 out.length out.length ex), (.int .i64 (i : Int)), (.ptr B 0), (.int .i64 0)]) (h' := G) [] hl3 (fun t0 => by kernel_rfl) trivial).mono ?_)
   rintro e s' ⟨rfl, t7, lo7, rfl, hl4⟩
   have fO : (∀ e ∈ (out.map enX), e.length = 6) ∧ G[id]? = some (.cells (out.map enX).flatten) := ⟨hB.len, hB.blk⟩
   refine Wp.seq (Wp.block (Wp.mono (Wp.loop (Q := fun e s' => e = .exit 2 ∧ ∃ (t : List AV) (lo : Option Nat) (at_ : Nat), s' = { t := t, h := G, lo := lo } ∧ Lv 120 [(0, (.sl idL 11 0 l.length l.length exL)), (1, (.sl idS 1 0 l.length l.length exS)), (5, (.sl id 6 0 out.length out.length ex)), (6, (.int .i64 (i : Int))), (7, (.ptr B 0)), (8, (.int .i64 (at_ : Int)))] t ∧ at_ ≤ out.length ∧ (∀ x ∈ out.take at_, x.deal < s.r.deal) ∧ (∀ x, out[at_]? = some x → s.r.deal ≤ x.deal)) (fun k s' => ∃ (at_ : Nat) (t : List AV) (lo : Option Nat), s' = { t := t, h := G, lo := lo } ∧ k = out.length - at_ ∧ at_ ≤ out.length ∧ Lv 120 [(0, (.sl idL 11 0 l.length l.length exL)), (1, (.sl idS 1 0 l.length l.length exS)), (5, (.sl id 6 0 out.length out.length ex)), (6, (.int .i64 (i : Int))), (7, (.ptr B 0)), (8, (.int .i64 (at_ : Int)))] t ∧ (∀ x ∈ out.take at_, x.deal < s.r.deal)) ?_ out.length _ ⟨0, t7, lo7, rfl, rfl, by omega, hl4, fun x hx => by simp at hx⟩) fun e s' h => ?_))
   ·clear hl4 hl3
    rintro k s' ⟨at_, t, lo, rfl, rfl, hale, hl, hlo⟩
    by_cases hatl : at_ < out.length
    ·have hat : (at_ : Int) < (out.length : Int) := by omega
     have hxa := List.getElem?_eq_getElem hatl
     have hto : out.take (at_ + 1) = out.take at_ ++ [out[at_]] := by rw [List.take_add_one, hxa]; rfl
     have hgx : (out.map enX)[at_]? = some (enX out[at_]) := by rw [List.getElem?_map, hxa]; rfl
     generalize out[at_] = x at hxa hto hgx
     have hwa : IntKind.i64.wrap ((at_ : Int) + 1) = ((at_ + 1 : Nat) : Int) := by rw [IntWalk.i64_in _ (by omega)]; rfl
     by_cases hxd : x.deal < s.r.deal
     ·refine (path4 (nt := 120) [.b true, .f (.int .i64 x.deal), .f (.int .i64 s.r.deal), .b true] [0, 1, 5, 6, 7, 8] (e := .normal) (vals := [(.sl idL 11 0 l.length l.length exL), (.sl idS 1 0 l.length l.length exS), (.sl id 6 0 out.length out.length ex), (.int .i64 (i : Int)), (.ptr B 0), (.int .i64 (IntKind.i64.wrap ((at_ : Int) + 1)))]) (h' := G) [cB (decide ((at_ : Int) < (out.length : Int))) true, 6 = 6, 0 ≤ (at_ : Int), (at_ : Int) < ((out.length : Nat) : Int), pOp evC G (.load none (.c (.ptr id (0 + (Int.toNat (at_ : Int)) * 6)))) = some (.int .i64 x.deal), pOp evC G (.load none (.c (.ptr B 1))) = some (.int .i64 s.r.deal), cB (decide (x.deal < s.r.deal)) true] hl (fun t0 => by kernel_rfl) ⟨(cT hat), rfl, (by omega), (by omega), (ldEl0 fO hgx (by kernel_rfl)), (ldC fB (by kernel_rfl)), (cT hxd), trivial⟩).mono ?_
      rintro e s' ⟨rfl, t8, lo8, rfl, hl9⟩
      rw [hwa] at hl9
      refine ⟨out.length - (at_ + 1), by omega, at_ + 1, t8, lo8, rfl, rfl, by omega, hl9, fun y hy => ?_⟩
      rw [hto] at hy
      rcases List.mem_append.1 hy with hy | hy
      ·exact hlo y hy
      ·rw [List.mem_singleton.1 hy]; exact hxd
     ·refine (path4 (nt := 120) [.b true, .f (.int .i64 x.deal), .f (.int .i64 s.r.deal), .b false] [0, 1, 5, 6, 7, 8] (e := (.exit 2)) (vals := [(.sl idL 11 0 l.length l.length exL), (.sl idS 1 0 l.length l.length exS), (.sl id 6 0 out.length out.length ex), (.int .i64 (i : Int)), (.ptr B 0), (.int .i64 (at_ : Int))]) (h' := G) [cB (decide ((at_ : Int) < (out.length : Int))) true, 6 = 6, 0 ≤ (at_ : Int), (at_ : Int) < ((out.length : Nat) : Int), pOp evC G (.load none (.c (.ptr id (0 + (Int.toNat (at_ : Int)) * 6)))) = some (.int .i64 x.deal), pOp evC G (.load none (.c (.ptr B 1))) = some (.int .i64 s.r.deal), cB (decide (x.deal < s.r.deal)) false] hl (fun t0 => by kernel_rfl) ⟨(cT hat), rfl, (by omega), (by omega), (ldEl0 fO hgx (by kernel_rfl)), (ldC fB (by kernel_rfl)), (cF hxd), trivial⟩).mono ?_
      rintro e s' ⟨rfl, t8, lo8, rfl, hl9⟩
      exact ⟨rfl, t8, lo8, at_, rfl, hl9, hale, hlo, fun y hy => by rw [hxa] at hy; cases hy; omega⟩
    ·have hat : ¬ (at_ : Int) < (out.length : Int) := by omega
     refine (path4 (nt := 120) [.b false] [0, 1, 5, 6, 7, 8] (e := (.exit 2)) (vals := [(.sl idL 11 0 l.length l.length exL), (.sl idS 1 0 l.length l.length exS), (.sl id 6 0 out.length out.length ex), (.int .i64 (i : Int)), (.ptr B 0), (.int .i64 (at_ : Int))]) (h' := G) [cB (decide ((at_ : Int) < (out.length : Int))) false] hl (fun t0 => by kernel_rfl) ⟨(cF hat), trivial⟩).mono ?_
     rintro e s' ⟨rfl, t8, lo8, rfl, hl9⟩
     exact ⟨rfl, t8, lo8, at_, rfl, hl9, hale, hlo, fun y hy => by rw [List.getElem?_eq_none (by omega)] at hy; cases hy⟩
   clear hl4 hl3
   obtain ⟨rfl, t, lo, at_, rfl, hl, hale, hlo, hhi⟩ := h
   show Wp Γ T _ _ _
   have hidl := glt hB.blk
   have hBl := glt fB
   -- behind the insertion
   have tail : ∀ (t : List AV) (G' : List Blk) (lo : Option Nat) (out' : List LifeV) (id' : Nat) (ex' : Bool) (x0 : LifeV), Lv 120 [(0, (.sl idL 11 0 l.length l.length exL)), (1, (.sl idS 1 0 l.length l.length exS)), (5, .sl id' 6 0 out'.length out'.length ex'), (6, .int .i64 (i : Int)), (7, .ptr B 0), (8, .int .i64 (at_ : Int))] t → Built 6 (out'.map enX) G' id' ex' → out'[at_]? = some x0 → out'.set at_ (addX x0 s) = ins out (addX (curX out s) s) → G'[B]? = some (.cells (enR s.r)) → B ≠ id' → Up H G' → H.length ≤ id' →
     Wp Γ T (tl (tl (tl (tl (tl (blk (AM.hd (tl (lp (blk (tl (AM.hd (tl (tl a7.body)))))))))))))) { t := t, h := G', lo := lo } fun e s' => e = .normal ∧ ∃ t' G' lo' id' ex', s' = { t := t', h := G', lo := lo' } ∧ Lv 120 [(0, (.sl idL 11 0 l.length l.length exL)), (1, (.sl idS 1 0 l.length l.length exS)), (5, .sl id' 6 0 (livesS (l.take (i + 1))).length (livesS (l.take (i + 1))).length ex'), (6, .int .i64 (i : Int))] t' ∧ Built 6 ((livesS (l.take (i + 1))).map enX) G' id' ex' ∧ Up H G' ∧ H.length ≤ id' := by
    clear hl hB fB hU hidl hBl fO hBid
    intro t G lo out' id ex x0 hl hB hx0 hins fB hBne hU hid
    rw [hliv, ← hins]
    have hat' := (List.getElem?_eq_some_iff.1 hx0).1
    generalize out' = out at hl hB hx0 hat'
    refine Wp.seq ((path4 (nt := 120) [] [0, 1, 5, 6, 7, 10] (e := .normal) (vals := [(.sl idL 11 0 l.length l.length exL), (.sl idS 1 0 l.length l.length exS), (.sl id 6 0 out.length out.length ex), (.int .i64 (i : Int)), (.ptr B 0), (.ptr id (0 + (Int.toNat (at_ : Int)) * 6))]) (h' := G) [6 = 6, 0 ≤ (at_ : Int), (at_ : Int) < ((out.length : Nat) : Int)] hl (fun t0 => by kernel_rfl) ⟨rfl, (by omega), (by omega), trivial⟩).mono ?_)
    rintro e s' ⟨rfl, t9, lo9, rfl, hl9⟩
    refine (rl_switch hB hx0 fB hBne (ht.up hU) (by have := glt ht.S.2; omega) hx hlt hl9).mono ?_
    rintro e s' ⟨rfl, t10, G10, lo10, rfl, hl10, hB10, hf10, hle10⟩
    refine ⟨rfl, t10, G10, lo10, id, ex, rfl, ?_, hB10, ⟨Nat.le_trans hU.1 hle10, fun j z hz => hf10 j z (by have := glt hz; omega) (hU.2 j z hz)⟩, hid⟩
    rw [List.length_set]
    exact hl10
   have insert : ∀ (hdiff : ∀ x, out[at_]? = some x → s.r.deal < x.deal), ∃ (id1 id2 id3 : Nat) (ex1 ex2 ex3 : Bool) (G2 G4 G5 : List Blk) (lo1 lo2 lo3 : Option Nat),
     wOp evC (ap G []) (.append 6 48 (.c (.sl (List.length G) 6 0 0 0 true)) (.c (.sl id 6 0 at_ out.length ex))) = some (.sl id1 6 0 at_ at_ ex1, G2, lo1) ∧ G2[B]? = some (.cells (enR s.r)) ∧ Two G2 idL idS l ∧
     wOp evC (ap G2 (enX (newX s))) (.append 6 48 (.c (.sl id1 6 0 at_ at_ ex1)) (.c (.sl (List.length G2) 6 0 1 1 true))) = some (.sl id2 6 0 (at_ + 1) (at_ + 1) ex2, G4, lo2) ∧
     wOp evC G4 (.append 6 48 (.c (.sl id2 6 0 (at_ + 1) (at_ + 1) ex2)) (.c (.sl id 6 (at_ * 6) (out.length - at_) (out.length - at_) ex))) = some (.sl id3 6 0 (out.length + 1) (out.length + 1) ex3, G5, lo3) ∧
     Built 6 ((out.take at_ ++ newX s :: out.drop at_).map enX) G5 id3 ex3 ∧ G5[B]? = some (.cells (enR s.r)) ∧ B ≠ id3 ∧ Up H G5 ∧ H.length ≤ id3 := by
    intro hdiff
    have hG : ∀ {j : Nat} {z : Blk}, G[j]? = some z → j < G.length := fun h => glt h
    have hBa : Built 6 [] (ap G []) G.length true := Built.new 6 G
    have hOa : Built 6 (out.map enX) (ap G []) id ex := hB.grow (by rw [hB.blk]; exact ga hB.blk)
    have htl : ((out.take at_).map enX).length = at_ := by simp; omega
    have hdl : ((out.drop at_).map enX).length = out.length - at_ := by simp
    have len6 : ∀ (q : List LifeV), ∀ e ∈ q.map enX, e.length = 6 := fun q e he => by obtain ⟨x, _, rfl⟩ := List.mem_map.1 he; rfl
    have one6 : ∀ (q : List LifeV), ∀ e ∈ q.map enX, e.all AV.one = true := fun q e he => by obtain ⟨x, _, rfl⟩ := List.mem_map.1 he; rfl
    have e1 := el_sub (x := ex) (c := out.length) hOa (a := 0) (n := at_) (by simpa using hale)
    rw [Nat.zero_mul, List.drop_zero, ← List.map_take] at e1
    obtain ⟨G2, id1, ex1, lo1, ha1, hB1, hf1, hle1, hi1⟩ := app_any (by_ := 48) hBa (es2 := (out.take at_).map enX) e1 (by rw [htl]; rfl) (len6 _) (one6 _) (by rw [htl, List.length_nil]; omega)
    unfold bSl at ha1
    rw [List.nil_append] at ha1 hB1
    rw [htl] at ha1
    have hga : (ap G []).length = G.length + 1 := by simp
    rw [hga] at hi1 hle1
    have k1 : ∀ {j : Nat} {z : Blk}, G[j]? = some z → G2[j]? = some z := fun h => hf1 _ _ (by have := hG h; omega) (ga h)
    have hB2 : Built 6 ((out.take at_).map enX) (ap G2 (enX (newX s))) id1 ex1 := hB1.grow (by rw [hB1.blk]; exact ga hB1.blk)
    have e2 : elems (ap G2 (enX (newX s))) 6 (.sl G2.length 6 0 1 1 true) = some ([enX (newX s)]).flatten := by
     simp only [elems, if_pos, Nat.one_ne_zero, if_false, rdCells, gl, Nat.one_mul, Nat.zero_add, List.drop_zero]
     rfl
    obtain ⟨G4, id2, ex2, lo2, ha2, hB4, hf2, hle2, hi2⟩ := app_any (by_ := 48) hB2 (es2 := [enX (newX s)]) e2 rfl (fun e he => by rw [List.mem_singleton.1 he]; rfl) (fun e he => by rw [List.mem_singleton.1 he]; rfl) (by rw [htl, List.length_singleton]; omega)
    unfold bSl at ha2
    rw [List.length_append, htl, List.length_singleton] at ha2
    have hga2 : (ap G2 (enX (newX s))).length = G2.length + 1 := by simp
    rw [hga2] at hi2 hle2
    have k2 : ∀ {j : Nat} {z : Blk}, G[j]? = some z → G4[j]? = some z := fun h => hf2 _ _ (by have := hG h; omega) (ga (k1 h))
    have hO4 : Built 6 (out.map enX) G4 id ex := hB.grow (by rw [hB.blk]; exact k2 hB.blk)
    have e3 := el_sub (x := ex) (c := out.length - at_) hO4 (a := at_) (n := out.length - at_) (by simp; omega)
    rw [List.take_of_length_le (by simp), ← List.map_drop] at e3
    obtain ⟨G5, id3, ex3, lo3, ha3, hB5, hf3, hle3, hi3⟩ := app_any (by_ := 48) hB4 (es2 := (out.drop at_).map enX) e3 (by rw [hdl]; rfl) (len6 _) (one6 _) (by rw [List.length_append, htl, hdl, List.length_singleton]; omega)
    unfold bSl at ha3
    simp only [List.length_append, htl, hdl, List.length_singleton] at ha3
    rw [show at_ + 1 + (out.length - at_) = out.length + 1 by omega] at ha3
    have k3 : ∀ {j : Nat} {z : Blk}, G[j]? = some z → G5[j]? = some z := fun h => hf3 _ _ (by have := hG h; omega) (k2 h)
    refine ⟨id1, id2, id3, ex1, ex2, ex3, G2, G4, G5, lo1, lo2, lo3, ha1, k1 fB, ⟨⟨(ht.up hU).L.1, k1 (ht.up hU).L.2⟩, ⟨(ht.up hU).S.1, k1 (ht.up hU).S.2⟩⟩, ha2, ha3, ?_, k3 fB, by omega, ⟨by have := hU.1; omega, fun j z hz => k3 (hU.2 j z hz)⟩, by have := hU.1; omega⟩
    rw [List.map_append, List.map_cons]
    rw [List.append_assoc] at hB5
    exact hB5
   -- what stands there
   have done : ∀ (t' : List AV) (G' : List Blk) (lo' : Option Nat) (id' : Nat) (ex' : Bool), Lv 120 [(0, (.sl idL 11 0 l.length l.length exL)), (1, (.sl idS 1 0 l.length l.length exS)), (5, .sl id' 6 0 (livesS (l.take (i + 1))).length (livesS (l.take (i + 1))).length ex'), (6, .int .i64 (i : Int))] t' → Built 6 ((livesS (l.take (i + 1))).map enX) G' id' ex' → Up H G' → H.length ≤ id' →
     Wp Γ T (tl (tl (lp (blk (tl (AM.hd (tl (tl a7.body)))))))) { t := t', h := G', lo := lo' } fun e s' => match e with
      | .normal => ∃ j, j < l.length - i ∧ ∃ (i : Nat) (t : List AV) (G : List Blk) (lo : Option Nat) (id : Nat) (ex : Bool), s' = { t := t, h := G, lo := lo } ∧ j = l.length - i ∧ i ≤ l.length ∧ Lv 120 [(0, (.sl idL 11 0 l.length l.length exL)), (1, (.sl idS 1 0 l.length l.length exS)), (5, .sl id 6 0 (livesS (l.take i)).length (livesS (l.take i)).length ex), (6, .int .i64 (i : Int))] t ∧ Built 6 ((livesS (l.take i)).map enX) G id ex ∧ Up H G ∧ H.length ≤ id
      | e => e = .exit 0 ∧ ∃ t G lo id ex, s' = { t := t, h := G, lo := lo } ∧ Lv 120 [(5, .sl id 6 0 (livesS l).length (livesS l).length ex)] t ∧ Built 6 ((livesS l).map enX) G id ex ∧ Up H G := by
    intro t G lo id ex hl hB hU hid
    generalize hout : livesS (l.take (i + 1)) = out at hl hB
    refine (path4 (nt := 120) [] [0, 1, 5, 6] (e := .normal) (vals := [(.sl idL 11 0 l.length l.length exL), (.sl idS 1 0 l.length l.length exS), (.sl id 6 0 out.length out.length ex), (.int .i64 (IntKind.i64.wrap ((i : Int) + 1)))]) (h' := G) [] hl (fun t0 => by kernel_rfl) trivial).mono ?_
    rintro e s' ⟨rfl, t9, lo9, rfl, hl9⟩
    rw [hwp] at hl9
    exact ⟨l.length - (i + 1), by omega, i + 1, t9, _, lo9, id, ex, rfl, rfl, by omega, by rw [hout]; exact hl9, by rw [hout]; exact hB, hU, hid⟩
   have lt' : ∀ x, out[at_]? = some x → at_ < out.length := fun x h => (List.getElem?_eq_some_iff.1 h).1
   have fL := (ht.up hU).L
   have fS := (ht.up hU).S
   have put_in : ∀ (hdiff : ∀ x, out[at_]? = some x → s.r.deal < x.deal), curX out s = newX s ∧ (out.take at_ ++ newX s :: out.drop at_)[at_]? = some (newX s) ∧ (out.take at_ ++ newX s :: out.drop at_).set at_ (addX (newX s) s) = ins out (addX (curX out s) s) ∧ (out.take at_ ++ newX s :: out.drop at_).length = out.length + 1 := by
    intro hdiff
    have hnew : curX out s = newX s := curX_new fun x hx he => by
     obtain ⟨j, hj, rfl⟩ := List.getElem_of_mem hx
     by_cases hja : j < at_
     ·have := hlo out[j] (List.mem_of_getElem? (by rw [List.getElem?_take_of_lt hja, List.getElem?_eq_getElem hj]))
      omega
     ·have hal : at_ < out.length := by omega
      have h1 := hdiff out[at_] (List.getElem?_eq_getElem hal)
      by_cases hje : j = at_
      ·subst hje; omega
      ·have := List.pairwise_iff_getElem.1 hsrt at_ j hal hj (by omega)
       omega
    have htl : (out.take at_).length = at_ := by rw [List.length_take]; omega
    refine ⟨hnew, ?_, ?_, ?_⟩
    ·rw [List.getElem?_append_right (by omega), htl, Nat.sub_self]; rfl
    ·rw [hnew, List.set_append_right _ _ (by omega), htl, Nat.sub_self, List.set_cons_zero]
     refine (ins_new hale (fun x hx => ?_) (fun x hx => ?_)).symm
     ·rw [addX_deal]; exact hlo x hx
     ·rw [addX_deal]; exact hdiff x hx
    ·rw [List.length_append, List.length_cons, List.length_drop, htl]; omega
   have hsl1 : ∀ G, pOp evC G (.slc 6 (.c (.sl id 6 0 out.length out.length ex)) none (some (.c (.int .i64 (at_ : Int)))) none) = some (.sl id 6 0 at_ out.length ex) := fun G => slcTo hale
   have hsl2 : ∀ G, pOp evC G (.slc 6 (.c (.sl id 6 0 out.length out.length ex)) (some (.c (.int .i64 (at_ : Int)))) none none) = some (.sl id 6 (at_ * 6) (out.length - at_) (out.length - at_) ex) := fun G => slcFrom hale
   by_cases hae : (at_ : Int) = (out.length : Int)
   ·have hdiff : ∀ x, out[at_]? = some x → s.r.deal < x.deal := fun x h => by have := lt' x h; omega
    obtain ⟨id1, id2, id3, ex1, ex2, ex3, G2, G4, G5, lo1, lo2, lo3, ha1, fB2, hT2, ha2, ha3, hB5, fB5, hBne, hU5, hid3⟩ := insert hdiff
    obtain ⟨_, p2, p3, p4⟩ := put_in hdiff
    have hsl1 := hsl1 (ap G [])
    have hsl2 := hsl2 G4
    have fL2 := hT2.L
    have fS2 := hT2.S
    refine Wp.seq ((path4 (nt := 120) [.b true, .w (.sl (List.length G) 6 0 0 0 true) (ap G []) none, .f (.sl id 6 0 at_ out.length ex), .w (.sl id1 6 0 at_ at_ ex1) G2 lo1, .f (.int .i64 s.r.deal), .f (.int .i64 s.st), .w (.sl (List.length G2) 6 0 1 1 true) (ap G2 [(.int .i64 s.r.deal), (.int .i64 s.st), (.int .i64 0), (.int .i64 0), (.int .i64 0), (.int .i64 0)]) none, .w (.sl id2 6 0 (at_ + 1) (at_ + 1) ex2) G4 lo2, .f (.sl id 6 (at_ * 6) (out.length - at_) (out.length - at_) ex), .w (.sl id3 6 0 (out.length + 1) (out.length + 1) ex3) G5 lo3] [0, 1, 5, 6, 7, 8] (e := .normal) (vals := [(.sl idL 11 0 l.length l.length exL), (.sl idS 1 0 l.length l.length exS), (.sl id3 6 0 (out.length + 1) (out.length + 1) ex3), (.int .i64 (i : Int)), (.ptr B 0), (.int .i64 (at_ : Int))]) (h' := G5) [cB ((at_ : Int) == (out.length : Int)) true, wOp evC G (.buildSl [(.int .i64 0), (.int .i64 0), (.int .i64 0), (.int .i64 0), (.int .i64 0), (.int .i64 0)] 0 []) = some ((.sl (List.length G) 6 0 0 0 true), (ap G []), none), pOp evC (ap G []) (.slc 6 (.c (.sl id 6 0 out.length out.length ex)) none (some (.c (.int .i64 (at_ : Int)))) none) = some (.sl id 6 0 at_ out.length ex), wOp evC (ap G []) (.append 6 48 (.c (.sl (List.length G) 6 0 0 0 true)) (.c (.sl id 6 0 at_ out.length ex))) = some ((.sl id1 6 0 at_ at_ ex1), G2, lo1), pOp evC G2 (.load none (.c (.ptr B 1))) = some (.int .i64 s.r.deal), 1 = 1, 0 ≤ (i : Int), (i : Int) < ((l.length : Nat) : Int), pOp evC G2 (.load none (.c (.ptr idS (0 + (Int.toNat (i : Int)) * 1)))) = some (.int .i64 s.st), wOp evC G2 (.buildSl [(.int .i64 0), (.int .i64 0), (.int .i64 0), (.int .i64 0), (.int .i64 0), (.int .i64 0)] 1 [(0, (.c (.agg [(.int .i64 s.r.deal), (.int .i64 s.st), (.int .i64 0), (.int .i64 0), (.int .i64 0), (.int .i64 0)])))]) = some ((.sl (List.length G2) 6 0 1 1 true), (ap G2 [(.int .i64 s.r.deal), (.int .i64 s.st), (.int .i64 0), (.int .i64 0), (.int .i64 0), (.int .i64 0)]), none), wOp evC (ap G2 [(.int .i64 s.r.deal), (.int .i64 s.st), (.int .i64 0), (.int .i64 0), (.int .i64 0), (.int .i64 0)]) (.append 6 48 (.c (.sl id1 6 0 at_ at_ ex1)) (.c (.sl (List.length G2) 6 0 1 1 true))) = some ((.sl id2 6 0 (at_ + 1) (at_ + 1) ex2), G4, lo2), pOp evC G4 (.slc 6 (.c (.sl id 6 0 out.length out.length ex)) (some (.c (.int .i64 (at_ : Int)))) none none) = some (.sl id 6 (at_ * 6) (out.length - at_) (out.length - at_) ex), wOp evC G4 (.append 6 48 (.c (.sl id2 6 0 (at_ + 1) (at_ + 1) ex2)) (.c (.sl id 6 (at_ * 6) (out.length - at_) (out.length - at_) ex))) = some ((.sl id3 6 0 (out.length + 1) (out.length + 1) ex3), G5, lo3)] hl (fun t0 => by kernel_rfl) ⟨(cE hae), rfl, hsl1, ha1, (ldC fB2 (by kernel_rfl)), rfl, (by omega), (by omega), (ldEl0 fS2 hgetS (by kernel_rfl)), rfl, ha2, hsl2, ha3, trivial⟩).mono ?_)
    rintro e s' ⟨rfl, t9, lo9, rfl, hl9⟩
    refine (tail t9 G5 lo9 _ id3 ex3 (newX s) (by rw [p4]; exact hl9) hB5 p2 p3 fB5 hBne hU5 hid3).mono ?_
    rintro e s' ⟨rfl, t, G, lo, id, ex, rfl, h1, h2, h3, h4⟩
    exact done t G lo id ex h1 h2 h3 h4
   ·have hatl : at_ < out.length := by omega
    have hxa := List.getElem?_eq_getElem hatl
    have hgx : (out.map enX)[at_]? = some (enX out[at_]) := by rw [List.getElem?_map, hxa]; rfl
    have hhx := hhi _ hxa
    generalize out[at_] = x at hxa hgx hhx
    by_cases hxd : x.deal = s.r.deal
    ·refine Wp.seq ((path4 (nt := 120) [.b false, .f (.int .i64 x.deal), .f (.int .i64 s.r.deal), .b false] [0, 1, 5, 6, 7, 8] (e := .normal) (vals := [(.sl idL 11 0 l.length l.length exL), (.sl idS 1 0 l.length l.length exS), (.sl id 6 0 out.length out.length ex), (.int .i64 (i : Int)), (.ptr B 0), (.int .i64 (at_ : Int))]) (h' := G) [cB ((at_ : Int) == (out.length : Int)) false, 6 = 6, 0 ≤ (at_ : Int), (at_ : Int) < ((out.length : Nat) : Int), pOp evC G (.load none (.c (.ptr id (0 + (Int.toNat (at_ : Int)) * 6)))) = some (.int .i64 x.deal), pOp evC G (.load none (.c (.ptr B 1))) = some (.int .i64 s.r.deal), cB (x.deal != s.r.deal) false] hl (fun t0 => by kernel_rfl) ⟨(cN hae), rfl, (by omega), (by omega), (ldEl0 fO hgx (by kernel_rfl)), (ldC fB (by kernel_rfl)), (cS hxd), trivial⟩).mono ?_)
     rintro e s' ⟨rfl, t9, lo9, rfl, hl9⟩
     have hcur : curX out s = x := curX_of hsrt (List.mem_of_getElem? hxa) hxd
     refine (tail t9 G lo9 out id ex x hl9 hB hxa ?_ fB hBid hU hid).mono ?_
     ·rw [hcur]
      exact (ins_old (fun y hy => by rw [addX_deal, hxd]; exact hlo y hy) hxa (by rw [addX_deal])).symm
     rintro e s' ⟨rfl, t, G, lo, id, ex, rfl, h1, h2, h3, h4⟩
     exact done t G lo id ex h1 h2 h3 h4
    ·have hdiff : ∀ y, out[at_]? = some y → s.r.deal < y.deal := fun y h => by rw [hxa] at h; cases h; omega
     obtain ⟨id1, id2, id3, ex1, ex2, ex3, G2, G4, G5, lo1, lo2, lo3, ha1, fB2, hT2, ha2, ha3, hB5, fB5, hBne, hU5, hid3⟩ := insert hdiff
     obtain ⟨_, p2, p3, p4⟩ := put_in hdiff
     have hsl1 := hsl1 (ap G [])
     have hsl2 := hsl2 G4
     have fL2 := hT2.L
     have fS2 := hT2.S
     refine Wp.seq ((path4 (nt := 120) [.b false, .f (.int .i64 x.deal), .f (.int .i64 s.r.deal), .b true, .w (.sl (List.length G) 6 0 0 0 true) (ap G []) none, .f (.sl id 6 0 at_ out.length ex), .w (.sl id1 6 0 at_ at_ ex1) G2 lo1, .f (.int .i64 s.r.deal), .f (.int .i64 s.st), .w (.sl (List.length G2) 6 0 1 1 true) (ap G2 [(.int .i64 s.r.deal), (.int .i64 s.st), (.int .i64 0), (.int .i64 0), (.int .i64 0), (.int .i64 0)]) none, .w (.sl id2 6 0 (at_ + 1) (at_ + 1) ex2) G4 lo2, .f (.sl id 6 (at_ * 6) (out.length - at_) (out.length - at_) ex), .w (.sl id3 6 0 (out.length + 1) (out.length + 1) ex3) G5 lo3] [0, 1, 5, 6, 7, 8] (e := .normal) (vals := [(.sl idL 11 0 l.length l.length exL), (.sl idS 1 0 l.length l.length exS), (.sl id3 6 0 (out.length + 1) (out.length + 1) ex3), (.int .i64 (i : Int)), (.ptr B 0), (.int .i64 (at_ : Int))]) (h' := G5) [cB ((at_ : Int) == (out.length : Int)) false, 6 = 6, 0 ≤ (at_ : Int), (at_ : Int) < ((out.length : Nat) : Int), pOp evC G (.load none (.c (.ptr id (0 + (Int.toNat (at_ : Int)) * 6)))) = some (.int .i64 x.deal), pOp evC G (.load none (.c (.ptr B 1))) = some (.int .i64 s.r.deal), cB (x.deal != s.r.deal) true, wOp evC G (.buildSl [(.int .i64 0), (.int .i64 0), (.int .i64 0), (.int .i64 0), (.int .i64 0), (.int .i64 0)] 0 []) = some ((.sl (List.length G) 6 0 0 0 true), (ap G []), none), pOp evC (ap G []) (.slc 6 (.c (.sl id 6 0 out.length out.length ex)) none (some (.c (.int .i64 (at_ : Int)))) none) = some (.sl id 6 0 at_ out.length ex), wOp evC (ap G []) (.append 6 48 (.c (.sl (List.length G) 6 0 0 0 true)) (.c (.sl id 6 0 at_ out.length ex))) = some ((.sl id1 6 0 at_ at_ ex1), G2, lo1), pOp evC G2 (.load none (.c (.ptr B 1))) = some (.int .i64 s.r.deal), 1 = 1, 0 ≤ (i : Int), (i : Int) < ((l.length : Nat) : Int), pOp evC G2 (.load none (.c (.ptr idS (0 + (Int.toNat (i : Int)) * 1)))) = some (.int .i64 s.st), wOp evC G2 (.buildSl [(.int .i64 0), (.int .i64 0), (.int .i64 0), (.int .i64 0), (.int .i64 0), (.int .i64 0)] 1 [(0, (.c (.agg [(.int .i64 s.r.deal), (.int .i64 s.st), (.int .i64 0), (.int .i64 0), (.int .i64 0), (.int .i64 0)])))]) = some ((.sl (List.length G2) 6 0 1 1 true), (ap G2 [(.int .i64 s.r.deal), (.int .i64 s.st), (.int .i64 0), (.int .i64 0), (.int .i64 0), (.int .i64 0)]), none), wOp evC (ap G2 [(.int .i64 s.r.deal), (.int .i64 s.st), (.int .i64 0), (.int .i64 0), (.int .i64 0), (.int .i64 0)]) (.append 6 48 (.c (.sl id1 6 0 at_ at_ ex1)) (.c (.sl (List.length G2) 6 0 1 1 true))) = some ((.sl id2 6 0 (at_ + 1) (at_ + 1) ex2), G4, lo2), pOp evC G4 (.slc 6 (.c (.sl id 6 0 out.length out.length ex)) (some (.c (.int .i64 (at_ : Int)))) none none) = some (.sl id 6 (at_ * 6) (out.length - at_) (out.length - at_) ex), wOp evC G4 (.append 6 48 (.c (.sl id2 6 0 (at_ + 1) (at_ + 1) ex2)) (.c (.sl id 6 (at_ * 6) (out.length - at_) (out.length - at_) ex))) = some ((.sl id3 6 0 (out.length + 1) (out.length + 1) ex3), G5, lo3)] hl (fun t0 => by kernel_rfl) ⟨(cN hae), rfl, (by omega), (by omega), (ldEl0 fO hgx (by kernel_rfl)), (ldC fB (by kernel_rfl)), (cD hxd), rfl, hsl1, ha1, (ldC fB2 (by kernel_rfl)), rfl, (by omega), (by omega), (ldEl0 fS2 hgetS (by kernel_rfl)), rfl, ha2, hsl2, ha3, trivial⟩).mono ?_)
     rintro e s' ⟨rfl, t9, lo9, rfl, hl9⟩
     refine (tail t9 G5 lo9 _ id3 ex3 (newX s) (by rw [p4]; exact hl9) hB5 p2 p3 fB5 hBne hU5 hid3).mono ?_
     rintro e s' ⟨rfl, t, G, lo, id, ex, rfl, h1, h2, h3, h4⟩
     exact done t G lo id ex h1 h2 h3 h4
 ·obtain ⟨rfl, t, G, lo, id, ex, rfl, hl, hB, hU⟩ := h
  show Wp Γ T _ _ _
  generalize hout : livesS l = out at hl hB
  refine (path4 (nt := 120) [] [4] (e := .ret) (vals := [(.sl id 6 0 out.length out.length ex)]) (h' := G) [] hl (fun t0 => by kernel_rfl) trivial).mono ?_
  rintro e s' ⟨rfl, t9, lo9, rfl, hl9⟩
  refine ⟨(fun i hi => by cases hi), [.sl id 6 0 out.length out.length ex], ?_, id, ex, rfl, hB, hU⟩
  have := hl9.get (4, .sl id 6 0 out.length out.length ex) (by simp)
  rw [getX_eq] at this
  simp [a7, resAll, resOf, this]
end
open Go
inductive Hang : List Stm → Prop
 | nil : Hang []
 | snoc {pre : List Stm} {s : Stm} : Hang pre → GoodP pre → hangsB pre s = true → Hang (pre ++ [s])
theorem own_good {pre : List Stm} (hg : GoodP pre) (id : Int) : lastOf (own pre id) ≤ lastOf pre := by
 unfold lastOf
 cases hl : (own pre id).getLast? with
 | none => exact hg.last
 | some s => exact hg.up s (own_mem (List.mem_of_getLast? hl)).1
theorem hangs_own {pre : List Stm} {s : Stm} (h : hangsB pre s = true) (ho : isOwn s.r = true) : dealB (own pre s.r.deal) s.r = true := by
 have hst := hangs_st h
 unfold hangsB at h
 rw [if_neg (by omega), if_pos ho] at h
 split at h
 ·cases h
 ·exact h
theorem deal_end {F : List Stm} {r : Rec} (h : dealB F r = true) : endOf F = false := by
 unfold dealB at h
 cases he : endOf F with
 | false => rfl
 | true => rw [he, if_pos rfl] at h; cases h
theorem deal_prev {F : List Stm} {r : Rec} (h : dealB F r = true) : r.prev = lastOf F := by
 have he := deal_end h
 unfold dealB at h
 rw [he, if_neg (by decide)] at h
 refine Classical.byContradiction fun hn => ?_
 rw [if_pos hn] at h
 cases h
theorem deal_undo {F : List Stm} {r : Rec} (h : dealB F r = true) (hk : r.k = 2) : ∃ u, nextOf F = some u ∧ r.next = u.prev := by
 have he := deal_end h
 have hp := deal_prev h
 unfold dealB at h
 rw [he, if_neg (by decide), if_neg (by simp [hp]), if_neg (by simp [hk]), if_neg (by omega), if_pos hk] at h
 cases hn : nextOf F with
 | none => rw [hn] at h; cases h
 | some u => rw [hn] at h; exact ⟨u, rfl, by simpa [undoB] using h⟩
theorem Hang.facts {pre : List Stm} (h : Hang pre) : (∀ id, endAny (own pre id) = endOf (own pre id)) ∧ (∀ s ∈ pre, isOwn s.r = true → s.r.prev < s.st ∧ (s.r.k = 2 → s.r.next < s.st)) := by
 induction h with
 | nil => exact ⟨fun id => rfl, fun s hs => by cases hs⟩
 | @snoc pre s h hg hh ih =>
  have hst := hangs_st hh
  constructor
  ·intro id
   rw [own_snoc]
   by_cases ho : isOwn s.r = true ∧ s.r.deal = id
   ·rw [if_pos ho, endAny_snoc, endOf_snoc, ih.1 id]
    have := deal_end (hangs_own hh ho.1)
    rw [ho.2] at this
    rw [this]
    rfl
   ·rw [if_neg ho, List.append_nil]
    exact ih.1 id
  ·intro x hx ho
   rcases List.mem_append.1 hx with hx | hx
   ·exact ih.2 x hx ho
   ·rw [List.mem_singleton.1 hx] at ho ⊢
    have hd := hangs_own hh ho
    have hl := own_good hg s.r.deal
    refine ⟨by rw [deal_prev hd]; omega, fun hk => ?_⟩
    obtain ⟨w, hw, hn⟩ := deal_undo hd hk
    obtain ⟨y, hy, rfl⟩ := nx_mem hw
    obtain ⟨h1, h2, h3⟩ := own_mem hy
    have := (ih.2 y h1 h2).1
    have := hg.up y h1
    omega
theorem cnt_le {F : List Stm} {a b : Int} (hba : b ≤ a) : F.countP (fun s => decide (s.st ≤ b)) ≤ F.countP (fun s => decide (s.st ≤ a)) :=
 List.countP_mono_left fun s _ h => by simp at h ⊢; omega
theorem cnt_lt : ∀ {F : List Stm} {a b : Int} {s : Stm}, s ∈ F → s.st = a → b < a → F.countP (fun s => decide (s.st ≤ b)) < F.countP (fun s => decide (s.st ≤ a))
 | x :: F, a, b, s, hs, hst, hba => by
  rw [List.countP_cons, List.countP_cons]
  rcases List.mem_cons.1 hs with h | h
  ·subst h
   have := cnt_le (F := F) (show b ≤ a by omega)
   rw [if_neg (by simp; omega), if_pos (by simp; omega)]
   omega
  ·have := cnt_lt h hst hba
   by_cases h1 : x.st ≤ b
   ·rw [if_pos (by simpa using h1), if_pos (by simp; omega)]; omega
   ·rw [if_neg (by simpa using h1)]; omega
theorem nx_stable {F : List Stm} (hF : ∀ s ∈ F, 1 ≤ s.r.k ∧ (s.r.k = 2 → s.r.next < s.st)) : ∀ (N M : Nat) (a : Int), F.countP (fun s => decide (s.st ≤ a)) < N → F.countP (fun s => decide (s.st ≤ a)) < M → nx F N a = nx F M a
 | 0, _, _, h, _ => by omega
 | _, 0, _, _, h => by omega
 | N + 1, M + 1, a, h1, h2 => by
  rw [nx, nx]
  cases hat : atOf F a with
  | none => rfl
  | some s =>
   have hs : s ∈ F := List.mem_of_find?_eq_some hat
   have hst : s.st = a := by have := List.find?_some hat; simpa using this
   simp only
   by_cases hk : s.r.k > 2
   ·rw [if_pos hk, if_pos hk]
   ·rw [if_neg hk, if_neg hk]
    by_cases hk1 : s.r.k = 1
    ·rw [if_pos hk1, if_pos hk1]
    ·rw [if_neg hk1, if_neg hk1]
     obtain ⟨h3, h4⟩ := hF s hs
     have h5 := h4 (by omega)
     have := cnt_lt hs hst (show s.r.next < a by omega)
     exact nx_stable hF N M s.r.next (by omega) (by omega)
structure Fine (pre : List Stm) : Prop where
 ea : ∀ id, endAny (own pre id) = endOf (own pre id)
 nxt : ∀ id, nx (own pre id) (pre.length + 1) (lastOf (own pre id)) = nextOf (own pre id)
theorem Hang.fine {pre : List Stm} (h : Hang pre) : Fine pre := by
 obtain ⟨h1, h2⟩ := h.facts
 refine ⟨h1, fun id => ?_⟩
 have hc := List.countP_le_length (p := fun s : Stm => decide (s.st ≤ lastOf (own pre id))) (l := own pre id)
 have hl := own_len pre id
 refine nx_stable (fun s hs => ?_) _ _ _ (by omega) (by omega)
 obtain ⟨h3, h4, h5⟩ := own_mem hs
 exact ⟨by unfold isOwn at h4; simp at h4; exact h4.1, (h2 s h3 h4).2⟩
theorem last_pos {pre : List Stm} (hg : GoodP pre) {s : Stm} (hs : s ∈ pre) (ho : isOwn s.r = true) : lastOf (own pre s.r.deal) > 0 := by
 have hm : s ∈ own pre s.r.deal := by
  unfold own
  rw [List.mem_filter]
  exact ⟨hs, by simp [ho]⟩
 unfold lastOf
 cases hl : (own pre s.r.deal).getLast? with
 | none => rw [List.getLast?_eq_none_iff.1 hl] at hm; cases hm
 | some x => exact hg.pos x (own_mem (List.mem_of_getLast? hl)).1
end Go.Proofs.Ytlhbfikfnecknaa.AM.Ch

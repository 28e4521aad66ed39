/-
  LAYER 22: the walks of the law's 'stamped' and 'story', of mark.follow.
-/
import Derived.Test.YtkcckhlchjmkkaaMarkT
import Derived.Maps.OwnSet
import Derived.Maps.OwnOps
set_option linter.unusedVariables false
set_option linter.unusedSimpArgs false
namespace Go.Proofs.Ytkcckhlchjmkkaa
open Go.RowKit Go.Proofs.YtkcckhlchjmkkaaW.PrintWords Go.Proofs.Ytkcckhlchjmkkaa.PMark

abbrev Rec := S53
abbrev Stp := S70
abbrev Opn := S55
abbrev kRec := k53
abbrev kStp := k70
abbrev kOpn := k55
/-- The first k records with their stamps. -/
def stampN (L : List Rec) (k : Nat) : List Stp := (List.range k).map fun (i : Nat) => ⟨1 + 10 * (i : Int), L.getD i z53⟩
def numsN (k : Nat) : List Int := (List.range k).map fun (i : Nat) => 1 + 10 * (i : Int)
theorem stampN_snoc (L : List Rec) (k : Nat) : stampN L (k + 1) = stampN L k ++ [⟨1 + 10 * (k : Int), L.getD k z53⟩] := by simp [stampN, List.range_succ]
theorem numsN_snoc (k : Nat) : numsN (k + 1) = numsN k ++ [1 + 10 * (k : Int)] := by simp [numsN, List.range_succ]
theorem stampN_len (L : List Rec) (k : Nat) : (stampN L k).length = k := by simp [stampN]
theorem numsN_len (k : Nat) : (numsN k).length = k := by simp [numsN]
theorem infoStp : (Try.prog.info? 70).map (fun i => (i.zero, i.size, i.bytes)) = some (some (.agg #[.int .i64 0, .int .i64 0, .int .i64 0, .int .i64 0, .int .i64 0, .slice none 0 0, .int .i64 0, .int .i64 0, .string ByteArray.empty, .string ByteArray.empty, .slice none 0 0, .slice none 0 0]), 12, 160) := by kernel_rfl
theorem infoInt : (Try.prog.info? 3).map (fun i => (i.zero, i.size, i.bytes)) = some (some (.int .i64 0), 1, 8) := by kernel_rfl

set_option maxRecDepth 100000 in
theorem c_stamped (L : List Rec) (A : Option Addr) (c : Nat) (hn : L.length ≤ 1000) (w : World) (h : kRec.C w A L.length L) (hc : L.length ≤ c) :
    Calls Try.prog 30 #[.slice A L.length c] w fun e w' => ∃ A1 c1 A2 c2, e = .returned (.tuple #[.slice A1 L.length c1, .slice A2 L.length c2]) ∧ L.length ≤ c1 ∧ L.length ≤ c2 ∧ kStp.C w' A1 L.length (stampN L L.length) ∧ (Kd.int .i64).C w' A2 L.length (numsN L.length) ∧ Below w.heap.size w w' := by
  have H0 := Lib.hid h
  have HC := Lib.hid hc
  have HN := Lib.hid hn
  clear h hc hn
  go_enter Try.func30, Try.ntmps30
  go_wp2
  go_loopw [4, 5, 6] (fun v4 v5 v6 wr => ∃ k : Nat, k ≤ L.length ∧ v6 = .int .i64 k ∧ Hid ((ro w kStp).R 70 wr w.heap.size (fun _ => True) v4 (stampN L k)) ∧ Hid (wr.ownsRow w.heap.size 3 1 v5 (numsN k).length (nums .i64 (numsN k))) ∧ Hid (Below w.heap.size w wr)) (fun _ _ v _ => L.length - (intOf v).toNat)
  case atStart =>
    refine ⟨0, by omega, rfl, ?_, ?_, below_alloc (below_alloc (Below.refl _ _) _) _⟩
    · exact Kd.R_below (R_empty _ _ w _ (Nat.le_refl _)) (below_alloc (Below.refl _ _) _)
    · have h := own_empty 3 .i64 (w.alloc (.cells #[] 70)) w.heap.size (by simp)
      have h2 : ((w.alloc (.cells #[] 70)).alloc (.cells #[] 3)).ownsRow w.heap.size 3 1 (.slice (some ⟨w.heap.size + 1, 0, none⟩) 0 0) 0 (nums .i64 []) := by simpa using h
      exact h2
  case round =>
    obtain ⟨k, hk, rfl, HR, HO, HB⟩ := hrel
    by_cases hlt : k < L.length
    · obtain ⟨ad, A4, c4, A9, c9, A10, c10, rfl, x0, x1, x2, x3, x4, x5, x6, x7, x8, x9, x10, l4, g4, l9, g9, l10, g10⟩ := at_T53 H0.out k (by omega) (by omega)
      have hm := Lib.hid (k70_mk w ⟨1 + 10 * (k : Int), rd_T53 L k⟩ l4 g4 l9 g9 l10 g10)
      clear l4 g4 l9 g9 l10 g10
      simp only [Int.toNat_natCast] at x0 x1 x2 x3 x4 x5 x6 x7 x8 x9 x10
      replace x0 := (HB.out.cell (World.block_lt_of_cell? w _ x0)).trans x0
      replace x1 := (HB.out.cell (World.block_lt_of_cell? w _ x1)).trans x1
      replace x2 := (HB.out.cell (World.block_lt_of_cell? w _ x2)).trans x2
      replace x3 := (HB.out.cell (World.block_lt_of_cell? w _ x3)).trans x3
      replace x4 := (HB.out.cell (World.block_lt_of_cell? w _ x4)).trans x4
      replace x5 := (HB.out.cell (World.block_lt_of_cell? w _ x5)).trans x5
      replace x6 := (HB.out.cell (World.block_lt_of_cell? w _ x6)).trans x6
      replace x7 := (HB.out.cell (World.block_lt_of_cell? w _ x7)).trans x7
      replace x8 := (HB.out.cell (World.block_lt_of_cell? w _ x8)).trans x8
      replace x9 := (HB.out.cell (World.block_lt_of_cell? w _ x9)).trans x9
      replace x10 := (HB.out.cell (World.block_lt_of_cell? w _ x10)).trans x10
      have W1 : wrap64 (10 * (k : Int)) = 10 * k := by have := HN.out; unfold wrap64; omega
      have W2 : wrap64 (1 + 10 * (k : Int)) = 1 + 10 * k := by have := HN.out; unfold wrap64; omega
      have W3 : wrap64 ((k : Int) + 1) = k + 1 := by have := HN.out; unfold wrap64; omega
      obtain ⟨inner, hin⟩ := Kd.R_own HR.out
      have HI := Lib.hid hin
      clear hin
      go_wp2_with (first
        | (at_builtin; (refine Kd.R_append (ro w kStp) (w0 := w) w.heap.size rfl (.tmp 15) (.tmp 24) 56 70 _ 160 rfl Try.underlying56 infoStp rfl (show 0 < 12 by decide) (by omega) u4 (stampN L k) ⟨1 + 10 * (k : Int), rd_T53 L k⟩ _ (fun _ => True) (fun _ => False) rfl rfl hm.out (fun _ hk => hk.elim) (fun _ _ => trivial) HR.out HB.out HB.out.size (by rw [stampN_len]; have := HN.out; omega) ?_); intro v1 w1 ho hb hg hat; have HO := Lib.hid (nums_beside HO.out HI.out hg (by decide)); have HR := Lib.hid (stampN_snoc L k ▸ ho); have HB := Lib.hid hb; clear ho hb hg hat)
        | (at_builtin; (refine print_append_num (w0 := w) w.heap.size rfl (.tmp 26) (.tmp 30) 57 3 .i64 8 rfl Try.underlying57 infoInt (by decide) u5 (numsN k) _ rfl rfl HO.out HB.out HB.out.size (by rw [numsN_len]; have := HN.out; omega) ?_); intro v2 w2 ho hb hg hat; have HR := Lib.hid (R_beside HR.out HO.out hg (by simp [ro])); have HO := Lib.hid (numsN_snoc k ▸ ho); have HB := Lib.hid hb; clear ho hb hg hat))
      go_roundw
      case rel => exact ⟨k + 1, by omega, by rw [W3, Int.natCast_succ], HR, HO, HB⟩
      case measure =>
        rw [W3]
        show L.length - ((k : Int) + 1).toNat < L.length - (k : Int).toNat
        omega
    · have hkL : k = L.length := by omega
      subst hkL
      have HR := Lib.hid HR.out
      obtain ⟨B1, d1, rfl, e1, r1⟩ := Kd.R_reads HR.out
      have hO := HO.out
      obtain ⟨B2, d2, rfl, e2, r2⟩ := Kd.R_reads (Kd.R_of_own (h1 := fun _ => rfl) (enc := Value.int .i64) hO (ok := fun _ => True) (fun _ _ => trivial))
      rw [stampN_len] at e1 r1 
      rw [numsN_len] at e2 r2
      simp only [stampN_len, numsN_len]
      have E1 := Lib.hid e1
      have R1 := Lib.hid r1
      have E2 := Lib.hid e2
      have R2 := Lib.hid r2
      clear e1 r1 e2 r2 hO HO HR
      go_wp2
      go_ret2
      exact ⟨_, _, _, _, rfl, E1.out, E2.out, ro_C R1.out HB.out, R2.out, HB.out⟩

set_option maxRecDepth 100000 in
theorem c_story (s n : Int) (A1 A2 : Option Addr) (n1 c1 n2 c2 : Nat) (w : World) :
    Calls Try.prog 31 #[.agg #[.int .i64 s, .slice A1 n1 c1, .int .i64 n, .slice A2 n2 c2]] w fun e w' => e = .returned (.agg #[.int .i64 s, .slice A1 n1 c1, .int .i64 n, .slice A2 n2 c2]) ∧ Below w.heap.size w w' := by
  go_enter Try.func31, Try.ntmps31
  go_wp2
  simp [bodyPost, results, Try.results31, go_sem]
  exact below_alloc (below_alloc (Below.refl _ _) _) _

/-! The map of who is open: a list of pairs, by rising numbers. -/
section
variable {H : Type}
/-- The datum of a map from int to int. -/
def AM (l : List Opn) : DataW H := .map (l.map fun o => (.int .i64 o.f0, .lit (.int .i64 o.f1)))
/-- An entry put in its place. -/
def insO (x : Opn) : List Opn → List Opn
  | [] => [x]
  | y :: r => if x.f0 < y.f0 then x :: y :: r else y :: insO x r
def putO (l : List Opn) (x : Opn) : List Opn := insO x (l.filter fun o => !(o.f0 == x.f0))
def delO (l : List Opn) (k : Int) : List Opn := l.filter fun o => !(o.f0 == k)
theorem AM_filter (l : List Opn) (k : Int) : ((l.map fun o : Opn => ((Lit.int .i64 o.f0, DataW.lit (.int .i64 o.f1)) : Lit × DataW H)).filter fun p => !p.1.sameKey (.int .i64 k)) = (delO l k).map fun o => (.int .i64 o.f0, .lit (.int .i64 o.f1)) := by
  rw [List.filter_map]
  congr 1
  unfold delO
  congr 1
  funext o
  show (!Lit.sameKey (.int .i64 o.f0) (.int .i64 k)) = !(o.f0 == k)
  congr 1
  rw [Bool.eq_iff_iff]
  simp [Lit.sameKey]
theorem AM_ins (x : Opn) : ∀ l : List Opn, DataW.insert ((Lit.int .i64 x.f0, DataW.lit (.int .i64 x.f1)) : Lit × DataW H) (l.map fun o => (.int .i64 o.f0, .lit (.int .i64 o.f1))) = (insO x l).map fun o => (.int .i64 o.f0, .lit (.int .i64 o.f1))
  | [] => rfl
  | y :: r => by
    simp only [List.map_cons, DataW.insert, insO, Lit.before, decide_eq_true_eq]
    split
    · rfl
    · rw [List.map_cons, AM_ins x r]
theorem AM_put (l : List Opn) (x : Opn) : (AM l : DataW H).put (.int .i64 x.f0) (.lit (.int .i64 x.f1)) = AM (putO l x) := by
  unfold AM DataW.put
  simp only
  rw [AM_filter, AM_ins]
  rfl
theorem AM_del (l : List Opn) (k : Int) : (AM l : DataW H).del (.int .i64 k) = AM (delO l k) := by
  unfold AM DataW.del
  simp only
  rw [AM_filter]
end
end Go.Proofs.Ytkcckhlchjmkkaa

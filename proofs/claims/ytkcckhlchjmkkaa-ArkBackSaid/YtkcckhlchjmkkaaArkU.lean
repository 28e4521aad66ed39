/-
 LAYER 35: (*ark.eye).rows, ark.Unpack: contracts that the print takes as given.
-/
import Derived.Test.YtkcckhlchjmkkaaArkP
import Derived.Lib.Hide
import Derived.Outline
set_option linter.unusedVariables false
set_option linter.unusedSimpArgs false
namespace Go.Proofs.Ytkcckhlchjmkkaa
open Go.RowKit Go.Shelf Go.Proofs.YtkcckhlchjmkkaaW.PrintWords Go.Proofs.YtkcckhlchjmkkaaW.PrintMore Go.Proofs.Ytkcckhlchjmkkaa.PArk

/-- The rows that an eye reads, so many yet. -/
def eyeL : Nat → Int → ByteArray → Bool → Int → List (List Vl) → Option (List (List Vl) × ByteArray × Bool)
 | 0, _, _, _, _, _ => none
 | k + 1, n, rest, bad, cols, out =>
  if 0 < n then (if bad = true then some (out, rest, bad) else (ark_eye_take.f rest bad (wrap64 (9 * cols))).bind fun t => (sign_ReadRow.f k t.1).bind fun u => if out.length < 4398046511104 then eyeL k (wrap64 (n - 1)) t.2.1 (t.2.2 || u.2 != 0) cols (out ++ [u.1]) else none)
  else some (out, rest, bad)
def eyeRows (k : Nat) (rest : ByteArray) (bad : Bool) (cols : Int) : Option (List (List Vl) × ByteArray × Bool) := (ark_eye_count.f rest bad).bind fun t => eyeL k t.1 t.2.1 t.2.2 cols []
theorem eyeL_mono : ∀ k n rest bad cols out, LeO (eyeL k n rest bad cols out) (eyeL (k + 1) n rest bad cols out)
 | 0, _, _, _, _, _ => LeO.none _
 | k + 1, n, rest, bad, cols, out => by
  have ih := eyeL_mono k
  show LeO (if 0 < n then _ else _) (if 0 < n then _ else _)
  refine LeO.ite (LeO.ite (LeO.refl _) ?_) (LeO.refl _)
  refine LeO.bind (LeO.refl _) fun t => ?_
  refine LeO.bind (sign_ReadRow.mono _ _) fun u => ?_
  exact LeO.ite (ih _ _ _ _ _) (LeO.none _)
theorem eyeRows_mono (k : Nat) (rest : ByteArray) (bad : Bool) (cols : Int) : LeO (eyeRows k rest bad cols) (eyeRows (k + 1) rest bad cols) :=
 LeO.bind (LeO.refl _) fun t => eyeL_mono _ _ _ _ _ _
theorem infoRow : (Try.prog.info? 138).map (fun i => (i.zero, i.size, i.bytes)) = some (some (.slice none 0 0), 1, 24) := by kernel_rfl
set_option maxRecDepth 100000 in
theorem c_rows (k g : Nat) (rest : ByteArray) (bad : Bool) (cols : Int) (r1 : List (List Vl)) (r2 : ByteArray) (r3 : Bool) (w0 w : World) (hI : IsS163 w0 w g rest bad) (hB : Below w0.heap.size w0 w) (h : eyeRows k rest bad cols = some (r1, r2, r3)) :
  Calls Try.prog 85 #[.pointer (some ⟨g, 0, none⟩), .int .i64 cols] w fun e w' => ∃ v, e = .returned v ∧ Kd.R (Kd.slice 140 k140) 138 w' w.heap.size (fun k => k ≠ g) v r1 ∧ IsS163 w0 w' g r2 r3 ∧ Below w0.heap.size w0 w' ∧ KeepBut w w' g none := by
 unfold eyeRows at h
 obtain ⟨⟨n, rest0, bad0⟩, h0, h⟩ := Option.bind_eq_some_iff.mp h
 have HG : Hid (g < w.heap.size) := blk_lt hI.1
 have HI := Lib.hid hI
 have HB := Lib.hid hB
 have H0 := Lib.hid h0
 have H := Lib.hid h
 clear hI hB h0 h
 go_enter Try.func85, Try.ntmps85
 go_wp2_with fail
 refine (ark_eye_count.calls g rest bad n rest0 bad0 w0 _ HI.out HB.out H0.out).mono ?_
 rintro e w1 ⟨rfl, hi, hb, hk⟩
 have HI1 := Lib.hid hi
 have HB1 := Lib.hid hb
 have HK1 := Lib.hid hk
 clear hi hb hk HI HB H0
 go_wp2
 go_loopg [4, 5] k (fun kq v4 v5 wr => ∃ (n : Int) (out : List (List Vl)) (rest : ByteArray) (bad : Bool), v5 = .int .i64 n ∧ Hid (eyeL kq n rest bad cols out = some (r1, r2, r3)) ∧ Hid (kq ≤ k) ∧ Hid (Kd.R (Kd.slice 140 k140) 138 wr w.heap.size (fun k => k ≠ g) v4 out) ∧ Hid (IsS163 w0 wr g rest bad) ∧ Hid (Below w0.heap.size w0 wr) ∧ Hid (KeepBut w wr g none))
 case atStart => exact ⟨n, [], rest0, bad0, rfl, H, Nat.le_refl _, Kd.R_nil _ _ _ _ _, HI1, HB1, HK1⟩
 case round =>
  clear HI1 HB1 HK1 H
  obtain ⟨n, out, rest, bad, rfl, H, HKQ, HO, HI, HB, HK⟩ := hrel
  cases gk with
  | zero => exact absurd H.out (by simp [eyeL])
  | succ k2 =>
   have h := H.out
   clear H
   simp only [eyeL] at h
   by_cases hn : 0 < n
   ·rw [if_pos hn] at h
    have d0 : decide (0 < n) = true := decide_eq_true hn
    have d1 : decide (n > 0) = true := decide_eq_true hn
    clear hn
    cases bad with
    | true =>
     rw [if_pos rfl] at h
     obtain ⟨rfl, rfl, rfl⟩ : out = r1 ∧ rest = r2 ∧ true = r3 := by
      have := Option.some.inj h
      simpa using this
     have cz := (blk_cell HI.out.1 1).trans rfl
     have fz := blk_frozen HI.out.1 1
     go_wp2
     go_ret
     exact ⟨_, rfl, HO.out, HI.out, HB.out, HK.out⟩
    | false =>
     rw [if_neg (by decide)] at h
     obtain ⟨⟨t1, t2, t3⟩, h1, h⟩ := Option.bind_eq_some_iff.mp h
     obtain ⟨⟨row, err⟩, h2, h⟩ := Option.bind_eq_some_iff.mp h
     simp only at h
     by_cases hl : out.length < 4398046511104
     ·rw [if_pos hl] at h
      have HL := Lib.hid hl
      have H1 := Lib.hid h1
      have H2 := Lib.hid h2
      have H := Lib.hid h
      have cz := (blk_cell HI.out.1 1).trans rfl
      clear hl h1 h2 h
      go_wp2_with fail
      refine (ark_eye_take.calls g rest false (wrap64 (9 * cols)) t1 t2 t3 w0 _ HI.out HB.out H1.out).mono ?_
      rintro e w4 ⟨rfl, hi, hb, hk⟩
      have HO4 := Lib.hid (Kd.R_keep HO.out hk (fun k hk => hk))
      have HI4 := Lib.hid hi
      have HB4 := Lib.hid hb
      have HK4 := Lib.hid (HK.out.trans hk (.inl rfl))
      clear cz hi hb hk HO HI HB HK
      go_wp2_with fail
      refine (sign_ReadRow.calls k2 t1 row err _ H2.out).mono ?_
      rintro e w5 ⟨v0, rfl, ho0, hb⟩
      obtain ⟨Ao, co, rfl⟩ := Kd.R_slice ho0
      have hsz : w.heap.size ≤ w4.heap.size := HK4.out.1
      have HO5 := Lib.hid (Kd.R_drop (Kd.R_elder' HO4.out (Kd.R_base ho0) hb))
      have HI5 := Lib.hid (HI4.out.below hb)
      have HB5 := Lib.hid (below_step HB4.out hb)
      have HK5 := Lib.hid (HK4.out.trans (KeepBut.of_below hb g none) (.inl rfl))
      have HR5 := Lib.hid (Kd.R_apart' (IsS163.apart HI5.out (Kd.R_lower ho0 hsz) (by decide)) (Kd.R_typed HO5.out) (by decide))
      have HS5 : Hid (w.heap.size ≤ w5.heap.size) := HK5.out.1
      have cz := (blk_cell HI5.out.1 1).trans rfl
      have fz := blk_frozen HI5.out.1 1
      clear hb ho0 HO4 HI4 HB4 HK4 hsz
      obtain ⟨b, hbb⟩ : ∃ b : Bool, b = (t3 || err != 0) := ⟨_, rfl⟩
      rw [← hbb] at H
      have e2 : (t3 = true ∧ b = true) ∨ (t3 = false ∧ (err == 0) = true ∧ (err != 0) = false ∧ b = false) ∨ (t3 = false ∧ (err == 0) = false ∧ (err != 0) = true ∧ b = true) := by
       cases t3 with
       | true => exact .inl ⟨rfl, by rw [hbb]; rfl⟩
       | false =>
        by_cases he : err = 0
        ·exact .inr (.inl ⟨rfl, by simp [he], by simp [he], by rw [hbb]; simp [he]⟩)
        ·exact .inr (.inr ⟨rfl, by simp [he], by simp [he], by rw [hbb]; simp [he]⟩)
      clear hbb
      rcases e2 with ⟨rfl, rfl⟩ | ⟨rfl, q1, q2, rfl⟩ | ⟨rfl, q1, q2, rfl⟩
      all_goals
       go_wp2_with (first
        | (at_builtin; go_must (refine Kd.R_append (Kd.slice 140 k140) w.heap.size rfl (.tmp 40) (.tmp 42) 135 138 (.slice none 0 0) 24 rfl Try.underlying135 infoRow rfl (by decide) (by decide) u4 out row [.slice Ao row.length co] (fun k => k ≠ g) _ rfl ?hx (Kd.M_row (Kd.R_set HR5.out HI5.out.1 (by decide) 1 _)) (fun k hk => ⟨hk.1.2, hk.2⟩) (fun k hk => by have := blk_lt HI5.out.1; have hs : w5.heap.size ≤ k := (by simpa using hk); show k ≠ g; omega) (Kd.R_set HO5.out HI5.out.1 (by decide) 1 _) (Below.refl _ _) (by simpa using HS5.out) (by have := HL.out; omega) ?_); (case hx => first | rfl | (rw [show (World.setCell w5 ⟨g, 1, none⟩ _).heap.size = w5.heap.size from by simp]; rfl)); intro v7 w7 ho hb7 hg hat; have HO7 := Lib.hid ho; have HI7 := Lib.hid ((IsS163.set_1 HI5.out _).grown hg (Kd.R_away HO5.out (fun k hk => hk))); have HB7 := Lib.hid (pw_below_grown (below_set HB5.out (IsS163.ge HI5.out)) _ (by have := HB5.out.size; simpa using this) hg (fun k hk => Nat.le_trans (IsS163.ge HI5.out) (by have := Kd.R_base HO5.out k hk; have := HG.out; omega))); have HK7 := Lib.hid ((KeepBut.set_ HK5.out 1 _).trans (KeepBut.of_grown hg g) (Kd.R_base2 HO5.out)); clear ho hb7 hg hat))
       go_roundg k2
       case measure => have := HKQ.out; omega
       case rel => exact ⟨_, _, _, _, rfl, H, Lib.hid (by have := HKQ.out; omega), HO7, HI7, HB7, HK7⟩
     ·rw [if_neg hl] at h
      cases h
   ·rw [if_neg hn] at h
    have d0 : decide (0 < n) = false := decide_eq_false hn
    have d1 : decide (n > 0) = false := decide_eq_false hn
    obtain ⟨rfl, rfl, rfl⟩ : out = r1 ∧ rest = r2 ∧ bad = r3 := by
     have := Option.some.inj h
     simpa using this
    clear hn
    go_wp2
    go_ret
    exact ⟨_, rfl, HO.out, HI.out, HB.out, HK.out⟩

/-- All tables' rows. -/
def unpL (k : Nat) : List S134 → ByteArray → Bool → List (List (List Vl)) → Option (List (List (List Vl)) × ByteArray × Bool)
 | [], rest, bad, out => some (out, rest, bad)
 | t :: T, rest, bad, out => (eyeRows k rest bad t.f0.length).bind fun u => if out.length < 4398046511104 then unpL k T u.2.1 u.2.2 (out ++ [u.1]) else none
theorem unpL_mono (k : Nat) : ∀ T rest bad out, LeO (unpL k T rest bad out) (unpL (k + 1) T rest bad out)
 | [], _, _, _ => LeO.refl _
 | t :: T, rest, bad, out => LeO.bind (eyeRows_mono _ _ _ _) fun u => LeO.ite (unpL_mono k T _ _ _) (LeO.none _)
theorem infoTab : (Try.prog.info? 135).map (fun i => (i.zero, i.size, i.bytes)) = some (some (.slice none 0 0), 1, 24) := by kernel_rfl
/-- Bytes that are no tables' at once. -/
theorem c_UnpackN (k : Nat) (A0_0 : Option Addr) (c0_0 : Nat) (l0_0 : List S134) (A0_1 : Option Addr) (c0_1 : Nat) (l0_1 : List S137) (s t : ByteArray) (ok : Bool) (w : World) (hr0_0 : Kd.C k134 w A0_0 l0_0.length l0_0) (hc0_0 : l0_0.length ≤ c0_0) (hr0_1 : Kd.C k137 w A0_1 l0_1.length l0_1) (hc0_1 : l0_1.length ≤ c0_1) (ho : crc_Open.f k s = some (t, ok)) (hg : ok = false ∨ ok = true ∧ plan_Good.f l0_0 l0_1 = some false) :
  Calls Try.prog 40 #[.agg #[.slice A0_0 l0_0.length c0_0, .slice A0_1 l0_1.length c0_1], .string s] w fun e w' => ∃ v0_ : Value, e = .returned (.tuple #[v0_, .int .i64 3]) ∧ Kd.R (Kd.slice 138 (Kd.slice 140 k140)) 135 w' w.heap.size (fun _ => True) v0_ [] ∧ Below w.heap.size w w' := by
 have HR0_0 := Lib.hid hr0_0
 have HR0_1 := Lib.hid hr0_1
 have HC0 := Lib.hid hc0_0
 have HC1 := Lib.hid hc0_1
 have HO := Lib.hid ho
 clear hr0_0 hr0_1 hc0_0 hc0_1 ho
 have hB : Hid (Below w.heap.size w (w.alloc (.cells #[.slice A0_0 l0_0.length c0_0, .slice A0_1 l0_1.length c0_1] 79))) := below_alloc (Below.refl _ _) _
 have K0 := Lib.hid (heap_alloc_new w (.cells #[.slice A0_0 l0_0.length c0_0, .slice A0_1 l0_1.length c0_1] 79))
 go_enter Try.func40, Try.ntmps40
 go_wp2_with fail
 refine (crc_Open.calls k s t ok _ HO.out).mono ?_
 rintro e w1 ⟨rfl, hb⟩
 have HB := Lib.hid (below_step hB.out hb)
 have K1 := Lib.hid (blk_below K0.out hb)
 have c0 := (blk_cell K1.out 0).trans rfl
 have c1 := (blk_cell K1.out 1).trans rfl
 clear hb K0 hB
 rcases hg with rfl | ⟨rfl, hg⟩
 ·go_wp2
  go_ret2
  exact ⟨_, rfl, Kd.R_nil _ _ _ _ _, HB.out⟩
 ·have HG := Lib.hid hg
  clear hg
  go_wp2_with fail
  refine (plan_Good.calls _ _ l0_0 _ _ l0_1 false _ (Kd.C_below HR0_0.out HB.out) HC0.out (Kd.C_below HR0_1.out HB.out) HC1.out HG.out).mono ?_
  rintro e w2 ⟨rfl, hb⟩
  have HB2 := Lib.hid (below_step HB.out hb)
  clear hb
  go_wp2
  go_ret2
  exact ⟨_, rfl, Kd.R_nil _ _ _ _ _, HB2.out⟩

/-- How it ends. -/
def unpEnd (k : Nat) (T : List S134) (V : List S137) (u : List (List (List Vl)) × ByteArray × Bool) : Option (List (List (List Vl)) × Int) :=
 if u.2.2 = true then some ([], 3) else if u.2.1.toList = ([] : List UInt8) then (ark_isGood.f k T V u.1).bind fun g => if g = true then some (u.1, 0) else some ([], 3) else some ([], 3)
set_option maxRecDepth 100000 in
theorem c_UnpackG (k : Nat) (A0_0 : Option Addr) (c0_0 : Nat) (l0_0 : List S134) (A0_1 : Option Addr) (c0_1 : Nat) (l0_1 : List S137) (s t : ByteArray) (u : List (List (List Vl)) × ByteArray × Bool) (r1 : List (List (List Vl))) (r2 : Int) (w : World) (hr0_0 : Kd.C k134 w A0_0 l0_0.length l0_0) (hc0_0 : l0_0.length ≤ c0_0) (hr0_1 : Kd.C k137 w A0_1 l0_1.length l0_1) (hc0_1 : l0_1.length ≤ c0_1) (ho : crc_Open.f k s = some (t, true)) (hg : plan_Good.f l0_0 l0_1 = some true) (hu : unpL k l0_0 t false [] = some u) (he : unpEnd k l0_0 l0_1 u = some (r1, r2)) :
  Calls Try.prog 40 #[.agg #[.slice A0_0 l0_0.length c0_0, .slice A0_1 l0_1.length c0_1], .string s] w fun e w' => ∃ v0_ : Value, e = .returned (.tuple #[v0_, .int .i64 r2]) ∧ Kd.R (Kd.slice 138 (Kd.slice 140 k140)) 135 w' w.heap.size (fun _ => True) v0_ r1 ∧ Below w.heap.size w w' := by
 have hml := hr0_0.2.1
 have HR0_0 := Lib.hid hr0_0
 have HR0_1 := Lib.hid hr0_1
 have HC0 := Lib.hid hc0_0
 have HC1 := Lib.hid hc0_1
 have HO := Lib.hid ho
 have HG := Lib.hid hg
 have HU := Lib.hid hu
 have HE := Lib.hid he
 clear hr0_0 hr0_1 hc0_0 hc0_1 ho hg hu he
 have hB : Hid (Below w.heap.size w (w.alloc (.cells #[.slice A0_0 l0_0.length c0_0, .slice A0_1 l0_1.length c0_1] 79))) := below_alloc (Below.refl _ _) _
 have K0 := Lib.hid (heap_alloc_new w (.cells #[.slice A0_0 l0_0.length c0_0, .slice A0_1 l0_1.length c0_1] 79))
 go_enter Try.func40, Try.ntmps40
 go_wp2_with fail
 refine (crc_Open.calls k s t true _ HO.out).mono ?_
 rintro e w1 ⟨rfl, hb⟩
 have HB := Lib.hid (below_step hB.out hb)
 have K1 := Lib.hid (blk_below K0.out hb)
 have c0 := (blk_cell K1.out 0).trans rfl
 have c1 := (blk_cell K1.out 1).trans rfl
 clear hb K0 hB
 go_wp2_with fail
 refine (plan_Good.calls _ _ l0_0 _ _ l0_1 true _ (Kd.C_below HR0_0.out HB.out) HC0.out (Kd.C_below HR0_1.out HB.out) HC1.out HG.out).mono ?_
 rintro e w2 ⟨rfl, hb⟩
 have HB2 := Lib.hid (below_step HB.out hb)
 have K2 := Lib.hid (blk_below K1.out hb)
 clear hb HB K1 c0 c1
 have HI2 : Hid (IsS163 w (w2.alloc (.cells #[.string t, .bool false] 163)) w2.heap.size t false) := ⟨heap_alloc_new w2 _, HB2.out.size⟩
 have HB3 := Lib.hid (below_alloc HB2.out (.cells #[.string t, .bool false] 163))
 have K3 := Lib.hid (blk_alloc K2.out (.cells #[.string t, .bool false] 163))
 have HN : Hid (w.heap.size ≠ w2.heap.size) := by have := blk_lt K2.out; show _ ≠ _; omega
 have HW : Hid (w.heap.size ≤ w2.heap.size) := HB2.out.size
 have c0 := (blk_cell K3.out 0).trans rfl
 have c1 := (blk_cell K3.out 1).trans rfl
 have hinit : unpL k (l0_0.drop 0) t false [] = some u := HU.out
 have HU0 := Lib.hid hinit
 go_wp2
 clear hinit HU c0 c1 K2 HB2
 generalize w2.heap.size = ge at *
 generalize w2.alloc (.cells #[.string t, .bool false] 163) = w3 at *
 go_loopw [9, 30] (fun v9 v30 wr => ∃ (i : Nat) (out : List (List (List Vl))) (rest : ByteArray) (bad : Bool), i ≤ l0_0.length ∧ v30 = .int .i64 i ∧ Hid (unpL k (l0_0.drop i) rest bad out = some u) ∧ Hid (Kd.R (Kd.slice 138 (Kd.slice 140 k140)) 135 wr w.heap.size (fun k => k ≠ ge) v9 out) ∧ Hid (IsS163 w wr ge rest bad) ∧ Hid (Below w.heap.size w wr) ∧ Hid (wr.heap[w.heap.size]? = some (.cells #[.slice A0_0 l0_0.length c0_0, .slice A0_1 l0_1.length c0_1] 79))) (fun _ v _ => l0_0.length - (intOf v).toNat)
 case atStart => exact ⟨0, [], t, false, by omega, rfl, HU0, Kd.R_nil _ _ _ _ _, HI2, HB3, K3⟩
 case round =>
  clear HU0 HI2 HB3 K3
  obtain ⟨i, out, rest, bad, hi, rfl, HU, HO, HI, HB, K⟩ := hrel
  by_cases hlt : i < l0_0.length
  ·obtain ⟨ad, A2, c2, rfl, y0, hl2, hr2⟩ := at_T134 HR0_0.out i (by omega) (by omega)
   simp only [Int.toNat_natCast] at y0
   replace y0 := (HB.out.cell (World.block_lt_of_cell? w _ y0)).trans y0
   have hdr : l0_0.drop i = rd_T134 l0_0 i :: l0_0.drop (i + 1) := by
    rw [List.drop_eq_getElem_cons hlt]
    show _ = l0_0.getD i _ :: _
    rw [List.getD_eq_getElem?_getD, List.getElem?_eq_getElem hlt]
    rfl
   have hu := HU.out
   rw [hdr] at hu
   generalize rd_T134 l0_0 i = tb at *
   obtain ⟨⟨rows, rest2, bad2⟩, h1, hu⟩ := Option.bind_eq_some_iff.mp hu
   by_cases hl : out.length < 4398046511104
   ·rw [if_pos hl] at hu
    have HL := Lib.hid hl
    have HU2 := Lib.hid hu
    have H1 := Lib.hid h1
    have HLT := Lib.hid hlt
    have W1 : wrap64 ((i : Int) + 1) = i + 1 := by unfold wrap64; omega
    clear hl hu h1 hdr HU hl2 hr2
    go_wp2_with fail
    refine (c_rows k ge rest bad tb.f0.length rows rest2 bad2 w _ (HI.out.alloc _) (below_alloc HB.out _) H1.out).mono ?_
    rintro e w4 ⟨v0, rfl, ho0, hi4, hb4, hk4⟩
    obtain ⟨Ao, co, rfl⟩ := Kd.R_slice ho0
    have hsz : w.heap.size ≤ (wr.alloc (.cells #[.slice A2 tb.f0.length c2] 134)).heap.size := (below_alloc HB.out _).size
    have HO4 := Lib.hid (Kd.R_keep (Kd.R_alloc HO.out (.cells #[.slice A2 tb.f0.length c2] 134)) hk4 (fun k hk => hk))
    have HI4 := Lib.hid hi4
    have HB4 := Lib.hid hb4
    have K4 := Lib.hid (KeepBut.blk hk4 (blk_alloc K.out (.cells #[.slice A2 tb.f0.length c2] 134)) HN.out (by simp))
    have HR4 := Lib.hid (Kd.R_apart' (Kd.R_lower ho0 hsz) (Kd.R_typed HO4.out) (by decide))
    have HS4 : Hid (w.heap.size ≤ w4.heap.size) := HB4.out.size
    clear ho0 hi4 hb4 hk4 hsz HO HI HB K y0
    go_wp2_with (first
     | (at_builtin; go_must (refine Kd.R_append (Kd.slice 138 (Kd.slice 140 k140)) w.heap.size rfl (.tmp 34) (.tmp 40) 80 135 (.slice none 0 0) 24 rfl Try.underlying80 infoTab rfl (by decide) (by decide) u9 out rows [.slice Ao rows.length co] (fun k => k ≠ ge) _ rfl rfl (Kd.M_row HR4.out) (fun k hk => hk) (fun k hk => by have := blk_lt HI4.out.1; show k ≠ ge; omega) HO4.out HB4.out HS4.out (by have := HL.out; omega) ?_); intro v7 w7 ho hb7 hg hat; have HO7 := Lib.hid ho; have HI7 := Lib.hid (HI4.out.grown hg (Kd.R_away HO4.out (fun k hk => hk))); have HB7 := Lib.hid hb7; have K7 := Lib.hid (blk_grown K4.out hg (Kd.R_ne HO4.out K4.out (by decide))); clear ho hb7 hg hat))
    go_roundw
    case rel =>
     try rw [W1]
     exact ⟨i + 1, _, _, _, HLT.out, by rw [Int.natCast_succ], HU2, HO7, HI7, HB7, K7⟩
    case measure =>
     try rw [W1]
     show l0_0.length - ((i : Int) + 1).toNat < l0_0.length - (i : Int).toNat
     have := HLT.out
     omega
   ·rw [if_neg hl] at hu
    cases hu
  ·have hil : i = l0_0.length := by omega
   subst hil
   have hu := HU.out
   rw [List.drop_length] at hu
   obtain rfl : (out, rest, bad) = u := Option.some.inj hu
   clear hu HU
   have he := HE.out
   unfold unpEnd at he
   simp only at he
   obtain ⟨Ax, cx, rfl, hcx, hCx⟩ := Kd.R_reads HO.out
   have HX := Lib.hid hcx
   have HCX := Lib.hid hCx
   clear hcx hCx
   have cz0 := (blk_cell HI.out.1 0).trans rfl
   have cz1 := (blk_cell HI.out.1 1).trans rfl
   have c0 := (blk_cell K.out 0).trans rfl
   have c1 := (blk_cell K.out 1).trans rfl
   cases bad with
   | true =>
    rw [if_pos rfl] at he
    obtain ⟨rfl, rfl⟩ := Prod.mk.inj (Option.some.inj he)
    clear he
    go_wp2
    go_ret2
    exact ⟨_, rfl, Kd.R_nil _ _ _ _ _, HB.out⟩
   | false =>
    rw [if_neg (by decide)] at he
    by_cases hr : rest.toList = ([] : List UInt8)
    ·rw [if_pos hr] at he
     have d0 : (rest.toList == ([] : List UInt8)) = true := beq_iff_eq.mpr hr
     have d1 : (rest.toList != ([] : List UInt8)) = false := bne_eq_false_iff_eq.mpr hr
     clear hr
     obtain ⟨g, hgd, he⟩ := Option.bind_eq_some_iff.mp he
     have HGD := Lib.hid hgd
     clear hgd
     cases g with
     | true =>
      rw [if_pos rfl] at he
      obtain ⟨rfl, rfl⟩ := Prod.mk.inj (Option.some.inj he)
      clear he
      go_wp2_with fail
      refine (ark_isGood.calls k _ _ l0_0 _ _ l0_1 _ _ out true _ (Kd.C_below HR0_0.out HB.out) HC0.out (Kd.C_below HR0_1.out HB.out) HC1.out HCX.out HX.out HGD.out).mono ?_
      rintro e w5 ⟨rfl, hb⟩
      have HO5 := Lib.hid (Kd.R_below HO.out hb)
      have HB5 := Lib.hid (below_step HB.out hb)
      clear hb cz0 cz1 c0 c1
      go_wp2
      go_ret2
      exact ⟨_, rfl, Kd.R_mono HO5.out (fun _ _ => trivial), HB5.out⟩
     | false =>
      rw [if_neg (by decide)] at he
      obtain ⟨rfl, rfl⟩ := Prod.mk.inj (Option.some.inj he)
      clear he
      go_wp2_with fail
      refine (ark_isGood.calls k _ _ l0_0 _ _ l0_1 _ _ out false _ (Kd.C_below HR0_0.out HB.out) HC0.out (Kd.C_below HR0_1.out HB.out) HC1.out HCX.out HX.out HGD.out).mono ?_
      rintro e w5 ⟨rfl, hb⟩
      have HB5 := Lib.hid (below_step HB.out hb)
      clear hb cz0 cz1 c0 c1
      go_wp2
      go_ret2
      exact ⟨_, rfl, Kd.R_nil _ _ _ _ _, HB5.out⟩
    ·rw [if_neg hr] at he
     have d0 : (rest.toList == ([] : List UInt8)) = false := beq_eq_false_iff_ne.mpr hr
     have d1 : (rest.toList != ([] : List UInt8)) = true := bne_iff_ne.mpr hr
     clear hr
     obtain ⟨rfl, rfl⟩ := Prod.mk.inj (Option.some.inj he)
     clear he
     go_wp2
     go_ret2
     exact ⟨_, rfl, Kd.R_nil _ _ _ _ _, HB.out⟩
namespace PArk
def ark_Unpack.f (k : Nat) (l0_0 : List S134) (l0_1 : List S137) (a1 : ByteArray) : Option (List (List (List S140)) × Int) :=
 (crc_Open.f k a1).bind fun o => if o.2 = true then (plan_Good.f l0_0 l0_1).bind fun b => if b = true then (unpL k l0_0 o.1 false []).bind fun u => unpEnd k l0_0 l0_1 u else some ([], 3) else some ([], 3)
theorem ark_Unpack.mono : ∀ a0 a1 a2 k, LeO (ark_Unpack.f k a0 a1 a2) (ark_Unpack.f (k + 1) a0 a1 a2) := by
 intro a0 a1 a2 k
 unfold ark_Unpack.f
 refine LeO.bind (crc_Open.mono _ _) fun o => ?_
 refine LeO.ite ?_ (LeO.refl _)
 refine LeO.bind (LeO.refl _) fun b => ?_
 refine LeO.ite ?_ (LeO.refl _)
 refine LeO.bind (unpL_mono _ _ _ _ _) fun u => ?_
 unfold unpEnd
 refine LeO.ite (LeO.refl _) (LeO.ite ?_ (LeO.refl _))
 exact LeO.bind (ark_isGood.mono _ _ _ _) fun g => LeO.refl _
theorem ark_Unpack.calls (k : Nat) (A0_0 : Option Addr) (c0_0 : Nat) (l0_0 : List S134) (A0_1 : Option Addr) (c0_1 : Nat) (l0_1 : List S137) (a1 : ByteArray) (r1 : List (List (List S140))) (r2 : Int) (w : World) (hr0_0 : Kd.C k134 w A0_0 l0_0.length l0_0) (hc0_0 : l0_0.length ≤ c0_0) (hr0_1 : Kd.C k137 w A0_1 l0_1.length l0_1) (hc0_1 : l0_1.length ≤ c0_1) (h : ark_Unpack.f k l0_0 l0_1 a1 = some (r1, r2)) :
  Calls Try.prog 40 #[.agg #[.slice A0_0 l0_0.length c0_0, .slice A0_1 l0_1.length c0_1], .string a1] w fun e w' => ∃ v0_ : Value, e = .returned (.tuple #[v0_, .int .i64 r2]) ∧ Kd.R (Kd.slice 138 (Kd.slice 140 k140)) 135 w' w.heap.size (fun _ => True) v0_ r1 ∧ Below w.heap.size w w' := by
 unfold ark_Unpack.f at h
 obtain ⟨⟨t, ok⟩, ho, h⟩ := Option.bind_eq_some_iff.mp h
 cases ok with
 | false =>
  rw [if_neg (by simp)] at h
  obtain ⟨rfl, rfl⟩ := Prod.mk.inj (Option.some.inj h)
  exact c_UnpackN k A0_0 c0_0 l0_0 A0_1 c0_1 l0_1 a1 t false w hr0_0 hc0_0 hr0_1 hc0_1 ho (.inl rfl)
 | true =>
  rw [if_pos rfl] at h
  obtain ⟨b, hg, h⟩ := Option.bind_eq_some_iff.mp h
  cases b with
  | false =>
   rw [if_neg (by decide)] at h
   obtain ⟨rfl, rfl⟩ := Prod.mk.inj (Option.some.inj h)
   exact c_UnpackN k A0_0 c0_0 l0_0 A0_1 c0_1 l0_1 a1 t true w hr0_0 hc0_0 hr0_1 hc0_1 ho (.inr ⟨rfl, hg⟩)
  | true =>
   rw [if_pos rfl] at h
   obtain ⟨u, hu, h⟩ := Option.bind_eq_some_iff.mp h
   exact c_UnpackG k A0_0 c0_0 l0_0 A0_1 c0_1 l0_1 a1 t u r1 r2 w hr0_0 hc0_0 hr0_1 hc0_1 ho hg hu h
end PArk
end Go.Proofs.Ytkcckhlchjmkkaa

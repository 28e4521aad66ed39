/-
  'gauger's law ArkExact holds of every input: it returns true, and each argument reads behind the call as it read before.
  This text: part 9 of 19 of the proof (ArkU, ArkM, ArkI, ArkW).
-/
import Derived.Test.YtfkkeddjfiljfaaMah
import Derived.Lib.Hide
import Derived.Outline
import Derived.Test.YtfkkeddjfiljfaaMad
set_option linter.unusedVariables false
set_option linter.unusedSimpArgs false
namespace Go.Proofs.Ytfkkeddjfiljfaa
open Go.RowKit Go.Shelf Go.Proofs.YtfkkeddjfiljfaaW.PrintWords Go.Proofs.YtfkkeddjfiljfaaW.PrintMore Go.Proofs.Ytfkkeddjfiljfaa.PArk
def eyeL : Nat → Int → ByteArray → Bool → Int → List (List Vl) → Option (List (List Vl) × ByteArray × Bool)
 | 0, _, _, _, _, _ => none
 | k + 1, n, rest, bad, cols, out =>
  if 0 < n then (if bad = true then some (out, rest, bad) else (ark_eye_take.f rest bad (wrap64 (9 * cols))).bind fun t => (sign_ReadRow.f k t.1).bind fun u => if out.length < 4398046511104 then eyeL k (wrap64 (n - 1)) t.2.1 (t.2.2 || u.2 != 0) cols (out ++ [u.1]) else none)
  else some (out, rest, bad)
def eyeRows (k : Nat) (rest : ByteArray) (bad : Bool) (cols : Int) : Option (List (List Vl) × ByteArray × Bool) := (ark_eye_count.f rest bad).bind fun t => eyeL k t.1 t.2.1 t.2.2 cols []
theorem eyeL_mono : ∀ k n rest bad cols out, LeO (eyeL k n rest bad cols out) (eyeL (k + 1) n rest bad cols out)
 | 0, _, _, _, _, _ => LeO.none _
 | k + 1, n, rest, bad, cols, out => by
  have ih := eyeL_mono k
  show LeO (if 0 < n then _ else _) (if 0 < n then _ else _)
  refine LeO.ite (LeO.ite (LeO.refl _) ?_) (LeO.refl _)
  refine LeO.bind (LeO.refl _) fun t => ?_
  refine LeO.bind (sign_ReadRow.mono _ _) fun u => ?_
  exact LeO.ite (ih _ _ _ _ _) (LeO.none _)
theorem eyeRows_mono (k : Nat) (rest : ByteArray) (bad : Bool) (cols : Int) : LeO (eyeRows k rest bad cols) (eyeRows (k + 1) rest bad cols) :=
 LeO.bind (LeO.refl _) fun t => eyeL_mono _ _ _ _ _ _
theorem infoRow : (Try.prog.info? 45).map (fun i => (i.zero, i.size, i.bytes)) = some (some (.slice none 0 0), 1, 24) := by kernel_rfl
set_option maxRecDepth 100000 in
theorem c_rows (k g : Nat) (rest : ByteArray) (bad : Bool) (cols : Int) (r1 : List (List Vl)) (r2 : ByteArray) (r3 : Bool) (w0 w : World) (hI : IsS72 w0 w g rest bad) (hB : Below w0.heap.size w0 w) (h : eyeRows k rest bad cols = some (r1, r2, r3)) :
  Calls Try.prog 26 #[.pointer (some ⟨g, 0, none⟩), .int .i64 cols] w fun e w' => ∃ v, e = .returned v ∧ Kd.R (Kd.slice 47 k47) 45 w' w.heap.size (fun k => k ≠ g) v r1 ∧ IsS72 w0 w' g r2 r3 ∧ Below w0.heap.size w0 w' ∧ KeepBut w w' g none := by
 unfold eyeRows at h
 obtain ⟨⟨n, rest0, bad0⟩, h0, h⟩ := Option.bind_eq_some_iff.mp h
 have HG : Hid (g < w.heap.size) := blk_lt hI.1
 have HI := Lib.hid hI
 have HB := Lib.hid hB
 have H0 := Lib.hid h0
 have H := Lib.hid h
 clear hI hB h0 h
 go_enter Try.func26, Try.ntmps26
 go_wp2_with fail
 refine (ark_eye_count.calls g rest bad n rest0 bad0 w0 _ HI.out HB.out H0.out).mono ?_
 rintro e w1 ⟨rfl, hi, hb, hk⟩
 have HI1 := Lib.hid hi
 have HB1 := Lib.hid hb
 have HK1 := Lib.hid hk
 clear hi hb hk HI HB H0
 go_wp2
 go_loopg [4, 5] k (fun kq v4 v5 wr => ∃ (n : Int) (out : List (List Vl)) (rest : ByteArray) (bad : Bool), v5 = .int .i64 n ∧ Hid (eyeL kq n rest bad cols out = some (r1, r2, r3)) ∧ Hid (kq ≤ k) ∧ Hid (Kd.R (Kd.slice 47 k47) 45 wr w.heap.size (fun k => k ≠ g) v4 out) ∧ Hid (IsS72 w0 wr g rest bad) ∧ Hid (Below w0.heap.size w0 wr) ∧ Hid (KeepBut w wr g none))
 case atStart => exact ⟨n, [], rest0, bad0, rfl, H, Nat.le_refl _, Kd.R_nil _ _ _ _ _, HI1, HB1, HK1⟩
 case round =>
  clear HI1 HB1 HK1 H
  obtain ⟨n, out, rest, bad, rfl, H, HKQ, HO, HI, HB, HK⟩ := hrel
  cases gk with
  | zero => exact absurd H.out (by simp [eyeL])
  | succ k2 =>
   have h := H.out
   clear H
   simp only [eyeL] at h
   by_cases hn : 0 < n
   ·rw [if_pos hn] at h
    have d0 : decide (0 < n) = true := decide_eq_true hn
    have d1 : decide (n > 0) = true := decide_eq_true hn
    clear hn
    cases bad with
    | true =>
     rw [if_pos rfl] at h
     obtain ⟨rfl, rfl, rfl⟩ : out = r1 ∧ rest = r2 ∧ true = r3 := by
      have := Option.some.inj h
      simpa using this
     have cz := (blk_cell HI.out.1 1).trans rfl
     have fz := blk_frozen HI.out.1 1
     go_wp2
     go_ret
     exact ⟨_, rfl, HO.out, HI.out, HB.out, HK.out⟩
    | false =>
     rw [if_neg (by decide)] at h
     obtain ⟨⟨t1, t2, t3⟩, h1, h⟩ := Option.bind_eq_some_iff.mp h
     obtain ⟨⟨row, err⟩, h2, h⟩ := Option.bind_eq_some_iff.mp h
     simp only at h
     by_cases hl : out.length < 4398046511104
     ·rw [if_pos hl] at h
      have HL := Lib.hid hl
      have H1 := Lib.hid h1
      have H2 := Lib.hid h2
      have H := Lib.hid h
      have cz := (blk_cell HI.out.1 1).trans rfl
      clear hl h1 h2 h
      go_wp2_with fail
      refine (ark_eye_take.calls g rest false (wrap64 (9 * cols)) t1 t2 t3 w0 _ HI.out HB.out H1.out).mono ?_
      rintro e w4 ⟨rfl, hi, hb, hk⟩
      have HO4 := Lib.hid (Kd.R_keep HO.out hk (fun k hk => hk))
      have HI4 := Lib.hid hi
      have HB4 := Lib.hid hb
      have HK4 := Lib.hid (HK.out.trans hk (.inl rfl))
      clear cz hi hb hk HO HI HB HK
      go_wp2_with fail
      refine (sign_ReadRow.calls k2 t1 row err _ H2.out).mono ?_
      rintro e w5 ⟨v0, rfl, ho0, hb⟩
      obtain ⟨Ao, co, rfl⟩ := Kd.R_slice ho0
      have hsz : w.heap.size ≤ w4.heap.size := HK4.out.1
      have HO5 := Lib.hid (Kd.R_drop (Kd.R_elder' HO4.out (Kd.R_base ho0) hb))
      have HI5 := Lib.hid (HI4.out.below hb)
      have HB5 := Lib.hid (below_step HB4.out hb)
      have HK5 := Lib.hid (HK4.out.trans (KeepBut.of_below hb g none) (.inl rfl))
      have HR5 := Lib.hid (Kd.R_apart' (IsS72.apart HI5.out (Kd.R_lower ho0 hsz) (by decide)) (Kd.R_typed HO5.out) (by decide))
      have HS5 : Hid (w.heap.size ≤ w5.heap.size) := HK5.out.1
      have cz := (blk_cell HI5.out.1 1).trans rfl
      have fz := blk_frozen HI5.out.1 1
      clear hb ho0 HO4 HI4 HB4 HK4 hsz
      obtain ⟨b, hbb⟩ : ∃ b : Bool, b = (t3 || err != 0) := ⟨_, rfl⟩
      rw [← hbb] at H
      have e2 : (t3 = true ∧ b = true) ∨ (t3 = false ∧ (err == 0) = true ∧ (err != 0) = false ∧ b = false) ∨ (t3 = false ∧ (err == 0) = false ∧ (err != 0) = true ∧ b = true) := by
       cases t3 with
       | true => exact .inl ⟨rfl, by rw [hbb]; rfl⟩
       | false =>
        by_cases he : err = 0
        ·exact .inr (.inl ⟨rfl, by simp [he], by simp [he], by rw [hbb]; simp [he]⟩)
        ·exact .inr (.inr ⟨rfl, by simp [he], by simp [he], by rw [hbb]; simp [he]⟩)
      clear hbb
      rcases e2 with ⟨rfl, rfl⟩ | ⟨rfl, q1, q2, rfl⟩ | ⟨rfl, q1, q2, rfl⟩
      all_goals
       go_wp2_with (first
        | (at_builtin; go_must (refine Kd.R_append (Kd.slice 47 k47) w.heap.size rfl (.tmp 40) (.tmp 42) 42 45 (.slice none 0 0) 24 rfl Try.underlying42 infoRow rfl (by decide) (by decide) u4 out row [.slice Ao row.length co] (fun k => k ≠ g) _ rfl ?hx (Kd.M_row (Kd.R_set HR5.out HI5.out.1 (by decide) 1 _)) (fun k hk => ⟨hk.1.2, hk.2⟩) (fun k hk => by have := blk_lt HI5.out.1; have hs : w5.heap.size ≤ k := (by simpa using hk); show k ≠ g; omega) (Kd.R_set HO5.out HI5.out.1 (by decide) 1 _) (Below.refl _ _) (by simpa using HS5.out) (by have := HL.out; omega) ?_); (case hx => first | rfl | (rw [show (World.setCell w5 ⟨g, 1, none⟩ _).heap.size = w5.heap.size from by simp]; rfl)); intro v7 w7 ho hb7 hg hat; have HO7 := Lib.hid ho; have HI7 := Lib.hid ((IsS72.set_1 HI5.out _).grown hg (Kd.R_away HO5.out (fun k hk => hk))); have HB7 := Lib.hid (pw_below_grown (below_set HB5.out (IsS72.ge HI5.out)) _ (by have := HB5.out.size; simpa using this) hg (fun k hk => Nat.le_trans (IsS72.ge HI5.out) (by have := Kd.R_base HO5.out k hk; have := HG.out; omega))); have HK7 := Lib.hid ((KeepBut.set_ HK5.out 1 _).trans (KeepBut.of_grown hg g) (Kd.R_base2 HO5.out)); clear ho hb7 hg hat))
       go_roundg k2
       case measure => have := HKQ.out; omega
       case rel => exact ⟨_, _, _, _, rfl, H, Lib.hid (by have := HKQ.out; omega), HO7, HI7, HB7, HK7⟩
     ·rw [if_neg hl] at h
      cases h
   ·rw [if_neg hn] at h
    have d0 : decide (0 < n) = false := decide_eq_false hn
    have d1 : decide (n > 0) = false := decide_eq_false hn
    obtain ⟨rfl, rfl, rfl⟩ : out = r1 ∧ rest = r2 ∧ bad = r3 := by
     have := Option.some.inj h
     simpa using this
    clear hn
    go_wp2
    go_ret
    exact ⟨_, rfl, HO.out, HI.out, HB.out, HK.out⟩
def unpL (k : Nat) : List S41 → ByteArray → Bool → List (List (List Vl)) → Option (List (List (List Vl)) × ByteArray × Bool)
 | [], rest, bad, out => some (out, rest, bad)
 | t :: T, rest, bad, out => (eyeRows k rest bad t.f0.length).bind fun u => if out.length < 4398046511104 then unpL k T u.2.1 u.2.2 (out ++ [u.1]) else none
theorem unpL_mono (k : Nat) : ∀ T rest bad out, LeO (unpL k T rest bad out) (unpL (k + 1) T rest bad out)
 | [], _, _, _ => LeO.refl _
 | t :: T, rest, bad, out => LeO.bind (eyeRows_mono _ _ _ _) fun u => LeO.ite (unpL_mono k T _ _ _) (LeO.none _)
theorem infoTab : (Try.prog.info? 42).map (fun i => (i.zero, i.size, i.bytes)) = some (some (.slice none 0 0), 1, 24) := by kernel_rfl
theorem c_UnpackN (k : Nat) (A0_0 : Option Addr) (c0_0 : Nat) (l0_0 : List S41) (A0_1 : Option Addr) (c0_1 : Nat) (l0_1 : List S44) (s t : ByteArray) (ok : Bool) (w : World) (hr0_0 : Kd.C k41 w A0_0 l0_0.length l0_0) (hc0_0 : l0_0.length ≤ c0_0) (hr0_1 : Kd.C k44 w A0_1 l0_1.length l0_1) (hc0_1 : l0_1.length ≤ c0_1) (ho : crc_Open.f k s = some (t, ok)) (hg : ok = false ∨ ok = true ∧ plan_Good.f l0_0 l0_1 = some false) :
  Calls Try.prog 9 #[.agg #[.slice A0_0 l0_0.length c0_0, .slice A0_1 l0_1.length c0_1], .string s] w fun e w' => ∃ v0_ : Value, e = .returned (.tuple #[v0_, .int .i64 3]) ∧ Kd.R (Kd.slice 45 (Kd.slice 47 k47)) 42 w' w.heap.size (fun _ => True) v0_ [] ∧ Below w.heap.size w w' := by
 have HR0_0 := Lib.hid hr0_0
 have HR0_1 := Lib.hid hr0_1
 have HC0 := Lib.hid hc0_0
 have HC1 := Lib.hid hc0_1
 have HO := Lib.hid ho
 clear hr0_0 hr0_1 hc0_0 hc0_1 ho
 have hB : Hid (Below w.heap.size w (w.alloc (.cells #[.slice A0_0 l0_0.length c0_0, .slice A0_1 l0_1.length c0_1] 25))) := below_alloc (Below.refl _ _) _
 have K0 := Lib.hid (heap_alloc_new w (.cells #[.slice A0_0 l0_0.length c0_0, .slice A0_1 l0_1.length c0_1] 25))
 go_enter Try.func9, Try.ntmps9
 go_wp2_with fail
 refine (crc_Open.calls k s t ok _ HO.out).mono ?_
 rintro e w1 ⟨rfl, hb⟩
 have HB := Lib.hid (below_step hB.out hb)
 have K1 := Lib.hid (blk_below K0.out hb)
 have c0 := (blk_cell K1.out 0).trans rfl
 have c1 := (blk_cell K1.out 1).trans rfl
 clear hb K0 hB
 rcases hg with rfl | ⟨rfl, hg⟩
 ·go_wp2
  go_ret2
  exact ⟨_, rfl, Kd.R_nil _ _ _ _ _, HB.out⟩
 ·have HG := Lib.hid hg
  clear hg
  go_wp2_with fail
  refine (plan_Good.calls _ _ l0_0 _ _ l0_1 false _ (Kd.C_below HR0_0.out HB.out) HC0.out (Kd.C_below HR0_1.out HB.out) HC1.out HG.out).mono ?_
  rintro e w2 ⟨rfl, hb⟩
  have HB2 := Lib.hid (below_step HB.out hb)
  clear hb
  go_wp2
  go_ret2
  exact ⟨_, rfl, Kd.R_nil _ _ _ _ _, HB2.out⟩
def unpEnd (k : Nat) (T : List S41) (V : List S44) (u : List (List (List Vl)) × ByteArray × Bool) : Option (List (List (List Vl)) × Int) :=
 if u.2.2 = true then some ([], 3) else if u.2.1.toList = ([] : List UInt8) then (ark_isGood.f k T V u.1).bind fun g => if g = true then some (u.1, 0) else some ([], 3) else some ([], 3)
set_option maxRecDepth 100000 in
theorem c_UnpackG (k : Nat) (A0_0 : Option Addr) (c0_0 : Nat) (l0_0 : List S41) (A0_1 : Option Addr) (c0_1 : Nat) (l0_1 : List S44) (s t : ByteArray) (u : List (List (List Vl)) × ByteArray × Bool) (r1 : List (List (List Vl))) (r2 : Int) (w : World) (hr0_0 : Kd.C k41 w A0_0 l0_0.length l0_0) (hc0_0 : l0_0.length ≤ c0_0) (hr0_1 : Kd.C k44 w A0_1 l0_1.length l0_1) (hc0_1 : l0_1.length ≤ c0_1) (ho : crc_Open.f k s = some (t, true)) (hg : plan_Good.f l0_0 l0_1 = some true) (hu : unpL k l0_0 t false [] = some u) (he : unpEnd k l0_0 l0_1 u = some (r1, r2)) :
  Calls Try.prog 9 #[.agg #[.slice A0_0 l0_0.length c0_0, .slice A0_1 l0_1.length c0_1], .string s] w fun e w' => ∃ v0_ : Value, e = .returned (.tuple #[v0_, .int .i64 r2]) ∧ Kd.R (Kd.slice 45 (Kd.slice 47 k47)) 42 w' w.heap.size (fun _ => True) v0_ r1 ∧ Below w.heap.size w w' := by
 have hml := hr0_0.2.1
 have HR0_0 := Lib.hid hr0_0
 have HR0_1 := Lib.hid hr0_1
 have HC0 := Lib.hid hc0_0
 have HC1 := Lib.hid hc0_1
 have HO := Lib.hid ho
 have HG := Lib.hid hg
 have HU := Lib.hid hu
 have HE := Lib.hid he
 clear hr0_0 hr0_1 hc0_0 hc0_1 ho hg hu he
 have hB : Hid (Below w.heap.size w (w.alloc (.cells #[.slice A0_0 l0_0.length c0_0, .slice A0_1 l0_1.length c0_1] 25))) := below_alloc (Below.refl _ _) _
 have K0 := Lib.hid (heap_alloc_new w (.cells #[.slice A0_0 l0_0.length c0_0, .slice A0_1 l0_1.length c0_1] 25))
 go_enter Try.func9, Try.ntmps9
 go_wp2_with fail
 refine (crc_Open.calls k s t true _ HO.out).mono ?_
 rintro e w1 ⟨rfl, hb⟩
 have HB := Lib.hid (below_step hB.out hb)
 have K1 := Lib.hid (blk_below K0.out hb)
 have c0 := (blk_cell K1.out 0).trans rfl
 have c1 := (blk_cell K1.out 1).trans rfl
 clear hb K0 hB
 go_wp2_with fail
 refine (plan_Good.calls _ _ l0_0 _ _ l0_1 true _ (Kd.C_below HR0_0.out HB.out) HC0.out (Kd.C_below HR0_1.out HB.out) HC1.out HG.out).mono ?_
 rintro e w2 ⟨rfl, hb⟩
 have HB2 := Lib.hid (below_step HB.out hb)
 have K2 := Lib.hid (blk_below K1.out hb)
 clear hb HB K1 c0 c1
 have HI2 : Hid (IsS72 w (w2.alloc (.cells #[.string t, .bool false] 72)) w2.heap.size t false) := ⟨heap_alloc_new w2 _, HB2.out.size⟩
 have HB3 := Lib.hid (below_alloc HB2.out (.cells #[.string t, .bool false] 72))
 have K3 := Lib.hid (blk_alloc K2.out (.cells #[.string t, .bool false] 72))
 have HN : Hid (w.heap.size ≠ w2.heap.size) := by have := blk_lt K2.out; show _ ≠ _; omega
 have HW : Hid (w.heap.size ≤ w2.heap.size) := HB2.out.size
 have c0 := (blk_cell K3.out 0).trans rfl
 have c1 := (blk_cell K3.out 1).trans rfl
 have hinit : unpL k (l0_0.drop 0) t false [] = some u := HU.out
 have HU0 := Lib.hid hinit
 go_wp2
 clear hinit HU c0 c1 K2 HB2
 generalize w2.heap.size = ge at *
 generalize w2.alloc (.cells #[.string t, .bool false] 72) = w3 at *
 go_loopw [9, 30] (fun v9 v30 wr => ∃ (i : Nat) (out : List (List (List Vl))) (rest : ByteArray) (bad : Bool), i ≤ l0_0.length ∧ v30 = .int .i64 i ∧ Hid (unpL k (l0_0.drop i) rest bad out = some u) ∧ Hid (Kd.R (Kd.slice 45 (Kd.slice 47 k47)) 42 wr w.heap.size (fun k => k ≠ ge) v9 out) ∧ Hid (IsS72 w wr ge rest bad) ∧ Hid (Below w.heap.size w wr) ∧ Hid (wr.heap[w.heap.size]? = some (.cells #[.slice A0_0 l0_0.length c0_0, .slice A0_1 l0_1.length c0_1] 25))) (fun _ v _ => l0_0.length - (intOf v).toNat)
 case atStart => exact ⟨0, [], t, false, by omega, rfl, HU0, Kd.R_nil _ _ _ _ _, HI2, HB3, K3⟩
 case round =>
  clear HU0 HI2 HB3 K3
  obtain ⟨i, out, rest, bad, hi, rfl, HU, HO, HI, HB, K⟩ := hrel
  by_cases hlt : i < l0_0.length
  ·obtain ⟨ad, A2, c2, rfl, y0, hl2, hr2⟩ := at_T41 HR0_0.out i (by omega) (by omega)
   simp only [Int.toNat_natCast] at y0
   replace y0 := (HB.out.cell (World.block_lt_of_cell? w _ y0)).trans y0
   have hdr : l0_0.drop i = rd_T41 l0_0 i :: l0_0.drop (i + 1) := by
    rw [List.drop_eq_getElem_cons hlt]
    show _ = l0_0.getD i _ :: _
    rw [List.getD_eq_getElem?_getD, List.getElem?_eq_getElem hlt]
    rfl
   have hu := HU.out
   rw [hdr] at hu
   generalize rd_T41 l0_0 i = tb at *
   obtain ⟨⟨rows, rest2, bad2⟩, h1, hu⟩ := Option.bind_eq_some_iff.mp hu
   by_cases hl : out.length < 4398046511104
   ·rw [if_pos hl] at hu
    have HL := Lib.hid hl
    have HU2 := Lib.hid hu
    have H1 := Lib.hid h1
    have HLT := Lib.hid hlt
    have W1 : wrap64 ((i : Int) + 1) = i + 1 := by unfold wrap64; omega
    clear hl hu h1 hdr HU hl2 hr2
    go_wp2_with fail
    refine (c_rows k ge rest bad tb.f0.length rows rest2 bad2 w _ (HI.out.alloc _) (below_alloc HB.out _) H1.out).mono ?_
    rintro e w4 ⟨v0, rfl, ho0, hi4, hb4, hk4⟩
    obtain ⟨Ao, co, rfl⟩ := Kd.R_slice ho0
    have hsz : w.heap.size ≤ (wr.alloc (.cells #[.slice A2 tb.f0.length c2] 41)).heap.size := (below_alloc HB.out _).size
    have HO4 := Lib.hid (Kd.R_keep (Kd.R_alloc HO.out (.cells #[.slice A2 tb.f0.length c2] 41)) hk4 (fun k hk => hk))
    have HI4 := Lib.hid hi4
    have HB4 := Lib.hid hb4
    have K4 := Lib.hid (KeepBut.blk hk4 (blk_alloc K.out (.cells #[.slice A2 tb.f0.length c2] 41)) HN.out (by simp))
    have HR4 := Lib.hid (Kd.R_apart' (Kd.R_lower ho0 hsz) (Kd.R_typed HO4.out) (by decide))
    have HS4 : Hid (w.heap.size ≤ w4.heap.size) := HB4.out.size
    clear ho0 hi4 hb4 hk4 hsz HO HI HB K y0
    go_wp2_with (first
     | (at_builtin; go_must (refine Kd.R_append (Kd.slice 45 (Kd.slice 47 k47)) w.heap.size rfl (.tmp 34) (.tmp 40) 26 42 (.slice none 0 0) 24 rfl Try.underlying26 infoTab rfl (by decide) (by decide) u9 out rows [.slice Ao rows.length co] (fun k => k ≠ ge) _ rfl rfl (Kd.M_row HR4.out) (fun k hk => hk) (fun k hk => by have := blk_lt HI4.out.1; show k ≠ ge; omega) HO4.out HB4.out HS4.out (by have := HL.out; omega) ?_); intro v7 w7 ho hb7 hg hat; have HO7 := Lib.hid ho; have HI7 := Lib.hid (HI4.out.grown hg (Kd.R_away HO4.out (fun k hk => hk))); have HB7 := Lib.hid hb7; have K7 := Lib.hid (blk_grown K4.out hg (Kd.R_ne HO4.out K4.out (by decide))); clear ho hb7 hg hat))
    go_roundw
    case rel =>
     try rw [W1]
     exact ⟨i + 1, _, _, _, HLT.out, by rw [Int.natCast_succ], HU2, HO7, HI7, HB7, K7⟩
    case measure =>
     try rw [W1]
     show l0_0.length - ((i : Int) + 1).toNat < l0_0.length - (i : Int).toNat
     have := HLT.out
     omega
   ·rw [if_neg hl] at hu
    cases hu
  ·have hil : i = l0_0.length := by omega
   subst hil
   have hu := HU.out
   rw [List.drop_length] at hu
   obtain rfl : (out, rest, bad) = u := Option.some.inj hu
   clear hu HU
   have he := HE.out
   unfold unpEnd at he
   simp only at he
   obtain ⟨Ax, cx, rfl, hcx, hCx⟩ := Kd.R_reads HO.out
   have HX := Lib.hid hcx
   have HCX := Lib.hid hCx
   clear hcx hCx
   have cz0 := (blk_cell HI.out.1 0).trans rfl
   have cz1 := (blk_cell HI.out.1 1).trans rfl
   have c0 := (blk_cell K.out 0).trans rfl
   have c1 := (blk_cell K.out 1).trans rfl
   cases bad with
   | true =>
    rw [if_pos rfl] at he
    obtain ⟨rfl, rfl⟩ := Prod.mk.inj (Option.some.inj he)
    clear he
    go_wp2
    go_ret2
    exact ⟨_, rfl, Kd.R_nil _ _ _ _ _, HB.out⟩
   | false =>
    rw [if_neg (by decide)] at he
    by_cases hr : rest.toList = ([] : List UInt8)
    ·rw [if_pos hr] at he
     have d0 : (rest.toList == ([] : List UInt8)) = true := beq_iff_eq.mpr hr
     have d1 : (rest.toList != ([] : List UInt8)) = false := bne_eq_false_iff_eq.mpr hr
     clear hr
     obtain ⟨g, hgd, he⟩ := Option.bind_eq_some_iff.mp he
     have HGD := Lib.hid hgd
     clear hgd
     cases g with
     | true =>
      rw [if_pos rfl] at he
      obtain ⟨rfl, rfl⟩ := Prod.mk.inj (Option.some.inj he)
      clear he
      go_wp2_with fail
      refine (ark_isGood.calls k _ _ l0_0 _ _ l0_1 _ _ out true _ (Kd.C_below HR0_0.out HB.out) HC0.out (Kd.C_below HR0_1.out HB.out) HC1.out HCX.out HX.out HGD.out).mono ?_
      rintro e w5 ⟨rfl, hb⟩
      have HO5 := Lib.hid (Kd.R_below HO.out hb)
      have HB5 := Lib.hid (below_step HB.out hb)
      clear hb cz0 cz1 c0 c1
      go_wp2
      go_ret2
      exact ⟨_, rfl, Kd.R_mono HO5.out (fun _ _ => trivial), HB5.out⟩
     | false =>
      rw [if_neg (by decide)] at he
      obtain ⟨rfl, rfl⟩ := Prod.mk.inj (Option.some.inj he)
      clear he
      go_wp2_with fail
      refine (ark_isGood.calls k _ _ l0_0 _ _ l0_1 _ _ out false _ (Kd.C_below HR0_0.out HB.out) HC0.out (Kd.C_below HR0_1.out HB.out) HC1.out HCX.out HX.out HGD.out).mono ?_
      rintro e w5 ⟨rfl, hb⟩
      have HB5 := Lib.hid (below_step HB.out hb)
      clear hb cz0 cz1 c0 c1
      go_wp2
      go_ret2
      exact ⟨_, rfl, Kd.R_nil _ _ _ _ _, HB5.out⟩
    ·rw [if_neg hr] at he
     have d0 : (rest.toList == ([] : List UInt8)) = false := beq_eq_false_iff_ne.mpr hr
     have d1 : (rest.toList != ([] : List UInt8)) = true := bne_iff_ne.mpr hr
     clear hr
     obtain ⟨rfl, rfl⟩ := Prod.mk.inj (Option.some.inj he)
     clear he
     go_wp2
     go_ret2
     exact ⟨_, rfl, Kd.R_nil _ _ _ _ _, HB.out⟩
namespace PArk
def ark_Unpack.f (k : Nat) (l0_0 : List S41) (l0_1 : List S44) (a1 : ByteArray) : Option (List (List (List S47)) × Int) :=
 (crc_Open.f k a1).bind fun o => if o.2 = true then (plan_Good.f l0_0 l0_1).bind fun b => if b = true then (unpL k l0_0 o.1 false []).bind fun u => unpEnd k l0_0 l0_1 u else some ([], 3) else some ([], 3)
theorem ark_Unpack.mono : ∀ a0 a1 a2 k, LeO (ark_Unpack.f k a0 a1 a2) (ark_Unpack.f (k + 1) a0 a1 a2) := by
 intro a0 a1 a2 k
 unfold ark_Unpack.f
 refine LeO.bind (crc_Open.mono _ _) fun o => ?_
 refine LeO.ite ?_ (LeO.refl _)
 refine LeO.bind (LeO.refl _) fun b => ?_
 refine LeO.ite ?_ (LeO.refl _)
 refine LeO.bind (unpL_mono _ _ _ _ _) fun u => ?_
 unfold unpEnd
 refine LeO.ite (LeO.refl _) (LeO.ite ?_ (LeO.refl _))
 exact LeO.bind (ark_isGood.mono _ _ _ _) fun g => LeO.refl _
theorem ark_Unpack.calls (k : Nat) (A0_0 : Option Addr) (c0_0 : Nat) (l0_0 : List S41) (A0_1 : Option Addr) (c0_1 : Nat) (l0_1 : List S44) (a1 : ByteArray) (r1 : List (List (List S47))) (r2 : Int) (w : World) (hr0_0 : Kd.C k41 w A0_0 l0_0.length l0_0) (hc0_0 : l0_0.length ≤ c0_0) (hr0_1 : Kd.C k44 w A0_1 l0_1.length l0_1) (hc0_1 : l0_1.length ≤ c0_1) (h : ark_Unpack.f k l0_0 l0_1 a1 = some (r1, r2)) :
  Calls Try.prog 9 #[.agg #[.slice A0_0 l0_0.length c0_0, .slice A0_1 l0_1.length c0_1], .string a1] w fun e w' => ∃ v0_ : Value, e = .returned (.tuple #[v0_, .int .i64 r2]) ∧ Kd.R (Kd.slice 45 (Kd.slice 47 k47)) 42 w' w.heap.size (fun _ => True) v0_ r1 ∧ Below w.heap.size w w' := by
 unfold ark_Unpack.f at h
 obtain ⟨⟨t, ok⟩, ho, h⟩ := Option.bind_eq_some_iff.mp h
 cases ok with
 | false =>
  rw [if_neg (by simp)] at h
  obtain ⟨rfl, rfl⟩ := Prod.mk.inj (Option.some.inj h)
  exact c_UnpackN k A0_0 c0_0 l0_0 A0_1 c0_1 l0_1 a1 t false w hr0_0 hc0_0 hr0_1 hc0_1 ho (.inl rfl)
 | true =>
  rw [if_pos rfl] at h
  obtain ⟨b, hg, h⟩ := Option.bind_eq_some_iff.mp h
  cases b with
  | false =>
   rw [if_neg (by decide)] at h
   obtain ⟨rfl, rfl⟩ := Prod.mk.inj (Option.some.inj h)
   exact c_UnpackN k A0_0 c0_0 l0_0 A0_1 c0_1 l0_1 a1 t true w hr0_0 hc0_0 hr0_1 hc0_1 ho (.inr ⟨rfl, hg⟩)
  | true =>
   rw [if_pos rfl] at h
   obtain ⟨u, hu, h⟩ := Option.bind_eq_some_iff.mp h
   exact c_UnpackG k A0_0 c0_0 l0_0 A0_1 c0_1 l0_1 a1 t u r1 r2 w hr0_0 hc0_0 hr0_1 hc0_1 ho hg hu h
end PArk
open Go.RowKit Go.Shelf Go.Proofs.YtfkkeddjfiljfaaW.PrintWords Go.Proofs.YtfkkeddjfiljfaaW.PrintMore Go.Proofs.Ytfkkeddjfiljfaa.PArk
theorem bits_xor_val (u c : Int) : bits .xor .u64 u c = ((BitVec.ofInt 64 u ^^^ BitVec.ofInt 64 c).toNat : Int) := by
 show IntKind.u64.wrap ((BitVec.ofInt 64 u ^^^ BitVec.ofInt 64 c).toNat : Int) = _
 rw [wrap_u64]
 have := (BitVec.ofInt 64 u ^^^ BitVec.ofInt 64 c).isLt
 omega
theorem xor_range (u c : Int) : 0 ≤ bits .xor .u64 u c ∧ bits .xor .u64 u c < 18446744073709551616 := by
 rw [bits_xor_val]
 have := (BitVec.ofInt 64 u ^^^ BitVec.ofInt 64 c).isLt
 omega
theorem xor_xor (u c : Int) (h0 : 0 ≤ u) (h1 : u < 18446744073709551616) : bits .xor .u64 (bits .xor .u64 u c) c = u := by
 rw [bits_xor_val (bits .xor .u64 u c), bits_xor_val u c]
 rw [BitVec.ofInt_natCast, BitVec.ofNat_toNat, BitVec.setWidth_eq, BitVec.xor_assoc, BitVec.xor_self, BitVec.xor_zero, BitVec.toNat_ofInt]
 omega
theorem word_back (n : Int) (h0 : -9223372036854775808 ≤ n) (h1 : n ≤ 9223372036854775807) : wrap64 (bits .xor .u64 (word n) 9223372036854775808) = n := by
 unfold word
 rw [wrap_u64, xor_xor _ _ (by omega) (by omega)]
 unfold wrap64
 omega
theorem word_range (n : Int) : 0 ≤ word n ∧ word n < 18446744073709551616 := xor_range _ _
theorem beNum_be8 (x : Int) (h0 : 0 ≤ x) (h1 : x < 18446744073709551616) : beNum (be8 x) = x := by
 have e : be8 x = [x / 72057594037927936 % 256, x / 281474976710656 % 256, x / 1099511627776 % 256, x / 4294967296 % 256, x / 16777216 % 256, x / 65536 % 256, x / 256 % 256, x / 1 % 256] := rfl
 rw [e]
 simp only [beNum, List.foldl_cons, List.foldl_nil]
 omega
theorem be8_bytes (x : Int) : ∀ b ∈ be8 x, 0 ≤ b ∧ b ≤ 255 := by
 intro b hb
 simp only [be8, List.mem_map] at hb
 obtain ⟨j, _, rfl⟩ := hb
 omega
theorem bytesOf_strOfNums (l : List Int) (h : ∀ b ∈ l, 0 ≤ b ∧ b ≤ 255) : bytesOf (strOfNums l) = l := by
 unfold bytesOf strOfNums
 simp only [List.map_map]
 conv => rhs; rw [← List.map_id l]
 refine List.map_congr_left fun b hb => ?_
 have := h b hb
 simp only [Function.comp, id, UInt8.toNat_ofNat']
 omega
def ofL (l : List UInt8) : ByteArray := ⟨l.toArray⟩
theorem ofL_data (l : List UInt8) : (ofL l).data.toList = l := rfl
theorem ofL_size (l : List UInt8) : (ofL l).size = l.length := by show l.toArray.size = _; simp
theorem ofL_of (s : ByteArray) : ofL s.data.toList = s := by cases s; rfl
theorem ofL_inj {a b : List UInt8} (h : ofL a = ofL b) : a = b := by
 have := congrArg (fun s : ByteArray => s.data.toList) h
 exact this
theorem bytes_ext {a b : ByteArray} (h : a.data.toList = b.data.toList) : a = b := by
 rw [← ofL_of a, ← ofL_of b, h]
theorem app_data (a b : ByteArray) : (a ++ b).data.toList = a.data.toList ++ b.data.toList := by simp
theorem ext_data (s : ByteArray) (a b : Nat) : (s.extract a b).data.toList = (s.data.toList.take b).drop a := by
 rw [ByteArray.data_extract, Array.toList_extract]
 simp [List.extract_eq_take_drop, List.drop_take]
theorem bt_data (s : ByteArray) (i : Nat) : bt s (i : Int) = (((s.data.toList[i]?).getD 0).toNat : Int) := by
 unfold bt
 simp only [Int.toNat_natCast]
 by_cases h : i < s.size
 ·rw [dif_pos h]
  have hl : i < s.data.toList.length := by rw [Array.length_toList]; exact h
  rw [List.getElem?_eq_getElem hl]
  rfl
 ·rw [dif_neg h]
  have hl : s.data.toList.length ≤ i := by rw [Array.length_toList]; exact Nat.le_of_not_lt h
  rw [List.getElem?_eq_none hl]
  rfl
theorem toList_data (s : ByteArray) : s.toList = s.data.toList := by
 first | exact ByteArray.toList_eq s | (cases s; simp)
theorem goodV_1 {v : Vl} (h : goodV v = true) (h1 : v.f0 = 1) : v.f2 = ⟨#[]⟩ := by
 unfold goodV at h
 rw [if_pos h1] at h
 have := eq_of_beq h
 rw [toList_data] at this
 exact bytes_ext this
theorem goodV_2 {v : Vl} (h : goodV v = true) (h1 : v.f0 ≠ 1) : v.f0 = 2 ∧ v.f1 = 0 ∧ v.f2.size ≤ 7 := by
 unfold goodV at h
 rw [if_neg h1] at h
 split at h
 ·rename_i h2
  split at h
  ·rename_i h3
   have := of_decide_eq_true h
   exact ⟨h2, h3, by omega⟩
  ·cases h
 ·cases h
theorem parse_code (v : Vl) (h : goodV v = true) (h0 : -9223372036854775808 ≤ v.f1) (h1 : v.f1 ≤ 9223372036854775807) : parseV (codeV v) = v := by
 by_cases k1 : v.f0 = 1
 ·have hs := goodV_1 h k1
  have hd : (codeV v).data.toList = 1 :: (strOfNums (be8 (word v.f1))).data.toList := by
   unfold codeV
   rw [if_pos k1, app_data]
   rfl
  have hb : bt (codeV v) 0 = 1 := by
   have := bt_data (codeV v) 0
   rw [hd] at this
   exact this
  have he : (codeV v).extract 1 9 = strOfNums (be8 (word v.f1)) := by
   refine bytes_ext ?_
   rw [ext_data, hd]
   have hl : (strOfNums (be8 (word v.f1))).data.toList.length = 8 := by rw [Array.length_toList]; exact be8_size _
   rw [List.take_succ_cons, List.drop_succ_cons, List.drop_zero, List.take_of_length_le (by omega)]
  unfold parseV
  rw [if_pos hb, he, bytesOf_strOfNums _ (be8_bytes _), beNum_be8 _ (word_range _).1 (word_range _).2, word_back _ h0 h1]
  obtain ⟨f0, f1, f2⟩ := v
  simp only at k1 hs
  rw [k1, hs]
 ·obtain ⟨k2, k3, k4⟩ := goodV_2 h k1
  have hd : (codeV v).data.toList = 2 :: (v.f2.data.toList ++ (Lib.repeatL [0] (7 - v.f2.size) ++ [UInt8.ofNat v.f2.size])) := by
   unfold codeV
   rw [if_neg k1, app_data, app_data, app_data]
   show [2] ++ v.f2.data.toList ++ Lib.repeatL [0] (7 - v.f2.size) ++ [UInt8.ofNat v.f2.size] = _
   simp
  have hfl : v.f2.data.toList.length = v.f2.size := Array.length_toList
  have hpl : (Lib.repeatL [(0 : UInt8)] (7 - v.f2.size)).length = 7 - v.f2.size := by rw [Lib.repeatL_length]; simp
  have hb : bt (codeV v) 0 = 2 := by
   have := bt_data (codeV v) 0
   rw [hd] at this
   exact this
  have hb8 : bt (codeV v) 8 = v.f2.size := by
   have := bt_data (codeV v) 8
   rw [hd] at this
   rw [show ((8 : Nat) : Int) = 8 from rfl] at this
   rw [this, List.getElem?_cons_succ, List.getElem?_append_right (by omega), List.getElem?_append_right (by omega), show 7 - v.f2.data.toList.length - (Lib.repeatL [(0 : UInt8)] (7 - v.f2.size)).length = 0 by omega]
   simp only [List.getElem?_cons_zero, Option.getD_some, UInt8.toNat_ofNat']
   omega
  have he : (codeV v).extract 1 (1 + v.f2.size) = v.f2 := by
   refine bytes_ext ?_
   rw [ext_data, hd, Nat.add_comm, List.take_succ_cons, List.drop_succ_cons, List.drop_zero, ← hfl, List.take_left']
   rfl
  unfold parseV
  rw [if_neg (by rw [hb]; decide), if_pos hb, if_pos (by rw [hb8]; omega), hb8, Int.toNat_natCast, he]
  obtain ⟨f0, f1, f2⟩ := v
  simp only at k2 k3
  rw [k2, k3]
theorem read_code (v : Vl) (h : goodV v = true) (h0 : -9223372036854775808 ≤ v.f1) (h1 : v.f1 ≤ 9223372036854775807) : readV (codeV v) = (v, 0) := by
 unfold readV
 rw [parse_code v h h0 h1, if_pos ⟨codeV_size v h, h, rfl⟩]
theorem readV_ok {s : ByteArray} {v : Vl} (h : readV s = (v, 0)) : goodV v = true ∧ codeV v = s := by
 unfold readV at h
 split at h
 ·rename_i hc
  have := congrArg Prod.fst h
  simp only at this
  rw [← this]
  refine ⟨hc.2.1, bytes_ext ?_⟩
  rw [← toList_data, ← toList_data]
  exact hc.2.2
 ·have := congrArg Prod.snd h
  simp at this
def okN (v : Vl) : Prop := -9223372036854775808 ≤ v.f1 ∧ v.f1 ≤ 9223372036854775807
theorem readV_N {s : ByteArray} {v : Vl} (h : readV s = (v, 0)) : okN v := by
 unfold readV at h
 split at h
 ·have h1 := congrArg Prod.fst h
  simp only at h1
  rw [← h1]
  unfold parseV okN
  have hz : -9223372036854775808 ≤ (z47).f1 ∧ (z47).f1 ≤ 9223372036854775807 := by decide
  repeat' split
  all_goals first | exact hz | (refine ⟨?_, ?_⟩ <;> simp only <;> unfold wrap64 <;> omega) | (refine ⟨?_, ?_⟩ <;> simp only <;> omega)
 ·have := congrArg Prod.snd h
  simp at this
def readRowF : Nat → ByteArray → List Vl → List Vl × Int
 | 0, _, acc => (acc, 0)
 | n + 1, s, acc => if (readV (s.extract 0 9)).2 = 0 then readRowF n (s.extract 9 s.size) (acc ++ [(readV (s.extract 0 9)).1]) else ([], (readV (s.extract 0 9)).2)
def readRow (s : ByteArray) : List Vl × Int := if s.size % 9 = 0 ∧ s.size ≤ 36 then readRowF (s.size / 9) s [] else ([], 3)
theorem Ev.one {α : Type} {g : Nat → Option α} {r : α} (h : ∀ k, g (k + 1) = some r) : Ev g r := Ev.step h (Ev.now r)
theorem readRow_l0 : ∀ (n : Nat) (s : ByteArray) (acc : List Vl), s.size = 9 * n → acc.length + n ≤ 100 → Ev (fun k => sign_ReadRow.l0 k s acc) (readRowF n s acc)
 | 0, s, acc, h, _ => by
  refine Ev.one fun k => ?_
  have he : s.toList = ([] : List UInt8) := by
   rw [toList_data]
   exact List.eq_nil_of_length_eq_zero (by rw [Array.length_toList]; exact h)
  rw [sign_ReadRow.l0, if_pos he]
  rfl
 | n + 1, s, acc, h, ha => by
  have he : ¬ s.toList = ([] : List UInt8) := by
   rw [toList_data]
   intro hc
   have := congrArg List.length hc
   rw [Array.length_toList] at this
   have hz : s.size = 0 := this
   omega
  have ih := readRow_l0 n (s.extract 9 s.size) (acc ++ [(readV (s.extract 0 9)).1]) (by rw [ByteArray.size_extract]; omega) (by simp; omega)
  by_cases hr : (readV (s.extract 0 9)).2 = 0
  ·rw [readRowF, if_pos hr]
   refine Ev.step (fun k => ?_) ih
   rw [sign_ReadRow.l0, if_neg he, if_pos (by decide), if_pos (by omega)]
   show (some _).bind _ = _
   rw [Option.bind_some]
   simp only
   rw [if_pos hr, if_pos (by omega)]
  ·rw [readRowF, if_neg hr]
   refine Ev.one fun k => ?_
   rw [sign_ReadRow.l0, if_neg he, if_pos (by decide), if_pos (by omega)]
   show (some _).bind _ = _
   rw [Option.bind_some]
   simp only
   rw [if_neg hr]
theorem readRow_ev (s : ByteArray) : Ev (fun k => sign_ReadRow.f k s) (readRow s) := by
 unfold readRow
 by_cases h1 : s.size % 9 = 0
 ·by_cases h2 : s.size ≤ 36
  ·rw [if_pos ⟨h1, h2⟩]
   refine Ev.congr (fun k => ?_) (Ev.step (g := fun k => sign_ReadRow.j0 k s false) (fun k => ?_) (readRow_l0 (s.size / 9) s [] (by omega) (by simp; omega)))
   ·rw [sign_ReadRow.f, if_pos (by omega), show decide ((s.size : Int) > 36) = false from decide_eq_false (by omega)]
   ·rw [sign_ReadRow.j0, if_neg (by decide)]
  ·rw [if_neg (by omega)]
   refine Ev.congr (g := fun k => sign_ReadRow.f k s) (f := fun k => sign_ReadRow.j0 k s true) (fun k => ?_) (Ev.one fun k => ?_)
   ·rw [sign_ReadRow.f, if_pos (by omega), show decide ((s.size : Int) > 36) = true from decide_eq_true (by omega)]
   ·rw [sign_ReadRow.j0, if_pos rfl]
 ·rw [if_neg (by omega)]
  refine Ev.congr (g := fun k => sign_ReadRow.f k s) (f := fun k => sign_ReadRow.j0 k s true) (fun k => ?_) (Ev.one fun k => ?_)
  ·rw [sign_ReadRow.f, if_neg (by omega)]
  ·rw [sign_ReadRow.j0, if_pos rfl]
theorem codeV_len (v : Vl) (h : goodV v = true) : (codeV v).data.toList.length = 9 := by rw [Array.length_toList]; exact codeV_size v h
theorem extract_app_l (a b : List UInt8) : (ofL (a ++ b)).extract 0 a.length = ofL a := by
 refine bytes_ext ?_
 rw [ext_data, ofL_data, ofL_data, List.take_left', List.drop_zero]
 rfl
theorem extract_app_r (a b : List UInt8) (n : Nat) (hn : n = a.length + b.length) : (ofL (a ++ b)).extract a.length n = ofL b := by
 refine bytes_ext ?_
 rw [ext_data, ofL_data, ofL_data, List.take_of_length_le (by rw [List.length_append]; omega), List.drop_left']
 rfl
theorem readRowF_code : ∀ (l acc : List Vl), l.all goodV = true → (∀ v ∈ l, okN v) → readRowF l.length (ofL (codesL l)) acc = (acc ++ l, 0)
 | [], acc, _, _ => by simp [readRowF]
 | v :: l, acc, h, ho => by
  rw [List.all_cons, Bool.and_eq_true] at h
  have e : codesL (v :: l) = (codeV v).data.toList ++ codesL l := rfl
  have hl := codeV_len v h.1
  have e1 : (ofL (codesL (v :: l))).extract 0 9 = codeV v := by
   rw [e, ← hl, extract_app_l, ofL_of]
  have e2 : (ofL (codesL (v :: l))).extract 9 (ofL (codesL (v :: l))).size = ofL (codesL l) := by
   rw [e, ← hl, extract_app_r _ _ _ (by rw [ofL_size, List.length_append])]
  rw [List.length_cons, readRowF, e1, e2, read_code v h.1 (ho v (by simp)).1 (ho v (by simp)).2, if_pos rfl, readRowF_code l _ h.2 (fun x hx => ho x (by simp [hx]))]
  simp
theorem readRow_code (l : List Vl) (h4 : l.length ≤ 4) (h : l.all goodV = true) (ho : ∀ v ∈ l, okN v) : readRow (ofL (codesL l)) = (l, 0) := by
 have hs : (ofL (codesL l)).size = 9 * l.length := by rw [ofL_size, codesL_len l h]
 unfold readRow
 rw [if_pos (by omega), show (ofL (codesL l)).size / 9 = l.length by omega, readRowF_code l [] h ho]
 rfl
theorem readRowF_ok : ∀ (n : Nat) (s : ByteArray) (acc r : List Vl), s.size = 9 * n → readRowF n s acc = (r, 0) → ∃ l, r = acc ++ l ∧ l.length = n ∧ l.all goodV = true ∧ codesL l = s.data.toList ∧ ∀ v ∈ l, okN v
 | 0, s, acc, r, hs, h => by
  rw [readRowF] at h
  have := congrArg Prod.fst h
  simp only at this
  refine ⟨[], by simp [this], rfl, rfl, ?_, fun v hv => by cases hv⟩
  exact (List.eq_nil_of_length_eq_zero (by rw [Array.length_toList]; exact hs)).symm
 | n + 1, s, acc, r, hs, h => by
  rw [readRowF] at h
  by_cases hr : (readV (s.extract 0 9)).2 = 0
  ·rw [if_pos hr] at h
   obtain ⟨l, h1, h2, h3, h4, h5⟩ := readRowF_ok n (s.extract 9 s.size) _ r (by rw [ByteArray.size_extract]; omega) h
   have hN := readV_N (s := s.extract 0 9) (v := (readV (s.extract 0 9)).1) (by rw [← hr])
   have hv := readV_ok (s := s.extract 0 9) (v := (readV (s.extract 0 9)).1) (by rw [← hr])
   generalize (readV (s.extract 0 9)).1 = v at *
   refine ⟨v :: l, by rw [h1]; simp, by simp [h2], by rw [List.all_cons, hv.1, h3]; rfl, ?_, fun x hx => (List.mem_cons.1 hx).elim (fun h => h ▸ hN) (h5 x)⟩
   show (codeV v).data.toList ++ codesL l = _
   rw [h4, hv.2, ext_data, ext_data, List.drop_zero, List.take_of_length_le (i := s.size) (by rw [Array.length_toList]; exact Nat.le_refl _), List.take_append_drop]
  ·rw [if_neg hr] at h
   exact absurd (congrArg Prod.snd h) hr
theorem readRow_ok {s : ByteArray} {r : List Vl} (h : readRow s = (r, 0)) : r.length ≤ 4 ∧ 9 * r.length = s.size ∧ r.all goodV = true ∧ codesL r = s.data.toList ∧ ∀ v ∈ r, okN v := by
 unfold readRow at h
 split at h
 ·rename_i hc
  obtain ⟨l, h1, h2, h3, h4, h5⟩ := readRowF_ok (s.size / 9) s [] r (by omega) h
  rw [List.nil_append] at h1
  subst h1
  exact ⟨by omega, by omega, h3, h4, h5⟩
 ·have := congrArg Prod.snd h
  simp at this
theorem take_ev (rest : ByteArray) (bad : Bool) (n : Nat) : ark_eye_take.f rest bad (n : Int) = some (if n ≤ rest.size then (rest.extract 0 n, rest.extract n rest.size, bad) else (⟨#[]⟩, rest, true)) := by
 unfold ark_eye_take.f
 by_cases h : n ≤ rest.size
 ·rw [if_neg (by omega), if_pos (by omega), if_pos (by omega), if_pos h, Int.toNat_natCast]
 ·rw [if_pos (by omega), if_neg h]
def num2 (s : ByteArray) : Nat := (bt s 0).toNat + 256 * (bt s 1).toNat
theorem or_low (a b : Int) (ha : 0 ≤ a) (ha2 : a ≤ 255) (hb : 0 ≤ b) (hb2 : b ≤ 255) : Go.bits .or .i64 a (b * 256) = a + 256 * b := by
 have h1 : bits .or .i64 (256 * b) a = 256 * b + a :=
  bits_join .i64 63 (by decide) (fun n h0 h1 => by rw [IntKind.wrap_i64]; omega) 8 _ _ (by omega) (by omega) (by omega) ha (by omega) (by omega)
 have h2 : ∀ x y : Int, bits .or .i64 x y = bits .or .i64 y x := by
  intro x y
  show IntKind.i64.wrap _ = IntKind.i64.wrap _
  rw [BitVec.or_comm]
 show bits .or .i64 a (b * 256) = _
 rw [h2, Int.mul_comm, h1]
 omega
theorem count_ev (rest : ByteArray) (bad : Bool) : ark_eye_count.f rest bad = some (if 2 ≤ rest.size then (if bad = true then (0, rest.extract 2 rest.size, true) else ((num2 rest : Int), rest.extract 2 rest.size, false)) else (0, rest, true)) := by
 unfold ark_eye_count.f
 have ht := take_ev rest bad 2
 rw [show ((2 : Nat) : Int) = 2 from rfl] at ht
 rw [ht, Option.bind_some]
 by_cases h : 2 ≤ rest.size
 ·rw [if_pos h, if_pos h]
  simp only
  cases bad with
  | true => rw [if_pos rfl, if_pos rfl]
  | false =>
   have hs : (rest.extract 0 2).size = 2 := by rw [ByteArray.size_extract]; omega
   have e0 : bt (rest.extract 0 2) 0 = bt rest 0 := by
    have h1 := bt_data (rest.extract 0 2) 0
    have h2 := bt_data rest 0
    rw [show ((0 : Nat) : Int) = 0 from rfl] at h1 h2
    rw [h1, h2, ext_data, List.drop_zero, List.getElem?_take_of_lt (by omega)]
   have e1 : bt (rest.extract 0 2) 1 = bt rest 1 := by
    have h1 := bt_data (rest.extract 0 2) 1
    have h2 := bt_data rest 1
    rw [show ((1 : Nat) : Int) = 1 from rfl] at h1 h2
    rw [h1, h2, ext_data, List.drop_zero, List.getElem?_take_of_lt (by omega)]
   have r0 := bt_range rest 0
   have r1 := bt_range rest 1
   rw [if_neg (by decide), hs, if_pos (by decide), if_pos (by decide), e0, e1, if_neg (by decide)]
   have w0 : wrap64 (bt rest 0) = bt rest 0 := by unfold wrap64; omega
   have w1 : wrap64 (bt rest 1) = bt rest 1 := by unfold wrap64; omega
   have w2 : wrap64 (bt rest 1 * 256) = bt rest 1 * 256 := by unfold wrap64; omega
   rw [w0, w1, w2, or_low _ _ r0.1 r0.2 r1.1 r1.2]
   unfold num2
   have : (((bt rest 0).toNat + 256 * (bt rest 1).toNat : Nat) : Int) = bt rest 0 + 256 * bt rest 1 := by omega
   rw [this]
 ·rw [if_neg h, if_neg h]
  exact if_pos rfl
theorem eye_fwd (cols : Nat) (hc : cols ≤ 4) : ∀ (rows : List (List Vl)) (tail : List UInt8) (out : List (List Vl)), (∀ r ∈ rows, r.length = cols ∧ r.all goodV = true ∧ ∀ v ∈ r, okN v) → rows.length ≤ 100000 → out.length + rows.length ≤ 1000000 →
  Ev (fun k => eyeL k (rows.length : Int) (ofL (rows.flatMap codesL ++ tail)) false (cols : Int) out) (out ++ rows, ofL tail, false)
 | [], tail, out, _, _, _ => by
  refine Ev.one fun k => ?_
  rw [eyeL, if_neg (by simp)]
  simp
 | r :: rows, tail, out, h, hl, ho => by
  have hr := h r (by simp)
  have hcl : (codesL r).length = 9 * cols := by rw [codesL_len r hr.2.1, hr.1]
  have e : (r :: rows).flatMap codesL ++ tail = codesL r ++ (rows.flatMap codesL ++ tail) := by simp
  have hw : wrap64 (9 * (cols : Int)) = ((9 * cols : Nat) : Int) := by unfold wrap64; omega
  have hsz : (ofL (codesL r ++ (rows.flatMap codesL ++ tail))).size = 9 * cols + (rows.flatMap codesL ++ tail).length := by rw [ofL_size, List.length_append, hcl]
  have e1 : (ofL (codesL r ++ (rows.flatMap codesL ++ tail))).extract 0 (9 * cols) = ofL (codesL r) := by rw [← hcl]; exact extract_app_l _ _
  have e2 : (ofL (codesL r ++ (rows.flatMap codesL ++ tail))).extract (9 * cols) (ofL (codesL r ++ (rows.flatMap codesL ++ tail))).size = ofL (rows.flatMap codesL ++ tail) := by
   rw [hsz, ← hcl]
   exact extract_app_r _ _ _ rfl
  have hn : wrap64 (((r :: rows).length : Int) - 1) = (rows.length : Int) := by
   rw [List.length_cons]
   rw [List.length_cons] at hl
   unfold wrap64
   omega
  have ih := eye_fwd cols hc rows tail (out ++ [r]) (fun x hx => h x (by simp [hx])) (by rw [List.length_cons] at hl; omega) (by rw [List.length_cons] at ho; simp; omega)
  have hrr := readRow_code r (by omega) hr.2.1 hr.2.2
  rw [e]
  have hb : Ev (fun k => (sign_ReadRow.f k (ofL (codesL r))).bind fun u => if out.length < 4398046511104 then eyeL k (rows.length : Int) (ofL (rows.flatMap codesL ++ tail)) (false || u.2 != 0) (cols : Int) (out ++ [u.1]) else none) (out ++ [r] ++ rows, ofL tail, false) := by
   refine Ev.bind (readRow_ev _) ?_
   rw [hrr]
   refine Ev.congr (fun k => ?_) ih
   rw [if_pos (by omega)]
   rfl
  rw [show out ++ r :: rows = out ++ [r] ++ rows by simp]
  refine Ev.step (fun k => ?_) hb
  rw [eyeL, if_pos (by rw [List.length_cons]; omega), if_neg (by decide), hw, take_ev, Option.bind_some, if_pos (by rw [hsz]; omega), hn, e1, e2]
theorem eye_bwd (cols : Nat) (hc : cols ≤ 4) : ∀ (n : Nat) (rest : ByteArray) (bad : Bool) (out : List (List Vl)), n ≤ 100000 → out.length + n ≤ 1000000 →
  ∃ r, Ev (fun k => eyeL k (n : Int) rest bad (cols : Int) out) r ∧ (r.1.length ≤ out.length + n) ∧ (r.2.2 = false → bad = false ∧ ∃ rows, r.1 = out ++ rows ∧ rows.length = n ∧ (∀ x ∈ rows, x.length ≤ 4 ∧ x.all goodV = true ∧ ∀ v ∈ x, okN v) ∧ rest.data.toList = rows.flatMap codesL ++ r.2.1.data.toList)
 | 0, rest, bad, out, _, _ => ⟨(out, rest, bad), by
   refine Ev.one fun k => ?_
   rw [eyeL, if_neg (by simp)], by simp, fun hb => ⟨hb, [], by simp, rfl, (fun x hx => by cases hx), by simp⟩⟩
 | n + 1, rest, true, out, hn, ho => ⟨(out, rest, true), by
   refine Ev.one fun k => ?_
   rw [eyeL, if_pos (by omega), if_pos rfl], by simp, fun hb => by cases hb⟩
 | n + 1, rest, false, out, hn, ho => by
  have hw : wrap64 (9 * (cols : Int)) = ((9 * cols : Nat) : Int) := by unfold wrap64; omega
  have hw1 : wrap64 (((n + 1 : Nat) : Int) - 1) = (n : Int) := by unfold wrap64; omega
  obtain ⟨t, ht⟩ : ∃ t, t = (if 9 * cols ≤ rest.size then (rest.extract 0 (9 * cols), rest.extract (9 * cols) rest.size, false) else ((⟨#[]⟩ : ByteArray), rest, true)) := ⟨_, rfl⟩
  obtain ⟨u, hu⟩ : ∃ u, u = readRow t.1 := ⟨_, rfl⟩
  obtain ⟨r, h1, h2, h3⟩ := eye_bwd cols hc n t.2.1 (t.2.2 || u.2 != 0) (out ++ [u.1]) (by omega) (by simp; omega)
  refine ⟨r, ?_, by simp at h2; omega, fun hb => ⟨rfl, ?_⟩⟩
  ·have hb : Ev (fun k => (sign_ReadRow.f k t.1).bind fun u => if out.length < 4398046511104 then eyeL k (n : Int) t.2.1 (t.2.2 || u.2 != 0) (cols : Int) (out ++ [u.1]) else none) r := by
    refine Ev.bind (readRow_ev _) ?_
    rw [← hu]
    refine Ev.congr (fun k => ?_) h1
    rw [if_pos (by omega)]
   refine Ev.step (fun k => ?_) hb
   rw [eyeL, if_pos (by omega), if_neg (by decide), hw, take_ev, Option.bind_some, hw1, ← ht]
  ·obtain ⟨hb1, rows, e1, e2, e3, e4⟩ := h3 hb
   rw [Bool.or_eq_false_iff] at hb1
   have ht2 := hb1.1
   have hu2 : u.2 = 0 := by simpa using hb1.2
   by_cases hs : 9 * cols ≤ rest.size
   ·rw [if_pos hs] at ht
    have hru : readRow t.1 = (u.1, 0) := by rw [← hu, ← hu2]
    obtain ⟨q1, q2, q3, q4, q5⟩ := readRow_ok hru
    refine ⟨u.1 :: rows, by rw [e1]; simp, by simp [e2], ?_, ?_⟩
    ·intro x hx
     rcases List.mem_cons.1 hx with rfl | hx
     ·exact ⟨q1, q3, q5⟩
     ·exact e3 x hx
    ·rw [List.flatMap_cons, List.append_assoc, ← e4, q4, ht]
     simp only
     rw [ext_data, ext_data, List.drop_zero, List.take_of_length_le (i := rest.size) (by rw [Array.length_toList]; exact Nat.le_refl _), List.take_append_drop]
   ·rw [if_neg hs] at ht
    rw [ht] at ht2
    cases ht2
def fitRows (cols : Nat) (rows : List (List Vl)) : Prop := rows.length ≤ 1000 ∧ ∀ r ∈ rows, r.length = cols ∧ r.all goodV = true ∧ ∀ v ∈ r, okN v
theorem num2_hd (rows : List (List Vl)) (l : List UInt8) (h : rows.length ≤ 1000) : num2 (ofL (hdB rows ++ l)) = rows.length := by
 unfold num2
 have h0 := bt_data (ofL (hdB rows ++ l)) 0
 have h1 := bt_data (ofL (hdB rows ++ l)) 1
 rw [show ((0 : Nat) : Int) = 0 from rfl, ofL_data] at h0
 rw [show ((1 : Nat) : Int) = 1 from rfl, ofL_data] at h1
 rw [h0, h1]
 show (((UInt8.ofNat (rows.length % 256)).toNat : Int)).toNat + 256 * (((UInt8.ofNat (rows.length / 256)).toNat : Int)).toNat = _
 rw [UInt8.toNat_ofNat', UInt8.toNat_ofNat']
 omega
theorem rows_fwd (cols : Nat) (hc : cols ≤ 4) (rows : List (List Vl)) (tail : List UInt8) (h : fitRows cols rows) : Ev (fun k => eyeRows k (ofL (tabB rows ++ tail)) false (cols : Int)) (rows, ofL tail, false) := by
 have e : tabB rows ++ tail = hdB rows ++ (rows.flatMap codesL ++ tail) := by
  show hdB rows ++ rows.flatMap codesL ++ tail = _
  rw [List.append_assoc]
 have hs : (ofL (hdB rows ++ (rows.flatMap codesL ++ tail))).size = 2 + (rows.flatMap codesL ++ tail).length := by rw [ofL_size, List.length_append]; rfl
 have he : (ofL (hdB rows ++ (rows.flatMap codesL ++ tail))).extract 2 (ofL (hdB rows ++ (rows.flatMap codesL ++ tail))).size = ofL (rows.flatMap codesL ++ tail) := by
  rw [hs]
  exact extract_app_r (hdB rows) _ _ rfl
 have hf := eye_fwd cols hc rows tail [] h.2 (by have := h.1; omega) (by have := h.1; simp; omega)
 rw [List.nil_append] at hf
 rw [e]
 refine Ev.congr (fun k => ?_) hf
 rw [eyeRows, count_ev, Option.bind_some, if_pos (by omega), if_neg (by decide), he, num2_hd _ _ h.1]
theorem rows_bwd (cols : Nat) (hc : cols ≤ 4) (rest : ByteArray) (bad : Bool) : ∃ r, Ev (fun k => eyeRows k rest bad (cols : Int)) r ∧ r.1.length ≤ 65535 ∧ (r.2.2 = false → bad = false ∧ (∀ x ∈ r.1, x.length ≤ 4 ∧ x.all goodV = true ∧ ∀ v ∈ x, okN v) ∧ rest.data.toList = tabB r.1 ++ r.2.1.data.toList) := by
 by_cases h : 2 ≤ rest.size
 ·cases bad with
  | true =>
   obtain ⟨r, h1, h2, h3⟩ := eye_bwd cols hc 0 (rest.extract 2 rest.size) true [] (by omega) (by simp)
   refine ⟨r, Ev.congr (fun k => ?_) h1, by rw [List.length_nil] at h2; omega, fun hb => by cases (h3 hb).1⟩
   rw [eyeRows, count_ev, Option.bind_some, if_pos h, if_pos rfl]
   rfl
  | false =>
   have r0 := bt_range rest 0
   have r1 := bt_range rest 1
   have hn : num2 rest ≤ 65535 := by unfold num2; omega
   obtain ⟨r, h1, h2, h3⟩ := eye_bwd cols hc (num2 rest) (rest.extract 2 rest.size) false [] (by omega) (by simp; omega)
   refine ⟨r, Ev.congr (fun k => ?_) h1, by rw [List.length_nil] at h2; omega, fun hb => ?_⟩
   ·rw [eyeRows, count_ev, Option.bind_some, if_pos h, if_neg (by decide)]
   ·obtain ⟨_, rows, e1, e2, e3, e4⟩ := h3 hb
    rw [List.nil_append] at e1
    subst e1
    refine ⟨rfl, e3, ?_⟩
    rw [ext_data, List.take_of_length_le (i := rest.size) (by rw [Array.length_toList]; exact Nat.le_refl _)] at e4
    show _ = hdB r.1 ++ r.1.flatMap codesL ++ r.2.1.data.toList
    rw [List.append_assoc, ← e4]
    have b0 := bt_data rest 0
    have b1 := bt_data rest 1
    rw [show ((0 : Nat) : Int) = 0 from rfl] at b0
    rw [show ((1 : Nat) : Int) = 1 from rfl] at b1
    have hl : 2 ≤ rest.data.toList.length := by rw [Array.length_toList]; exact h
    generalize rest.data.toList = L at *
    match L, hl, b0, b1 with
    | x :: y :: L, _, b0, b1 =>
     have c0 : bt rest 0 = (x.toNat : Int) := b0
     have c1 : bt rest 1 = (y.toNat : Int) := b1
     unfold num2 at e2
     rw [c0, c1, Int.toNat_natCast, Int.toNat_natCast] at e2
     have hx := x.toNat_lt
     have hy := y.toNat_lt
     unfold hdB
     rw [e2, show (x.toNat + 256 * y.toNat) % 256 = x.toNat by omega, show (x.toNat + 256 * y.toNat) / 256 = y.toNat by omega, UInt8.ofNat_toNat, UInt8.ofNat_toNat]
     rfl
 ·obtain ⟨r, h1, h2, h3⟩ := eye_bwd cols hc 0 rest true [] (by omega) (by simp)
  refine ⟨r, Ev.congr (fun k => ?_) h1, by rw [List.length_nil] at h2; omega, fun hb => by cases (h3 hb).1⟩
  rw [eyeRows, count_ev, Option.bind_some, if_neg h]
  rfl
open Go.RowKit Go.Shelf Go.Proofs.YtfkkeddjfiljfaaW.PrintWords Go.Proofs.YtfkkeddjfiljfaaW.PrintMore Go.Proofs.Ytfkkeddjfiljfaa.PArk
def fitTabs : List S41 → List (List (List Vl)) → Prop
 | [], [] => True
 | t :: T, x :: X => (t.f0.length ≤ 4 ∧ fitRows t.f0.length x) ∧ fitTabs T X
 | _, _ => False
theorem unp_fwd : ∀ (T : List S41) (tabs : List (List (List Vl))) (tail : List UInt8) (out : List (List (List Vl))), fitTabs T tabs → out.length + T.length ≤ 1000000 →
  Ev (fun k => unpL k T (ofL (packB tabs ++ tail)) false out) (out ++ tabs, ofL tail, false)
 | [], [], tail, out, _, _ => by
  refine Ev.congr (fun k => ?_) (Ev.now _)
  rw [unpL]
  simp [packB]
 | t :: T, x :: X, tail, out, h, hl => by
  have e : packB (x :: X) ++ tail = tabB x ++ (packB X ++ tail) := by
   show tabB x ++ packB X ++ tail = _
   rw [List.append_assoc]
  rw [List.length_cons] at hl
  have ih := unp_fwd T X tail (out ++ [x]) h.2 (by simp; omega)
  rw [e, show out ++ x :: X = out ++ [x] ++ X by simp]
  refine Ev.congr (f := fun k => (eyeRows k (ofL (tabB x ++ (packB X ++ tail))) false (t.f0.length : Int)).bind fun u => if out.length < 4398046511104 then unpL k T u.2.1 u.2.2 (out ++ [u.1]) else none) (fun k => rfl) ?_
  refine Ev.bind (rows_fwd t.f0.length h.1.1 x (packB X ++ tail) h.1.2) ?_
  refine Ev.congr (fun k => ?_) ih
  rw [if_pos (by omega)]
 | [], _ :: _, _, _, h, _ => h.elim
 | _ :: _, [], _, _, h, _ => h.elim
theorem unp_bwd : ∀ (T : List S41) (rest : ByteArray) (bad : Bool) (out : List (List (List Vl))), (∀ t ∈ T, t.f0.length ≤ 4) → out.length + T.length ≤ 1000000 →
  ∃ r, Ev (fun k => unpL k T rest bad out) r ∧ r.1.length = out.length + T.length ∧ (∀ x ∈ r.1, x ∈ out ∨ x.length ≤ 65535) ∧ (r.2.2 = false → bad = false ∧ ∃ tabs, r.1 = out ++ tabs ∧ (∀ x ∈ tabs, ∀ y ∈ x, y.length ≤ 4 ∧ ∀ v ∈ y, okN v) ∧ rest.data.toList = packB tabs ++ r.2.1.data.toList)
 | [], rest, bad, out, _, _ => ⟨(out, rest, bad), Ev.now _, rfl, fun x hx => .inl hx, fun hb => ⟨hb, [], by simp, (fun x hx => by cases hx), by simp [packB]⟩⟩
 | t :: T, rest, bad, out, h, hl => by
  rw [List.length_cons] at hl
  obtain ⟨u, u1, u2, u3⟩ := rows_bwd t.f0.length (h t (by simp)) rest bad
  obtain ⟨r, r1, r2, r3, r4⟩ := unp_bwd T u.2.1 u.2.2 (out ++ [u.1]) (fun x hx => h x (by simp [hx])) (by simp; omega)
  refine ⟨r, ?_, by rw [r2]; simp; omega, ?_, ?_⟩
  ·refine Ev.congr (f := fun k => (eyeRows k rest bad (t.f0.length : Int)).bind fun u => if out.length < 4398046511104 then unpL k T u.2.1 u.2.2 (out ++ [u.1]) else none) (fun k => rfl) ?_
   refine Ev.bind u1 ?_
   refine Ev.congr (fun k => ?_) r1
   rw [if_pos (by omega)]
  ·intro x hx
   rcases r3 x hx with hx | hx
   ·rcases List.mem_append.1 hx with hx | hx
    ·exact .inl hx
    ·rw [List.mem_singleton.1 hx]
     exact .inr u2
   ·exact .inr hx
  ·intro hb
   obtain ⟨b2, tabs, e1, e4, e2⟩ := r4 hb
   obtain ⟨b1, e5, e3⟩ := u3 b2
   refine ⟨b1, u.1 :: tabs, by rw [e1]; simp, ?_, ?_⟩
   ·intro x hx
    rcases List.mem_cons.1 hx with rfl | hx
    ·exact fun y hy => ⟨(e5 y hy).1, (e5 y hy).2.2⟩
    ·exact e4 x hx
   show _ = tabB u.1 ++ packB tabs ++ r.2.1.data.toList
   rw [List.append_assoc, ← e2, e3]
theorem or_total (x : Int) (l : List Int) (hl : l.length ≤ 1000) : ∀ d i : Nat, i + d = l.length → ∃ r, Ev (fun k => cmp_Or_int.l0 k x l (l.length : Int) (i : Int)) r
 | 0, i, h => ⟨x, Ev.one fun k => by rw [cmp_Or_int.l0, if_neg (by omega)]⟩
 | d + 1, i, h => by
  have hw : wrap64 ((i : Int) + 1) = ((i + 1 : Nat) : Int) := by unfold wrap64; omega
  by_cases hx : rd l (i : Int) = x
  ·obtain ⟨r, hr⟩ := or_total x l hl d (i + 1) (by omega)
   exact ⟨r, Ev.step (fun k => by rw [cmp_Or_int.l0, if_pos (by omega), if_pos (by omega), if_pos (by omega), if_pos hx, hw]) hr⟩
  ·exact ⟨rd l (i : Int), Ev.one fun k => by rw [cmp_Or_int.l0, if_pos (by omega), if_pos (by omega), if_pos (by omega), if_neg hx]⟩
theorem cmpInt_total (a b : Int) : ∃ c, cmp_Compare_int.f a b = some c := by
 unfold cmp_Compare_int.f cmp_isNaN_int.f
 simp only [Option.bind_some]
 split
 ·split <;> exact ⟨_, rfl⟩
 ·split
  ·exact ⟨_, rfl⟩
  ·split
   ·exact ⟨_, rfl⟩
   ·split <;> exact ⟨_, rfl⟩
theorem compare_total (a b : Vl) : ∃ c, Ev (fun k => sign_Compare.f k a.f0 a.f1 a.f2 b.f0 b.f1 b.f2) c := by
 obtain ⟨c1, h1⟩ := cmpInt_total a.f0 b.f0
 obtain ⟨c2, h2⟩ := cmpInt_total a.f1 b.f1
 obtain ⟨c3, h3⟩ : ∃ c, cmp_Compare_string.f a.f2 b.f2 = some c := ⟨_, rfl⟩
 obtain ⟨c, hc⟩ := or_total 0 [c1, c2, c3] (by simp) 3 0 rfl
 have hj : ∀ x, ∃ c, Ev (fun k => sign_Compare.j0 k x a.f0 a.f1 a.f2 b.f0 b.f1 b.f2) c := by
  intro x
  cases x with
  | true => exact ⟨0, Ev.one fun k => by rw [sign_Compare.j0, if_pos rfl]⟩
  | false =>
   refine ⟨c, Ev.step (f := fun k => (cmp_Or_int.f k [c1, c2, c3]).bind fun t => some t) (fun k => ?_) ?_⟩
   ·rw [sign_Compare.j0, if_neg (by decide), h1, Option.bind_some, h2, Option.bind_some, h3, Option.bind_some]
   ·exact Ev.bind hc (Ev.now c)
 cases hg : goodV a with
 | true =>
  obtain ⟨c, hc⟩ := hj (!goodV b)
  refine ⟨c, Ev.congr (fun k => ?_) hc⟩
  unfold sign_Compare.f
  rw [good_is a, hg, Option.bind_some, if_pos rfl, good_is b, Option.bind_some]
 | false =>
  obtain ⟨c, hc⟩ := hj true
  refine ⟨c, Ev.congr (fun k => ?_) hc⟩
  unfold sign_Compare.f
  rw [good_is a, hg, Option.bind_some, if_neg (by decide)]
abbrev Tb' := S41
theorem fits_l0 (T : List Tb') (V : List S44) (t : Nat) (ht : t < T.length) (row : List Vl) (hlen : row.length = (rd_T41 T (t : Int)).f0.length) (hb : row.length ≤ 1000000) :
  ∀ d i : Nat, i + d = row.length → ∃ b, Ev (fun k => plan_Fits.l0 k (t : Int) row (row.length : Int) (i : Int) T V) b ∧ (b = 0 → (row.drop i).all goodV = true)
 | 0, i, h => ⟨0, Ev.one fun k => by rw [plan_Fits.l0, if_neg (by omega)], fun _ => by rw [List.drop_eq_nil_of_le (by omega)]; rfl⟩
 | d + 1, i, h => by
  have hw : wrap64 ((i : Int) + 1) = ((i + 1 : Nat) : Int) := by unfold wrap64; omega
  have hhead : ∀ k, plan_Fits.l0 (k + 1) (t : Int) row (row.length : Int) (i : Int) T V = if ((rd_T47 row (i : Int)).f0) = (rd ((rd_T41 T (t : Int)).f0) (i : Int)) then (if goodV (rd_T47 row (i : Int)) = true then plan_Fits.l0 k (t : Int) row (row.length : Int) ((i + 1 : Nat) : Int) T V else some 1) else some 1 := by
   intro k
   rw [plan_Fits.l0, if_pos (by omega), if_pos (by omega), if_pos (by omega), if_pos (by omega), if_pos (by omega), if_pos (by omega), good_is, Option.bind_some, hw]
  by_cases hk : ((rd_T47 row (i : Int)).f0) = (rd ((rd_T41 T (t : Int)).f0) (i : Int))
  ·by_cases hg : goodV (rd_T47 row (i : Int)) = true
   ·obtain ⟨b, h1, h2⟩ := fits_l0 T V t ht row hlen hb d (i + 1) (by omega)
    refine ⟨b, Ev.step (fun k => by rw [hhead, if_pos hk, if_pos hg]) h1, fun hb0 => ?_⟩
    have e : row.drop i = rd_T47 row (i : Int) :: row.drop (i + 1) := by
     rw [List.drop_eq_getElem_cons (by omega)]
     show _ = row.getD i _ :: _
     rw [List.getD_eq_getElem?_getD, List.getElem?_eq_getElem (by omega)]
     rfl
    rw [e, List.all_cons, hg, h2 hb0]
    rfl
   ·exact ⟨1, Ev.one fun k => by rw [hhead, if_pos hk, if_neg hg], fun hb0 => by cases hb0⟩
  ·exact ⟨1, Ev.one fun k => by rw [hhead, if_neg hk], fun hb0 => by cases hb0⟩
theorem fits_total (T : List Tb') (V : List S44) (t : Nat) (ht : t < T.length) (row : List Vl) (hb : row.length ≤ 1000000) :
  ∃ b, Ev (fun k => plan_Fits.f k T V (t : Int) row) b ∧ (b = 0 → row.length = (rd_T41 T (t : Int)).f0.length ∧ row.all goodV = true) := by
 have hf : ∀ k, plan_Fits.f k T V (t : Int) row = plan_Fits.j0 k (t : Int) row ((row.length : Int) != (((rd_T41 T (t : Int)).f0).length : Int)) T V := by
  intro k
  rw [plan_Fits.f, if_neg (by omega), if_neg (by omega), if_pos (by omega), if_pos (by omega)]
 by_cases hlen : row.length = (rd_T41 T (t : Int)).f0.length
 ·have hd : ((row.length : Int) != (((rd_T41 T (t : Int)).f0).length : Int)) = false := by simp [hlen]
  obtain ⟨b, h1, h2⟩ := fits_l0 T V t ht row hlen hb row.length 0 (by omega)
  refine ⟨b, Ev.congr (fun k => by rw [hf, hd]) (Ev.step (fun k => by rw [plan_Fits.j0, if_neg (by decide)]; rfl) h1), fun hb0 => ⟨hlen, ?_⟩⟩
  have := h2 hb0
  rwa [List.drop_zero] at this
 ·have hd : ((row.length : Int) != (((rd_T41 T (t : Int)).f0).length : Int)) = true := by simp; omega
  exact ⟨1, Ev.congr (fun k => by rw [hf, hd]) (Ev.one fun k => by rw [plan_Fits.j0, if_pos rfl]), fun hb0 => by cases hb0⟩
def fitG : List Tb' → List (List (List Vl)) → Prop
 | [], [] => True
 | t :: T, x :: X => (x.length ≤ 1000 ∧ ∀ r ∈ x, r.length = t.f0.length ∧ r.all goodV = true) ∧ fitG T X
 | _, _ => False
def sumLen (tabs : List (List (List Vl))) : Nat := (tabs.map List.length).sum
theorem l1_total (T : List Tb') (V : List S44) (tabs : List (List (List Vl))) (hT : tabs.length = T.length) (hTl : T.length ≤ 100) (t : Nat) (ht : t < T.length) (hc : 1 ≤ (rd_T41 T (t : Int)).f0.length) (rows : List (List Vl)) (hr : rows.length ≤ 1000000) (hrow : ∀ r ∈ rows, r.length ≤ 1000000) (n : Int) (P : Prop) (hnext : ∃ b, Ev (fun k => ark_isGood.l0 k n tabs (tabs.length : Int) (((t + 1 : Nat)) : Int) T V) b ∧ (b = true → P)) :
  ∀ d i : Nat, i + d = rows.length → (0 < i → 0 < (rows.getD (i - 1) []).length) → ∃ b, Ev (fun k => ark_isGood.l1 k n (t : Int) rows tabs (tabs.length : Int) (t : Int) rows (rows.length : Int) (i : Int) T V) b ∧ (b = true → P ∧ ∀ r ∈ rows.drop i, r.length = (rd_T41 T (t : Int)).f0.length ∧ r.all goodV = true)
 | 0, i, h, _ => by
  obtain ⟨b, h1, h2⟩ := hnext
  have hw : wrap64 ((t : Int) + 1) = ((t + 1 : Nat) : Int) := by unfold wrap64; omega
  refine ⟨b, Ev.step (fun k => by rw [ark_isGood.l1, if_neg (by omega), hw]) h1, fun hb => ⟨h2 hb, fun r hr => ?_⟩⟩
  rw [List.drop_eq_nil_of_le (by omega)] at hr
  cases hr
 | d + 1, i, h, hprev => by
  have hw : wrap64 ((i : Int) + 1) = ((i + 1 : Nat) : Int) := by unfold wrap64; omega
  have hgd : rd_L10 rows (i : Int) = rows.getD i [] := rfl
  have hmem : rows.getD i [] ∈ rows := by
   rw [List.getD_eq_getElem?_getD, List.getElem?_eq_getElem (by omega)]
   exact List.getElem_mem _
  have hdr : rows.drop i = rows.getD i [] :: rows.drop (i + 1) := by
   rw [List.drop_eq_getElem_cons (by omega), List.getD_eq_getElem?_getD, List.getElem?_eq_getElem (by omega)]
   rfl
  obtain ⟨b0, f1, f2⟩ := fits_total T V t ht (rows.getD i []) (hrow _ hmem)
  by_cases hb0 : b0 = 0
  ·subst hb0
   obtain ⟨q1, q2⟩ := f2 rfl
   obtain ⟨b, h1, h2⟩ := l1_total T V tabs hT hTl t ht hc rows hr hrow n P hnext d (i + 1) (by omega) (fun _ => by rw [Nat.add_sub_cancel]; omega)
   have hyes : b = true → P ∧ ∀ r ∈ rows.drop i, r.length = (rd_T41 T (t : Int)).f0.length ∧ r.all goodV = true := by
    intro hb
    refine ⟨(h2 hb).1, fun r hr => ?_⟩
    rw [hdr] at hr
    rcases List.mem_cons.1 hr with rfl | hr
    ·exact ⟨q1, q2⟩
    ·exact (h2 hb).2 r hr
   by_cases hi : 0 < i
   ·have hw2 : wrap64 ((i : Int) - 1) = ((i - 1 : Nat) : Int) := by unfold wrap64; omega
    have hp := hprev hi
    obtain ⟨c, hcm⟩ := compare_total (rd_T47 (rd_L10 rows ((i - 1 : Nat) : Int)) 0) (rd_T47 (rd_L10 rows (i : Int)) 0)
    have hhead : ∀ k, ark_isGood.l1 (k + 1) n (t : Int) rows tabs (tabs.length : Int) (t : Int) rows (rows.length : Int) (i : Int) T V = (plan_Fits.f k T V (t : Int) (rows.getD i [])).bind fun t131 => if t131 = 0 then (sign_Compare.f k (rd_T47 (rd_L10 rows ((i - 1 : Nat) : Int)) 0).f0 (rd_T47 (rd_L10 rows ((i - 1 : Nat) : Int)) 0).f1 (rd_T47 (rd_L10 rows ((i - 1 : Nat) : Int)) 0).f2 (rd_T47 (rd_L10 rows (i : Int)) 0).f0 (rd_T47 (rd_L10 rows (i : Int)) 0).f1 (rd_T47 (rd_L10 rows (i : Int)) 0).f2).bind fun t135 => (if t135 ≥ 0 then some false else ark_isGood.l1 k n (t : Int) rows tabs (tabs.length : Int) (t : Int) rows (rows.length : Int) ((i + 1 : Nat) : Int) T V) else some false := by
     intro k
     rw [ark_isGood.l1, if_pos (by omega), if_pos (by omega), if_pos (by omega)]
     refine congrArg (fun f => Option.bind _ f) (funext fun z => ?_)
     by_cases hz : z = 0
     ·rw [if_pos hz, if_pos hz, if_pos (by omega), hw2, if_pos (by omega), if_pos (by omega), if_pos (show 0 < ((rd_L10 rows ((i - 1 : Nat) : Int)).length : Int) from by show 0 < (((rows.getD (i - 1) []).length : Nat) : Int); omega), if_pos (show 0 < ((rd_L10 rows (i : Int)).length : Int) from by show 0 < (((rows.getD i []).length : Nat) : Int); omega), hw]
     ·rw [if_neg hz, if_neg hz]
    by_cases hcc : c ≥ 0
    ·refine ⟨false, Ev.step (fun k => hhead k) (Ev.bind f1 ?_), fun hb => by cases hb⟩
     refine Ev.congr (fun k => if_pos rfl) (Ev.bind hcm ?_)
     refine Ev.congr (fun k => by rw [if_pos hcc]) (Ev.now false)
    ·refine ⟨b, Ev.step (fun k => hhead k) (Ev.bind f1 ?_), hyes⟩
     refine Ev.congr (fun k => if_pos rfl) (Ev.bind hcm ?_)
     exact Ev.congr (fun k => by rw [if_neg hcc]) h1
   ·refine ⟨b, Ev.step (f := fun k => (plan_Fits.f k T V (t : Int) (rows.getD i [])).bind fun t131 => if t131 = 0 then ark_isGood.l1 k n (t : Int) rows tabs (tabs.length : Int) (t : Int) rows (rows.length : Int) ((i + 1 : Nat) : Int) T V else some false) (fun k => ?_) (Ev.bind f1 (Ev.congr (fun k => if_pos rfl) h1)), hyes⟩
    rw [ark_isGood.l1, if_pos (by omega), if_pos (by omega), if_pos (by omega)]
    refine congrArg (fun f => Option.bind _ f) (funext fun z => ?_)
    by_cases hz : z = 0
    ·rw [if_pos hz, if_pos hz, if_neg (by omega), hw]
    ·rw [if_neg hz, if_neg hz]
  ·have hh : ∃ X : Nat → Option Bool, ∀ k, ark_isGood.l1 (k + 1) n (t : Int) rows tabs (tabs.length : Int) (t : Int) rows (rows.length : Int) (i : Int) T V = (plan_Fits.f k T V (t : Int) (rows.getD i [])).bind fun z => if z = 0 then X k else some false :=
    ⟨_, fun k => by rw [ark_isGood.l1, if_pos (by omega), if_pos (by omega), if_pos (by omega)]; rfl⟩
   obtain ⟨X, hX⟩ := hh
   exact ⟨false, Ev.step hX (Ev.bind f1 (Ev.congr (fun k => if_neg hb0) (Ev.now false))), fun hb => by cases hb⟩
theorem sumLen_cons (x : List (List Vl)) (X : List (List (List Vl))) : sumLen (x :: X) = x.length + sumLen X := by simp [sumLen]
theorem l0_total (T : List Tb') (V : List S44) (tabs : List (List (List Vl))) (hT : tabs.length = T.length) (hTl : T.length ≤ 100) (hc : ∀ t ∈ T, 1 ≤ t.f0.length) (hr : ∀ x ∈ tabs, x.length ≤ 1000000 ∧ ∀ r ∈ x, r.length ≤ 1000000) :
  ∀ d t n : Nat, t + d = T.length → n + sumLen (tabs.drop t) ≤ 1000000000 → ∃ b, Ev (fun k => ark_isGood.l0 k (n : Int) tabs (tabs.length : Int) (t : Int) T V) b ∧ (b = true → n + sumLen (tabs.drop t) ≤ 1000 ∧ fitG (T.drop t) (tabs.drop t))
 | 0, t, n, h, hn => by
  refine ⟨decide ((n : Int) ≤ 1000), Ev.one fun k => by rw [ark_isGood.l0, if_neg (by omega)], fun hb => ?_⟩
  have := of_decide_eq_true hb
  rw [List.drop_eq_nil_of_le (by omega), List.drop_eq_nil_of_le (by omega)]
  exact ⟨by simp [sumLen]; omega, trivial⟩
 | d + 1, t, n, h, hn => by
  have hgd : rd_L11 tabs (t : Int) = tabs.getD t [] := rfl
  have hmem : tabs.getD t [] ∈ tabs := by
   rw [List.getD_eq_getElem?_getD, List.getElem?_eq_getElem (by omega)]
   exact List.getElem_mem _
  have hdr : tabs.drop t = tabs.getD t [] :: tabs.drop (t + 1) := by
   rw [List.drop_eq_getElem_cons (by omega), List.getD_eq_getElem?_getD, List.getElem?_eq_getElem (by omega)]
   rfl
  have hdT : T.drop t = rd_T41 T (t : Int) :: T.drop (t + 1) := by
   rw [List.drop_eq_getElem_cons (by omega)]
   show _ = T.getD t _ :: _
   rw [List.getD_eq_getElem?_getD, List.getElem?_eq_getElem (by omega)]
   rfl
  have hmT : rd_T41 T (t : Int) ∈ T := by
   show T.getD t _ ∈ T
   rw [List.getD_eq_getElem?_getD, List.getElem?_eq_getElem (by omega)]
   exact List.getElem_mem _
  rw [hdr, sumLen_cons] at hn
  have hw : wrap64 ((n : Int) + ((rd_L11 tabs (t : Int)).length : Int)) = ((n + (tabs.getD t []).length : Nat) : Int) := by
   rw [hgd]
   unfold wrap64
   omega
  obtain ⟨b0, g1, g2⟩ := l0_total T V tabs hT hTl hc hr d (t + 1) (n + (tabs.getD t []).length) (by omega) (by omega)
  obtain ⟨b, h1, h2⟩ := l1_total T V tabs hT hTl t (by omega) (hc _ hmT) (tabs.getD t []) (hr _ hmem).1 (hr _ hmem).2 ((n + (tabs.getD t []).length : Nat) : Int) _ ⟨b0, g1, g2⟩ (tabs.getD t []).length 0 (by omega) (fun hh => absurd hh (Nat.lt_irrefl 0))
  refine ⟨b, Ev.step (fun k => by rw [ark_isGood.l0, if_pos (by omega), if_pos (by omega), if_pos (by omega), hw]; rfl) h1, fun hb => ?_⟩
  obtain ⟨⟨e1, e2⟩, e3⟩ := h2 hb
  rw [List.drop_zero] at e3
  rw [hdr, hdT, sumLen_cons]
  exact ⟨by omega, ⟨by omega, e3⟩, e2⟩
theorem okPlan_tabs {T : List Tb'} {V : List S44} (h : okPlan T V = true) : T.length ≤ 3 ∧ ∀ t ∈ T, 1 ≤ t.f0.length ∧ t.f0.length ≤ 4 := by
 unfold okPlan at h
 simp only [Bool.and_eq_true, decide_eq_true_eq, Bool.not_eq_true'] at h
 refine ⟨h.2.1, fun t ht => ?_⟩
 have h1 := h.2.2.2.1
 have := List.any_eq_false.1 h1 t ht
 unfold badTab okTab at this
 simp only [Bool.not_eq_true', Bool.not_eq_false, Bool.and_eq_true, decide_eq_true_eq] at this
 exact ⟨this.1, this.2.1⟩
theorem isGood_total (T : List Tb') (V : List S44) (tabs : List (List (List Vl))) (hr : ∀ x ∈ tabs, x.length ≤ 1000000 ∧ ∀ r ∈ x, r.length ≤ 1000000) (hs : sumLen tabs ≤ 1000000000) (hl : tabs.length ≤ 1000000) :
  ∃ b, Ev (fun k => ark_isGood.f k T V tabs) b ∧ (b = true → okPlan T V = true ∧ fitG T tabs) := by
 have hj : ∀ k, ark_isGood.j0 (k + 1) tabs true T V = some false := fun k => by rw [ark_isGood.j0, if_pos rfl]
 cases hp : okPlan T V with
 | false =>
  refine ⟨false, Ev.congr (f := fun k => ark_isGood.j0 k tabs true T V) (fun k => ?_) (Ev.one hj), fun hb => by cases hb⟩
  rw [ark_isGood.f, plan_Good.f, hp, Option.bind_some, if_neg (by decide)]
 | true =>
  have hf : ∀ k, ark_isGood.f k T V tabs = ark_isGood.j0 k tabs ((tabs.length : Int) != (T.length : Int)) T V := fun k => by rw [ark_isGood.f, plan_Good.f, hp, Option.bind_some, if_pos rfl]
  by_cases hT : tabs.length = T.length
  ·obtain ⟨p1, p2⟩ := okPlan_tabs hp
   obtain ⟨b, h1, h2⟩ := l0_total T V tabs hT (by omega) (fun t ht => (p2 t ht).1) hr T.length 0 0 (by omega) (by rw [List.drop_zero]; omega)
   refine ⟨b, Ev.congr (fun k => by rw [hf, show ((tabs.length : Int) != (T.length : Int)) = false by simp [hT]]) (Ev.step (fun k => by rw [ark_isGood.j0, if_neg (by decide)]; rfl) h1), fun hb => ⟨rfl, ?_⟩⟩
   have := (h2 hb).2
   rwa [List.drop_zero, List.drop_zero] at this
  ·refine ⟨false, Ev.congr (fun k => by rw [hf, show ((tabs.length : Int) != (T.length : Int)) = true by simp; omega]) (Ev.one hj), fun hb => by cases hb⟩
theorem Ev.uniq {α : Type} {g : Nat → Option α} {a b : α} (h : Ev g a) (k : Ev g b) : a = b := by
 obtain ⟨K1, h⟩ := h
 obtain ⟨K2, k⟩ := k
 have h1 := h (K1 + K2) (by omega)
 have h2 := k (K1 + K2) (by omega)
 rw [h1] at h2
 exact Option.some.inj h2
theorem shifted_total : ∀ (d i : Nat) (x : Int), i + d = 8 → ∃ r, Ev (fun k => crc_shifted.l0 k x (i : Int)) r
 | 0, i, x, h => ⟨x, Ev.one fun k => by rw [crc_shifted.l0, if_neg (by omega)]⟩
 | d + 1, i, x, h => by
  have hw : wrap64 ((i : Int) + 1) = ((i + 1 : Nat) : Int) := by unfold wrap64; omega
  obtain ⟨r, hr⟩ := shifted_total d (i + 1) (Go.bits .xor .u32 (x / 2) (Go.bits .and .u32 3988292384 ((-(Go.bits .and .u32 x 1)) % 4294967296))) (by omega)
  exact ⟨r, Ev.step (fun k => by rw [crc_shifted.l0, if_pos (by omega), hw]) hr⟩
theorem sum_total (s : ByteArray) (hs : s.size ≤ 1000000000) : ∀ (d i : Nat) (x : Int), i + d = s.size → ∃ r, Ev (fun k => crc_Sum.l0 k s x (s.size : Int) (i : Int)) r
 | 0, i, x, h => ⟨_, Ev.one fun k => by rw [crc_Sum.l0, if_neg (by omega)]⟩
 | d + 1, i, x, h => by
  have hw : wrap64 ((i : Int) + 1) = ((i + 1 : Nat) : Int) := by unfold wrap64; omega
  obtain ⟨y, hy⟩ := shifted_total 8 0 (Go.bits .xor .u32 x ((bt s (i : Int)) % 4294967296)) rfl
  obtain ⟨r, hr⟩ := sum_total s hs d (i + 1) y (by omega)
  refine ⟨r, Ev.step (f := fun k => (crc_shifted.f k (Go.bits .xor .u32 x ((bt s (i : Int)) % 4294967296))).bind fun t => crc_Sum.l0 k s t (s.size : Int) ((i + 1 : Nat) : Int)) (fun k => by rw [crc_Sum.l0, if_pos (by omega), if_pos (by omega), if_pos (by omega), hw]) (Ev.bind hy hr)⟩
theorem le4_size (n : Int) : (strOfNums (le4 n)).size = 4 := by
 show ((le4 n).map fun n => UInt8.ofNat n.toNat).toArray.size = 4
 simp [le4]
theorem seal_total (s : ByteArray) (hs : s.size ≤ 1000000000) : ∃ x tl, Ev (fun k => crc_Seal.f k s) x ∧ x = s ++ tl ∧ tl.size = 4 := by
 obtain ⟨n, hn⟩ := sum_total s hs s.size 0 4294967295 (by omega)
 refine ⟨s ++ strOfNums (le4 n), strOfNums (le4 n), Ev.congr (fun k => rfl) (Ev.bind hn ?_), rfl, le4_size n⟩
 refine Ev.congr (fun k => ?_) (Ev.now _)
 rw [crc_Tail.f, Option.bind_some, if_pos (by rw [le4_size]; omega)]
theorem open_total (x : ByteArray) (hx : x.size ≤ 1000000000) : ∃ t ok, Ev (fun k => crc_Open.f k x) (t, ok) ∧ (ok = true → Ev (fun k => crc_Seal.f k t) x) := by
 by_cases h4 : x.size < 4
 ·exact ⟨_, false, Ev.congr (fun k => by rw [crc_Open.f, if_pos (by omega)]) (Ev.now _), fun h => by cases h⟩
 ·have hw : wrap64 ((x.size : Int) - 4) = ((x.size - 4 : Nat) : Int) := by unfold wrap64; omega
  obtain ⟨y, tl, h1, h2, h3⟩ := seal_total (x.extract 0 (x.size - 4)) (by rw [ByteArray.size_extract]; omega)
  by_cases hy : y.toList = x.toList
  ·refine ⟨x.extract 0 (x.size - 4), true, Ev.congr (f := fun k => (crc_Seal.f k (x.extract 0 (x.size - 4))).bind fun t => if t.toList = x.toList then some (x.extract 0 (x.size - 4), true) else some ((⟨#[]⟩ : ByteArray), false)) (fun k => ?_) (Ev.bind h1 (Ev.congr (fun k => if_pos hy) (Ev.now _))), fun _ => ?_⟩
   ·rw [crc_Open.f, if_neg (by omega), hw, if_pos (by omega), if_pos (by omega), Int.toNat_natCast]
   ·rw [toList_data, toList_data] at hy
    rw [bytes_ext hy] at h1
    exact h1
  ·refine ⟨_, false, Ev.congr (f := fun k => (crc_Seal.f k (x.extract 0 (x.size - 4))).bind fun t => if t.toList = x.toList then some (x.extract 0 (x.size - 4), true) else some ((⟨#[]⟩ : ByteArray), false)) (fun k => ?_) (Ev.bind h1 (Ev.congr (fun k => if_neg hy) (Ev.now _))), fun h => by cases h⟩
   rw [crc_Open.f, if_neg (by omega), hw, if_pos (by omega), if_pos (by omega), Int.toNat_natCast]
theorem open_seal {s x : ByteArray} (hs : s.size ≤ 900000000) (h : Ev (fun k => crc_Seal.f k s) x) : Ev (fun k => crc_Open.f k x) (s, true) := by
 obtain ⟨y, tl, h1, h2, h3⟩ := seal_total s (by omega)
 have hxy := Ev.uniq h h1
 have hx : x = s ++ tl := by rw [hxy, h2]
 have hsz : x.size = s.size + 4 := by rw [hx, ByteArray.size_append, h3]
 have he : x.extract 0 (x.size - 4) = s := by
  refine bytes_ext ?_
  rw [ext_data, hx, app_data, List.drop_zero, List.take_left']
  rw [Array.length_toList, ← hx, hsz]
  show s.data.size = _
  have : s.data.size = s.size := rfl
  omega
 have hw : wrap64 ((x.size : Int) - 4) = ((x.size - 4 : Nat) : Int) := by unfold wrap64; omega
 refine Ev.congr (f := fun k => (crc_Seal.f k s).bind fun t => if t.toList = x.toList then some (s, true) else some ((⟨#[]⟩ : ByteArray), false)) (fun k => ?_) (Ev.bind h (Ev.congr (fun k => if_pos rfl) (Ev.now _)))
 rw [crc_Open.f, if_neg (by omega), hw, if_pos (by omega), if_pos (by omega), Int.toNat_natCast, he]
theorem fitG_ok : ∀ (T : List Tb') (tabs : List (List (List Vl))), fitG T tabs → (∀ t ∈ T, t.f0.length ≤ 4) → tabs.all okRows = true ∧ tabs.length = T.length
 | [], [], _, _ => ⟨rfl, rfl⟩
 | t :: T, x :: X, h, hT => by
  obtain ⟨h1, h2⟩ := fitG_ok T X h.2 (fun y hy => hT y (by simp [hy]))
  have ht := hT t (by simp)
  refine ⟨?_, by simp [h2]⟩
  rw [List.all_cons, h1]
  have : okRows x = true := by
   unfold okRows
   rw [Bool.and_eq_true]
   refine ⟨decide_eq_true h.1.1, List.all_eq_true.2 fun r hr => ?_⟩
   unfold okRow
   rw [Bool.and_eq_true]
   exact ⟨decide_eq_true (by rw [(h.1.2 r hr).1]; exact ht), (h.1.2 r hr).2⟩
  rw [this]
  rfl
 | [], _ :: _, h, _ => h.elim
 | _ :: _, [], h, _ => h.elim
theorem fitG_fit : ∀ (T : List Tb') (tabs : List (List (List Vl))), fitG T tabs → (∀ t ∈ T, t.f0.length ≤ 4) → (∀ x ∈ tabs, ∀ r ∈ x, ∀ v ∈ r, okN v) → fitTabs T tabs
 | [], [], _, _, _ => trivial
 | t :: T, x :: X, h, hT, hN => ⟨⟨hT t (by simp), h.1.1, fun r hr => ⟨(h.1.2 r hr).1, (h.1.2 r hr).2, hN x (by simp) r hr⟩⟩, fitG_fit T X h.2 (fun y hy => hT y (by simp [hy])) (fun y hy => hN y (by simp [hy]))⟩
 | [], _ :: _, h, _, _ => h.elim
 | _ :: _, [], h, _, _ => h.elim
theorem pack_good {T : List Tb'} {V : List S44} {tabs : List (List (List Vl))} (hg : Ev (fun k => ark_isGood.f k T V tabs) true) (hp : okPlan T V = true) (hf : fitG T tabs) :
  ∃ x, Ev (fun k => ark_Pack.f k T V tabs) (x, 0) ∧ Ev (fun k => crc_Seal.f k (ofL (packB tabs))) x ∧ (packB tabs).length ≤ 900000000 := by
 obtain ⟨p1, p2⟩ := okPlan_tabs hp
 obtain ⟨o1, o2⟩ := fitG_ok T tabs hf (fun t ht => (p2 t ht).2)
 have hl := packB_len tabs o1
 have hok : okTabs tabs = true := by
  unfold okTabs
  rw [Bool.and_eq_true]
  exact ⟨decide_eq_true (by omega), o1⟩
 have hlen : (packB tabs).length ≤ 900000000 := by
  have : tabs.length ≤ 3 := by omega
  have : 36002 * tabs.length ≤ 36002 * 3 := Nat.mul_le_mul_left _ this
  omega
 obtain ⟨x, tl, h1, _⟩ := seal_total (ofL (packB tabs)) (by rw [ofL_size]; omega)
 refine ⟨x, Ev.congr (fun k => rfl) (Ev.bind hg ?_), h1, hlen⟩
 refine Ev.congr (fun k => if_pos rfl) ?_
 refine Ev.congr (fun k => if_pos hok) ?_
 exact Ev.bind h1 (Ev.now _)
theorem pack_bad {T : List Tb'} {V : List S44} {tabs : List (List (List Vl))} (hg : Ev (fun k => ark_isGood.f k T V tabs) false) : Ev (fun k => ark_Pack.f k T V tabs) (⟨#[]⟩, 1) :=
 Ev.congr (fun k => rfl) (Ev.bind hg (Ev.congr (fun k => if_neg (by decide)) (Ev.now _)))
theorem unpack_fwd {T : List Tb'} {V : List S44} {tabs : List (List (List Vl))} {x : ByteArray} (hg : Ev (fun k => ark_isGood.f k T V tabs) true) (hp : okPlan T V = true) (hf : fitTabs T tabs) (hl : (packB tabs).length ≤ 900000000) (hx : Ev (fun k => crc_Seal.f k (ofL (packB tabs))) x) :
  Ev (fun k => ark_Unpack.f k T V x) (tabs, 0) := by
 obtain ⟨p1, p2⟩ := okPlan_tabs hp
 have hu := unp_fwd T tabs [] [] hf (by simp; omega)
 rw [List.append_nil, List.nil_append] at hu
 refine Ev.congr (fun k => rfl) (Ev.bind (open_seal (by rw [ofL_size]; exact hl) hx) ?_)
 refine Ev.congr (fun k => if_pos rfl) ?_
 refine Ev.congr (f := fun k => (unpL k T (ofL (packB tabs)) false []).bind fun u => unpEnd k T V u) (fun k => by rw [plan_Good.f, hp, Option.bind_some, if_pos rfl]) (Ev.bind hu ?_)
 refine Ev.congr (f := fun k => (ark_isGood.f k T V tabs).bind fun g => if g = true then some (tabs, 0) else some ([], 3)) (fun k => ?_) (Ev.bind hg (Ev.congr (fun k => if_pos rfl) (Ev.now _)))
 unfold unpEnd
 simp only
 rw [if_neg (by decide), if_pos (by rw [toList_data]; rfl)]
theorem sumLen_le : ∀ l : List (List (List Vl)), (∀ x ∈ l, x.length ≤ 65535) → sumLen l ≤ 65535 * l.length
 | [], _ => by simp [sumLen]
 | x :: l, h => by
  have h1 := sumLen_le l (fun y hy => h y (by simp [hy]))
  have h2 := h x (by simp)
  rw [sumLen_cons, List.length_cons]
  omega
theorem unpack_total' (T : List Tb') (V : List S44) (s : ByteArray) (hs : s.size ≤ 1000000) :
  ∃ r, Ev (fun k => ark_Unpack.f k T V s) r ∧ (r = ([], 3) ∨ (r.2 = 0 ∧ Ev (fun k => ark_Pack.f k T V r.1) (s, 0) ∧ r.1.length ≤ 3 ∧ ∀ x ∈ r.1, x.length ≤ 65535 ∧ ∀ y ∈ x, y.length ≤ 4 ∧ ∀ v ∈ y, okN v)) := by
 obtain ⟨t, ok, h1, h2⟩ := open_total s (by omega)
 cases ok with
 | false =>
  exact ⟨([], 3), Ev.congr (fun k => rfl) (Ev.bind h1 (Ev.congr (fun k => if_neg (by simp)) (Ev.now _))), Or.inl rfl⟩
 | true =>
  cases hp : okPlan T V with
  | false =>
   refine ⟨([], 3), Ev.congr (fun k => rfl) (Ev.bind h1 (Ev.congr (fun k => if_pos rfl) (Ev.congr (fun k => ?_) (Ev.now _)))), Or.inl rfl⟩
   rw [plan_Good.f, hp, Option.bind_some, if_neg (by decide)]
  | true =>
   obtain ⟨p1, p2⟩ := okPlan_tabs hp
   obtain ⟨u, u1, u2, u3, u4⟩ := unp_bwd T t false [] (fun t ht => (p2 t ht).2) (by simp; omega)
   have wrapUp : ∀ r, Ev (fun k => unpEnd k T V u) r → Ev (fun k => ark_Unpack.f k T V s) r := fun r hr =>
    Ev.congr (fun k => rfl) (Ev.bind h1 (Ev.congr (fun k => if_pos rfl) (Ev.congr (f := fun k => (unpL k T t false []).bind fun u => unpEnd k T V u) (fun k => by rw [plan_Good.f, hp, Option.bind_some, if_pos rfl]) (Ev.bind u1 hr))))
   obtain ⟨out, rest, bad⟩ := u
   cases bad with
   | true => exact ⟨([], 3), wrapUp _ (Ev.congr (fun k => by unfold unpEnd; exact if_pos rfl) (Ev.now _)), Or.inl rfl⟩
   | false =>
    by_cases hr : rest.toList = ([] : List UInt8)
    ·obtain ⟨_, tabs, e1, e4, e2⟩ := u4 rfl
     simp only [List.nil_append] at e1
     subst e1
     simp only at e2 u2 u3
     rw [← toList_data rest, hr, List.append_nil] at e2
     have ht : t = ofL (packB out) := bytes_ext (by rw [e2]; rfl)
     have hx65 : ∀ x ∈ out, x.length ≤ 65535 := fun x hx => (u3 x hx).elim (fun h => by cases h) id
     have hsum := sumLen_le out hx65
     obtain ⟨b, g1, g2⟩ := isGood_total T V out (fun x hx => ⟨by have := hx65 x hx; omega, fun y hy => by have := (e4 x hx y hy).1; omega⟩) (by rw [List.length_nil] at u2; omega) (by rw [List.length_nil] at u2; omega)
     have hend : Ev (fun k => unpEnd k T V (out, rest, false)) (if b = true then (out, 0) else ([], 3)) := by
      refine Ev.congr (f := fun k => (ark_isGood.f k T V out).bind fun g => if g = true then some (out, 0) else some ([], 3)) (fun k => ?_) (Ev.bind g1 ?_)
      ·unfold unpEnd
       simp only
       rw [if_neg (by decide), if_pos hr]
      ·cases b with
       | true => exact Ev.now _
       | false => exact Ev.now _
     refine ⟨_, wrapUp _ hend, ?_⟩
     cases b with
     | false => exact .inl rfl
     | true =>
      obtain ⟨hpp, hfg⟩ := g2 rfl
      obtain ⟨x, x1, x2, _⟩ := pack_good g1 hpp hfg
      have h2' := h2 rfl
      rw [ht] at h2'
      rw [Ev.uniq h2' x2]
      exact .inr ⟨rfl, x1, by rw [List.length_nil] at u2; show out.length ≤ 3; omega, fun x hx => ⟨hx65 x hx, e4 x hx⟩⟩
    ·refine ⟨([], 3), wrapUp _ (Ev.congr (fun k => ?_) (Ev.now _)), Or.inl rfl⟩
     unfold unpEnd
     simp only
     rw [if_neg (by decide), if_neg hr]
open Go.RowKit Go.Shelf Go.Proofs.YtfkkeddjfiljfaaW.PrintWords Go.Proofs.YtfkkeddjfiljfaaW.PrintMore Go.Proofs.Ytfkkeddjfiljfaa.PArk
theorem C_one {α : Type} {d : Kd α} {w : World} {ad : Addr} {x : α} {cs : List Value} (h : d.K w x cs) (hc : ∀ i u, cs[i]? = some u → w.cell? (ad.add i) = some u) : d.C w (some ad) 1 [x] := by
 refine ⟨rfl, by omega, fun _ => ⟨ad, rfl, fun j p hp => ?_⟩⟩
 rcases j with _ | j
 ·obtain rfl := Option.some.inj hp
  exact ⟨cs, d.K_len h, h, fun i u hu => by rw [Nat.zero_mul, Nat.zero_add]; exact hc i u hu⟩
 ·simp at hp
def tabs1 : List S41 := [⟨[1]⟩]
theorem alloc_at {w : World} {n : Nat} (hn : w.heap.size = n) (o : Obj) : (w.alloc o).heap[n]? = some o ∧ (w.alloc o).heap.size = n + 1 := by
 subst hn
 exact ⟨heap_alloc_new w o, by simp⟩
theorem awake_world (w : World) :
  ∀ W5, W5 = (((((w.alloc (.cells #[.int .i64 1] 3)).alloc (.cells #[.slice (some ⟨w.heap.size, 0, none⟩) 1 1] 41)).alloc (.cells #[.slice (some ⟨w.heap.size + 1, 0, none⟩) 1 1, .slice none 0 0] 25)).alloc (.cells #[] 45)).alloc (.cells #[.slice (some ⟨w.heap.size + 1 + 1 + 1, 0, none⟩) 0 0] 42)) →
  Below w.heap.size w W5 ∧ Kd.C k41 W5 (some ⟨w.heap.size + 1, 0, none⟩) 1 tabs1 ∧ Kd.C (Kd.slice 45 (Kd.slice 47 k47)) W5 (some ⟨w.heap.size + 1 + 1 + 1 + 1, 0, none⟩) 1 [[]] ∧ W5.heap[w.heap.size + 1 + 1]? = some (.cells #[.slice (some ⟨w.heap.size + 1, 0, none⟩) 1 1, .slice none 0 0] 25) ∧ w.heap.size + 1 + 1 < W5.heap.size := by
 intro W5 hW
 obtain ⟨a1, s1⟩ := alloc_at (w := w) rfl (.cells #[.int .i64 1] 3)
 obtain ⟨a2, s2⟩ := alloc_at s1 (.cells #[.slice (some ⟨w.heap.size, 0, none⟩) 1 1] 41)
 obtain ⟨a3, s3⟩ := alloc_at s2 (.cells #[.slice (some ⟨w.heap.size + 1, 0, none⟩) 1 1, .slice none 0 0] 25)
 obtain ⟨a4, s4⟩ := alloc_at s3 (.cells #[] 45)
 obtain ⟨a5, s5⟩ := alloc_at s4 (.cells #[.slice (some ⟨w.heap.size + 1 + 1 + 1, 0, none⟩) 0 0] 42)
 have b1 := blk_alloc (blk_alloc (blk_alloc (blk_alloc a1 (.cells #[.slice (some ⟨w.heap.size, 0, none⟩) 1 1] 41)) (.cells #[.slice (some ⟨w.heap.size + 1, 0, none⟩) 1 1, .slice none 0 0] 25)) (.cells #[] 45)) (.cells #[.slice (some ⟨w.heap.size + 1 + 1 + 1, 0, none⟩) 0 0] 42)
 have b2 := blk_alloc (blk_alloc (blk_alloc a2 (.cells #[.slice (some ⟨w.heap.size + 1, 0, none⟩) 1 1, .slice none 0 0] 25)) (.cells #[] 45)) (.cells #[.slice (some ⟨w.heap.size + 1 + 1 + 1, 0, none⟩) 0 0] 42)
 have b3 := blk_alloc (blk_alloc a3 (.cells #[] 45)) (.cells #[.slice (some ⟨w.heap.size + 1 + 1 + 1, 0, none⟩) 0 0] 42)
 have hB : Below w.heap.size w W5 := by
  rw [hW]
  exact below_alloc (below_alloc (below_alloc (below_alloc (below_alloc (Below.refl _ _) _) _) _) _) _
 rw [← hW] at b1 b2 b3 a5 s5
 refine ⟨hB, ?_, ?_, b3, by omega⟩
 ·refine C_one (cs := [.slice (some ⟨w.heap.size, 0, none⟩) 1 1]) ?_ ?_
  ·refine k41_mk W5 ⟨[1]⟩ (Nat.le_refl _) ?_
   refine C_one (cs := [.int .i64 1]) rfl ?_
   intro i u hu
   rw [add_plain]
   exact (blk_cell b1 i).trans (by rcases i with _ | i; exact hu; simp at hu)
  ·intro i u hu
   rw [add_plain]
   exact (blk_cell b2 i).trans (by rcases i with _ | i; exact hu; simp at hu)
 ·refine C_one (cs := [.slice (some ⟨w.heap.size + 1 + 1 + 1, 0, none⟩) 0 0]) ?_ ?_
  ·exact ⟨_, 0, rfl, Nat.le_refl _, rfl, Nat.zero_le _, fun h => absurd h (Nat.lt_irrefl 0)⟩
  ·intro i u hu
   rw [add_plain]
   exact (blk_cell a5 i).trans (by rcases i with _ | i; exact hu; simp at hu)
set_option maxRecDepth 100000 in
theorem c_awake (k : Nat) (b c : List (List (List S47))) (w : World) (h1 : ark_Pack.f k tabs1 [] [[]] = some (⟨#[0, 0, 255, 18, 217, 65]⟩, 0)) (h2 : ark_Unpack.f k tabs1 [] ⟨#[0, 0, 255, 18, 217, 65]⟩ = some ([[]], 0)) (h3 : ark_Unpack.f k tabs1 [] ⟨#[]⟩ = some (c, 3)) :
  Calls Try.prog 4 #[] w fun e w' => e = .returned (.bool true) ∧ Below w.heap.size w w' := by
 have H1 := Lib.hid h1
 have H2 := Lib.hid h2
 have H3 := Lib.hid h3
 clear h1 h2 h3
 go_enter Try.func4, Try.ntmps4
 go_wp2_with fail
 generalize hW5 : ((((w.alloc (.cells #[.int .i64 1] 3)).alloc (.cells #[.slice (some ⟨w.heap.size, 0, none⟩) 1 1] 41)).alloc (.cells #[.slice (some ⟨w.heap.size + 1, 0, none⟩) 1 1, .slice none 0 0] 25)).alloc (.cells #[] 45)).alloc (.cells #[.slice (some ⟨w.heap.size + 1 + 1 + 1, 0, none⟩) 0 0] 42) = W5
 obtain ⟨hB, hT, hE, hP, hlt⟩ := awake_world w W5 hW5.symm
 clear hW5
 have HT := Lib.hid hT
 refine (ark_Pack.calls k _ _ tabs1 _ _ [] _ _ [[]] _ _ _ hT (Nat.le_refl _) (Kd.C_nil _ _) (Nat.le_refl _) hE (Nat.le_refl _) H1.out).mono ?_
 rintro e w1 ⟨rfl, hb⟩
 have HB1 := Lib.hid (below_step hB hb)
 have HT1 := Lib.hid (Kd.C_below HT.out hb)
 have HP1 := Lib.hid (blk_below hP hb)
 clear hb hB hT hE hP hlt HT
 have c0 := (blk_cell HP1.out 0).trans rfl
 have c1 := (blk_cell HP1.out 1).trans rfl
 go_wp2_with fail
 refine (ark_Unpack.calls k _ _ tabs1 _ _ [] _ _ _ _ HT1.out (Nat.le_refl _) (Kd.C_nil _ _) (Nat.le_refl _) H2.out).mono ?_
 rintro e w2 ⟨v2, rfl, hv2, hb⟩
 have HB2 := Lib.hid (below_step HB1.out hb)
 have HT2 := Lib.hid (Kd.C_below HT1.out hb)
 have HP2 := Lib.hid (blk_below HP1.out hb)
 obtain ⟨A2, e2, rfl, hc2, hC2⟩ := Kd.R_reads hv2
 have HC2 := Lib.hid hC2
 clear hb HB1 HT1 HP1 hv2 c0 c1 hC2
 have c0 := (blk_cell HP2.out 0).trans rfl
 have c1 := (blk_cell HP2.out 1).trans rfl
 go_wp2_with fail
 refine (ark_Unpack.calls k _ _ tabs1 _ _ [] _ _ _ _ HT2.out (Nat.le_refl _) (Kd.C_nil _ _) (Nat.le_refl _) H3.out).mono ?_
 rintro e w3 ⟨v3, rfl, hv3, hb⟩
 have HB3 := Lib.hid (below_step HB2.out hb)
 obtain ⟨A3, e3, rfl⟩ := Kd.R_slice hv3
 obtain ⟨ad, B2, f2, rfl, y2, hl2, hr2⟩ := at_L11 (Kd.C_below HC2.out hb) 0 (by omega) (by decide)
 clear hb HB2 HT2 HP2 hv3 c0 c1 hl2 hr2 HC2
 have y3 : w3.cell? (ad.add 0) = some (.slice B2 0 f2) := by have y4 := y2; rw [show (rd_L11 [[]] 0).length = 0 from rfl] at y4; simpa using y4
 clear y2
 have y5 : w3.cell? ad = some (.slice B2 0 f2) := by rw [show ad.add 0 = ad from by cases ad; rfl] at y3; exact y3
 clear y3
 go_wp2
 go_ret
 exact ⟨rfl, HB3.out⟩
namespace PArk
def gaugerlaw35_awake.f (k : Nat) : Option Bool :=
 (ark_Pack.f k tabs1 [] [[]]).bind fun a => (ark_Unpack.f k tabs1 [] ⟨#[0, 0, 255, 18, 217, 65]⟩).bind fun b => (ark_Unpack.f k tabs1 [] ⟨#[]⟩).bind fun c => if a.2 = 0 ∧ a.1 = ⟨#[0, 0, 255, 18, 217, 65]⟩ ∧ b.2 = 0 ∧ (b.1.length = 1 ∧ b.1.getD 0 [] = []) ∧ c.2 = 3 then some true else none
theorem gaugerlaw35_awake.mono : ∀ k, LeO (gaugerlaw35_awake.f k) (gaugerlaw35_awake.f (k + 1)) := fun k =>
 LeO.bind (ark_Pack.mono _ _ _ _) fun _ => LeO.bind (ark_Unpack.mono _ _ _ _) fun _ => LeO.bind (ark_Unpack.mono _ _ _ _) fun _ => LeO.refl _
theorem gaugerlaw35_awake.calls (k : Nat) (r : Bool) (w : World) (h : gaugerlaw35_awake.f k = some r) :
  Calls Try.prog 4 #[] w fun e w' => e = .returned (.bool r) ∧ Below w.heap.size w w' := by
 unfold gaugerlaw35_awake.f at h
 obtain ⟨⟨a1, a2⟩, h1, h⟩ := Option.bind_eq_some_iff.mp h
 obtain ⟨⟨b1, b2⟩, h2, h⟩ := Option.bind_eq_some_iff.mp h
 obtain ⟨⟨c1, c2⟩, h3, h⟩ := Option.bind_eq_some_iff.mp h
 simp only at h
 by_cases hc : a2 = 0 ∧ a1 = ⟨#[0, 0, 255, 18, 217, 65]⟩ ∧ b2 = 0 ∧ (b1.length = 1 ∧ b1.getD 0 [] = []) ∧ c2 = 3
 ·rw [if_pos hc] at h
  obtain rfl := Option.some.inj h
  obtain ⟨rfl, rfl, rfl, ⟨hl, hb⟩, rfl⟩ := hc
  have hbb : b1 = [[]] := by
   match b1, hl, hb with
   | [x], _, hx => exact congrArg (fun y => [y]) hx
  subst hbb
  exact c_awake k [] c1 w h1 h2 h3
 ·rw [if_neg hc] at h
  cases h
end PArk
end Go.Proofs.Ytfkkeddjfiljfaa

/-
  LAYER 35: gaugerlaw35.awake: a contract that the print takes as given.
-/
import Derived.Test.YtkcckhlchjmkkaaArkP
import Derived.Test.YtkcckhlchjmkkaaArkU
import Derived.Lib.Hide
import Derived.Outline
set_option linter.unusedVariables false
set_option linter.unusedSimpArgs false
namespace Go.Proofs.Ytkcckhlchjmkkaa
open Go.RowKit Go.Shelf Go.Proofs.YtkcckhlchjmkkaaW.PrintWords Go.Proofs.YtkcckhlchjmkkaaW.PrintMore Go.Proofs.Ytkcckhlchjmkkaa.PArk

theorem C_one {α : Type} {d : Kd α} {w : World} {ad : Addr} {x : α} {cs : List Value} (h : d.K w x cs) (hc : ∀ i u, cs[i]? = some u → w.cell? (ad.add i) = some u) : d.C w (some ad) 1 [x] := by
  refine ⟨rfl, by omega, fun _ => ⟨ad, rfl, fun j p hp => ?_⟩⟩
  rcases j with _ | j
  · obtain rfl := Option.some.inj hp
    exact ⟨cs, d.K_len h, h, fun i u hu => by rw [Nat.zero_mul, Nat.zero_add]; exact hc i u hu⟩
  · simp at hp
def tabs1 : List S134 := [⟨[1]⟩]
theorem alloc_at {w : World} {n : Nat} (hn : w.heap.size = n) (o : Obj) : (w.alloc o).heap[n]? = some o ∧ (w.alloc o).heap.size = n + 1 := by
  subst hn
  exact ⟨heap_alloc_new w o, by simp⟩
theorem awake_world (w : World) :
    ∀ W5, W5 = (((((w.alloc (.cells #[.int .i64 1] 3)).alloc (.cells #[.slice (some ⟨w.heap.size, 0, none⟩) 1 1] 134)).alloc (.cells #[.slice (some ⟨w.heap.size + 1, 0, none⟩) 1 1, .slice none 0 0] 79)).alloc (.cells #[] 138)).alloc (.cells #[.slice (some ⟨w.heap.size + 1 + 1 + 1, 0, none⟩) 0 0] 135)) →
    Below w.heap.size w W5 ∧ Kd.C k134 W5 (some ⟨w.heap.size + 1, 0, none⟩) 1 tabs1 ∧ Kd.C (Kd.slice 138 (Kd.slice 140 k140)) W5 (some ⟨w.heap.size + 1 + 1 + 1 + 1, 0, none⟩) 1 [[]] ∧ W5.heap[w.heap.size + 1 + 1]? = some (.cells #[.slice (some ⟨w.heap.size + 1, 0, none⟩) 1 1, .slice none 0 0] 79) ∧ w.heap.size + 1 + 1 < W5.heap.size := by
  intro W5 hW
  obtain ⟨a1, s1⟩ := alloc_at (w := w) rfl (.cells #[.int .i64 1] 3)
  obtain ⟨a2, s2⟩ := alloc_at s1 (.cells #[.slice (some ⟨w.heap.size, 0, none⟩) 1 1] 134)
  obtain ⟨a3, s3⟩ := alloc_at s2 (.cells #[.slice (some ⟨w.heap.size + 1, 0, none⟩) 1 1, .slice none 0 0] 79)
  obtain ⟨a4, s4⟩ := alloc_at s3 (.cells #[] 138)
  obtain ⟨a5, s5⟩ := alloc_at s4 (.cells #[.slice (some ⟨w.heap.size + 1 + 1 + 1, 0, none⟩) 0 0] 135)
  have b1 := blk_alloc (blk_alloc (blk_alloc (blk_alloc a1 (.cells #[.slice (some ⟨w.heap.size, 0, none⟩) 1 1] 134)) (.cells #[.slice (some ⟨w.heap.size + 1, 0, none⟩) 1 1, .slice none 0 0] 79)) (.cells #[] 138)) (.cells #[.slice (some ⟨w.heap.size + 1 + 1 + 1, 0, none⟩) 0 0] 135)
  have b2 := blk_alloc (blk_alloc (blk_alloc a2 (.cells #[.slice (some ⟨w.heap.size + 1, 0, none⟩) 1 1, .slice none 0 0] 79)) (.cells #[] 138)) (.cells #[.slice (some ⟨w.heap.size + 1 + 1 + 1, 0, none⟩) 0 0] 135)
  have b3 := blk_alloc (blk_alloc a3 (.cells #[] 138)) (.cells #[.slice (some ⟨w.heap.size + 1 + 1 + 1, 0, none⟩) 0 0] 135)
  have hB : Below w.heap.size w W5 := by
    rw [hW]
    exact below_alloc (below_alloc (below_alloc (below_alloc (below_alloc (Below.refl _ _) _) _) _) _) _
  rw [← hW] at b1 b2 b3 a5 s5
  refine ⟨hB, ?_, ?_, b3, by omega⟩
  · refine C_one (cs := [.slice (some ⟨w.heap.size, 0, none⟩) 1 1]) ?_ ?_
    · refine k134_mk W5 ⟨[1]⟩ (Nat.le_refl _) ?_
      refine C_one (cs := [.int .i64 1]) rfl ?_
      intro i u hu
      rw [add_plain]
      exact (blk_cell b1 i).trans (by rcases i with _ | i; exact hu; simp at hu)
    · intro i u hu
      rw [add_plain]
      exact (blk_cell b2 i).trans (by rcases i with _ | i; exact hu; simp at hu)
  · refine C_one (cs := [.slice (some ⟨w.heap.size + 1 + 1 + 1, 0, none⟩) 0 0]) ?_ ?_
    · exact ⟨_, 0, rfl, Nat.le_refl _, rfl, Nat.zero_le _, fun h => absurd h (Nat.lt_irrefl 0)⟩
    · intro i u hu
      rw [add_plain]
      exact (blk_cell a5 i).trans (by rcases i with _ | i; exact hu; simp at hu)
set_option maxRecDepth 100000 in
theorem c_awake (k : Nat) (b c : List (List (List S140))) (w : World) (h1 : ark_Pack.f k tabs1 [] [[]] = some (⟨#[0, 0, 255, 18, 217, 65]⟩, 0)) (h2 : ark_Unpack.f k tabs1 [] ⟨#[0, 0, 255, 18, 217, 65]⟩ = some ([[]], 0)) (h3 : ark_Unpack.f k tabs1 [] ⟨#[]⟩ = some (c, 3)) :
    Calls Try.prog 35 #[] w fun e w' => e = .returned (.bool true) ∧ Below w.heap.size w w' := by
  have H1 := Lib.hid h1
  have H2 := Lib.hid h2
  have H3 := Lib.hid h3
  clear h1 h2 h3
  go_enter Try.func35, Try.ntmps35
  go_wp2_with fail
  generalize hW5 : ((((w.alloc (.cells #[.int .i64 1] 3)).alloc (.cells #[.slice (some ⟨w.heap.size, 0, none⟩) 1 1] 134)).alloc (.cells #[.slice (some ⟨w.heap.size + 1, 0, none⟩) 1 1, .slice none 0 0] 79)).alloc (.cells #[] 138)).alloc (.cells #[.slice (some ⟨w.heap.size + 1 + 1 + 1, 0, none⟩) 0 0] 135) = W5
  obtain ⟨hB, hT, hE, hP, hlt⟩ := awake_world w W5 hW5.symm
  clear hW5
  have HT := Lib.hid hT
  refine (ark_Pack.calls k _ _ tabs1 _ _ [] _ _ [[]] _ _ _ hT (Nat.le_refl _) (Kd.C_nil _ _) (Nat.le_refl _) hE (Nat.le_refl _) H1.out).mono ?_
  rintro e w1 ⟨rfl, hb⟩
  have HB1 := Lib.hid (below_step hB hb)
  have HT1 := Lib.hid (Kd.C_below HT.out hb)
  have HP1 := Lib.hid (blk_below hP hb)
  clear hb hB hT hE hP hlt HT
  have c0 := (blk_cell HP1.out 0).trans rfl
  have c1 := (blk_cell HP1.out 1).trans rfl
  go_wp2_with fail
  refine (ark_Unpack.calls k _ _ tabs1 _ _ [] _ _ _ _ HT1.out (Nat.le_refl _) (Kd.C_nil _ _) (Nat.le_refl _) H2.out).mono ?_
  rintro e w2 ⟨v2, rfl, hv2, hb⟩
  have HB2 := Lib.hid (below_step HB1.out hb)
  have HT2 := Lib.hid (Kd.C_below HT1.out hb)
  have HP2 := Lib.hid (blk_below HP1.out hb)
  obtain ⟨A2, e2, rfl, hc2, hC2⟩ := Kd.R_reads hv2
  have HC2 := Lib.hid hC2
  clear hb HB1 HT1 HP1 hv2 c0 c1 hC2
  have c0 := (blk_cell HP2.out 0).trans rfl
  have c1 := (blk_cell HP2.out 1).trans rfl
  go_wp2_with fail
  refine (ark_Unpack.calls k _ _ tabs1 _ _ [] _ _ _ _ HT2.out (Nat.le_refl _) (Kd.C_nil _ _) (Nat.le_refl _) H3.out).mono ?_
  rintro e w3 ⟨v3, rfl, hv3, hb⟩
  have HB3 := Lib.hid (below_step HB2.out hb)
  obtain ⟨A3, e3, rfl⟩ := Kd.R_slice hv3
  obtain ⟨ad, B2, f2, rfl, y2, hl2, hr2⟩ := at_L11 (Kd.C_below HC2.out hb) 0 (by omega) (by decide)
  clear hb HB2 HT2 HP2 hv3 c0 c1 hl2 hr2 HC2
  have y3 : w3.cell? (ad.add 0) = some (.slice B2 0 f2) := by have y4 := y2; rw [show (rd_L11 [[]] 0).length = 0 from rfl] at y4; simpa using y4
  clear y2
  have y5 : w3.cell? ad = some (.slice B2 0 f2) := by rw [show ad.add 0 = ad from by cases ad; rfl] at y3; exact y3
  clear y3
  go_wp2
  go_ret
  exact ⟨rfl, HB3.out⟩
namespace PArk
def gaugerlaw35_awake.f (k : Nat) : Option Bool :=
  (ark_Pack.f k tabs1 [] [[]]).bind fun a => (ark_Unpack.f k tabs1 [] ⟨#[0, 0, 255, 18, 217, 65]⟩).bind fun b => (ark_Unpack.f k tabs1 [] ⟨#[]⟩).bind fun c => if a.2 = 0 ∧ a.1 = ⟨#[0, 0, 255, 18, 217, 65]⟩ ∧ b.2 = 0 ∧ (b.1.length = 1 ∧ b.1.getD 0 [] = []) ∧ c.2 = 3 then some true else none
theorem gaugerlaw35_awake.mono : ∀ k, LeO (gaugerlaw35_awake.f k) (gaugerlaw35_awake.f (k + 1)) := fun k =>
  LeO.bind (ark_Pack.mono _ _ _ _) fun _ => LeO.bind (ark_Unpack.mono _ _ _ _) fun _ => LeO.bind (ark_Unpack.mono _ _ _ _) fun _ => LeO.refl _
theorem gaugerlaw35_awake.calls (k : Nat) (r : Bool) (w : World) (h : gaugerlaw35_awake.f k = some r) :
    Calls Try.prog 35 #[] w fun e w' => e = .returned (.bool r) ∧ Below w.heap.size w w' := by
  unfold gaugerlaw35_awake.f at h
  obtain ⟨⟨a1, a2⟩, h1, h⟩ := Option.bind_eq_some_iff.mp h
  obtain ⟨⟨b1, b2⟩, h2, h⟩ := Option.bind_eq_some_iff.mp h
  obtain ⟨⟨c1, c2⟩, h3, h⟩ := Option.bind_eq_some_iff.mp h
  simp only at h
  by_cases hc : a2 = 0 ∧ a1 = ⟨#[0, 0, 255, 18, 217, 65]⟩ ∧ b2 = 0 ∧ (b1.length = 1 ∧ b1.getD 0 [] = []) ∧ c2 = 3
  · rw [if_pos hc] at h
    obtain rfl := Option.some.inj h
    obtain ⟨rfl, rfl, rfl, ⟨hl, hb⟩, rfl⟩ := hc
    have hbb : b1 = [[]] := by
      match b1, hl, hb with
      | [x], _, hx => exact congrArg (fun y => [y]) hx
    subst hbb
    exact c_awake k [] c1 w h1 h2 h3
  · rw [if_neg hc] at h
    cases h
end PArk
end Go.Proofs.Ytkcckhlchjmkkaa

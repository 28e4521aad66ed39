/-
  LAYER 1: sign.number, sign.Code, sign.Row; crc.Tail: contracts that the print takes as given.
-/
import Derived.Test.YtkcckhlchjmkkaaArkB
import Derived.Test.YtkcckhlchjmkkaaWideX
import Derived.Lib.Hide
import Derived.Outline
set_option linter.unusedVariables false
set_option linter.unusedSimpArgs false
namespace Go.Proofs.Ytkcckhlchjmkkaa
open Go.RowKit Go.Proofs.YtkcckhlchjmkkaaW.PrintWords Go.Proofs.YtkcckhlchjmkkaaW.PrintMore Go.Proofs.Ytkcckhlchjmkkaa.PArk

/-- The four bytes of a sum, the lowest first. -/
def tlCells (n : Int) (k : Nat) : List Int := (List.range 4).map fun j => if j < k then n / 2 ^ (8 * j) % 256 else 0
def le4 (n : Int) : List Int := (List.range 4).map fun j => n / 2 ^ (8 * j) % 256
theorem tlCells_end (n : Int) : tlCells n 4 = le4 n := rfl
theorem tlCells_step (n : Int) (k : Nat) (hk : k < 4) : (tlCells n k).set k (n / 2 ^ (8 * k) % 256) = tlCells n (k + 1) := by
  have : k = 0 ∨ k = 1 ∨ k = 2 ∨ k = 3 := by omega
  rcases this with rfl | rfl | rfl | rfl <;> rfl
theorem c_Tail (n : Int) (w : World) : Calls Try.prog 115 #[.int .u32 n] w fun e w' => e = .returned (.string (strOfNums (le4 n))) ∧ Below w.heap.size w w' := by
  have hmk : ∀ w, (Instr.makeSlice 120 (.int .i64 4) (.int .i64 4)).run Try.prog w = .ok (.slice (some ⟨w.heap.size, 0, none⟩) 4 4) (w.alloc (.cells #[.int .u8 0, .int .u8 0, .int .u8 0, .int .u8 0] 5)) := fun _ => by kernel_rfl
  go_enter Try.func115, Try.ntmps115
  go_wp2
  go_loopw [8] (fun v wr => ∃ k : Nat, k ≤ 4 ∧ v = .int .i64 k ∧ wr.ownsRow w.heap.size 5 1 (.slice (some ⟨w.heap.size, 0, none⟩) 4 4) 4 (nums .u8 (tlCells n k)) ∧ Below w.heap.size w wr) (fun v _ => 4 - (intOf v).toNat)
  case atStart =>
    refine ⟨0, by omega, rfl, ?_, below_alloc (Below.refl _ _) _⟩
    exact own_lit w w.heap.size 5 .u8 [0,0,0,0] (Nat.le_refl _) (by decide)
  case round =>
    obtain ⟨k, hk, rfl, HR, HB⟩ := hrel
    by_cases hlt : k < 4
    · obtain ⟨hc, hf⟩ := own_at HR k (by omega) (by omega)
      have hs := own_store HR k (n / 2 ^ (8 * k) % 256)
      rw [Int.toNat_natCast] at hc hf hs
      rw [tlCells_step n k hlt] at hs
      have HS := Lib.hid hs
      have HHB := Lib.hid HB
      clear HR hs HB
      go_wp2
      go_roundw
      case rel => exact ⟨k + 1, by omega, by go_num, HS.out.1, HHB.out.setCell (Nat.le_refl _) _⟩
      case measure => simp [intOf]; omega
    · have hk8 : k = 4 := by omega
      have hcv := own_string (P := Try.prog) Try.underlying120 Try.underlying5 Try.underlying9 HR
      have HCV := Lib.hid hcv
      clear hcv hmk
      obtain rfl := hk8
      rw [tlCells_end] at HCV
      have HHB := Lib.hid HB
      clear HR HB
      have hcv := HCV.out
      go_wp2
      go_ret
      exact ⟨rfl, HHB.out⟩
/-- A number with its highest bit turned: its word. -/
def word (n : Int) : Int := bits .xor .u64 (IntKind.u64.wrap n) 9223372036854775808
theorem c_number (n : Int) (w : World) : Calls Try.prog 153 #[.int .i64 n] w fun e w' => e = .returned (.string (strOfNums (be8 (word n)))) ∧ Below w.heap.size w w' := by
  have hmk : ∀ w, (Instr.makeSlice 120 (.int .i64 8) (.int .i64 8)).run Try.prog w = .ok (.slice (some ⟨w.heap.size, 0, none⟩) 8 8) (w.alloc (.cells #[.int .u8 0, .int .u8 0, .int .u8 0, .int .u8 0, .int .u8 0, .int .u8 0, .int .u8 0, .int .u8 0] 5)) := fun _ => by kernel_rfl
  go_enter Try.func153, Try.ntmps153
  go_wp2
  obtain ⟨u, hu⟩ : ∃ u, bits .xor .u64 (IntKind.u64.wrap n) 9223372036854775808 = u := ⟨_, rfl⟩
  rw [hu]
  have HU : Hid (word n = u) := hu
  clear hu
  go_loopw [12] (fun v wr => ∃ k : Nat, k ≤ 8 ∧ v = .int .i64 k ∧ wr.ownsRow w.heap.size 5 1 (.slice (some ⟨w.heap.size, 0, none⟩) 8 8) 8 (nums .u8 (putCells u k)) ∧ Below w.heap.size w wr) (fun v _ => 8 - (intOf v).toNat)
  case atStart =>
    refine ⟨0, by omega, rfl, ?_, below_alloc (Below.refl _ _) _⟩
    exact own_lit w w.heap.size 5 .u8 [0,0,0,0,0,0,0,0] (Nat.le_refl _) (by decide)
  case round =>
    obtain ⟨k, hk, rfl, HR, HB⟩ := hrel
    by_cases hlt : k < 8
    · obtain ⟨hc, hf⟩ := own_at HR (7 - k) (by omega) (by omega)
      have hs := own_store HR (7 - k) (u / 2 ^ (8 * k) % 256)
      rw [show (7 - (k : Int)).toNat = 7 - k from by omega] at hc hf hs
      rw [putCells_step u k hlt] at hs
      have HS := Lib.hid hs
      have HHB := Lib.hid HB
      clear HR hs HB
      go_wp2
      go_roundw
      case rel => exact ⟨k + 1, by omega, by go_num, HS.out.1, HHB.out.setCell (Nat.le_refl _) _⟩
      case measure => simp [intOf]; omega
    · have hk8 : k = 8 := by omega
      have hcv := own_string (P := Try.prog) Try.underlying120 Try.underlying5 Try.underlying9 HR
      have HCV := Lib.hid hcv
      clear hcv hmk
      obtain rfl := hk8
      rw [putCells_end] at HCV
      have HHB := Lib.hid HB
      clear HR HB
      have hcv := HCV.out
      go_wp2
      go_ret
      exact ⟨by rw [HU.out]; rfl, HHB.out⟩
namespace PArk
def crc_Tail.f (a0 : Int) : Option ByteArray := some (strOfNums (le4 a0))
theorem crc_Tail.calls (a0 : Int) (r : ByteArray) (w : World) (h : crc_Tail.f a0 = some r) : Calls Try.prog 115 #[.int .u32 a0] w fun e w' => e = .returned (.string r) ∧ Below w.heap.size w w' := by
  injection h with h
  subst h
  exact c_Tail a0 w
end PArk
end Go.Proofs.Ytkcckhlchjmkkaa

/-
  LAYER 22: what came in, as kinds: records, stamped records, dirty pages.
-/
import Derived.Test.YtkcckhlchjmkkaaRdr
import Derived.Test.YtkcckhlchjmkkaaMarkE
set_option linter.unusedVariables false
set_option linter.unusedSimpArgs false
namespace Go.Proofs.Ytkcckhlchjmkkaa
open Go.RowKit Go.Proofs.YtkcckhlchjmkkaaW.PrintWords Go.Proofs.Ytkcckhlchjmkkaa.PMark

theorem rI : Rdr Try.prog 3 (Kd.int .i64) (fun n => (Lit.int .i64 n).wf = true) := rdr_int Try.underlying3
theorem rS : Rdr Try.prog 9 Kd.string (fun s => s.size ≤ maxLen) := rdr_string Try.underlying9
theorem rImg : Rdr Try.prog 124 k124 (fun _ => True) :=
  rdr_mono (fun _ _ => trivial) (rdr_iso (fun x : Int × ByteArray => (⟨x.1, x.2⟩ : S124)) (fun _ => rfl) (rdr_struct Try.underlying124 (by kernel_rfl) (rdrF_cons rfl (by kernel_rfl) rI (rdrF_one rfl (by kernel_rfl) rS))))
theorem rOpn : Rdr Try.prog 55 kOpn (fun o => (Lit.int .i64 o.f0).wf = true ∧ (Lit.int .i64 o.f1).wf = true) :=
  rdr_iso (fun x : Int × Int => (⟨x.1, x.2⟩ : Opn)) (fun _ => rfl) (rdr_struct Try.underlying55 (by kernel_rfl) (rdrF_cons rfl (by kernel_rfl) rI (rdrF_one rfl (by kernel_rfl) rI)))
theorem rDty : Rdr Try.prog 72 k72 (fun o => (Lit.int .i64 o.f0).wf = true ∧ (Lit.int .i64 o.f1).wf = true) :=
  rdr_iso (fun x : Int × Int => (⟨x.1, x.2⟩ : Dty)) (fun _ => rfl) (rdr_struct Try.underlying72 (by kernel_rfl) (rdrF_cons rfl (by kernel_rfl) rI (rdrF_one rfl (by kernel_rfl) rI)))
theorem rUndo : Rdr Try.prog 49 k49 (fun _ => True) :=
  rdr_mono (fun _ _ => trivial) (rdr_iso (fun x : Int × Int × ByteArray × ByteArray => (⟨x.1, x.2.1, x.2.2.1, x.2.2.2⟩ : S49)) (fun _ => rfl) (rdr_struct Try.underlying49 (by kernel_rfl) (rdrF_cons rfl (by kernel_rfl) rI (rdrF_cons rfl (by kernel_rfl) rI (rdrF_cons rfl (by kernel_rfl) rS (rdrF_one rfl (by kernel_rfl) rS))))))
def WfR (x : Rec) : Prop := (Lit.int .i64 x.f0).wf = true ∧ (Lit.int .i64 x.f1).wf = true ∧ (Lit.int .i64 x.f2).wf = true ∧ (Lit.int .i64 x.f3).wf = true ∧
  (x.f6.length ≤ maxLen ∧ ∀ o ∈ x.f6, (Lit.int .i64 o.f0).wf = true ∧ (Lit.int .i64 o.f1).wf = true) ∧ (x.f7.length ≤ maxLen ∧ ∀ o ∈ x.f7, (Lit.int .i64 o.f0).wf = true ∧ (Lit.int .i64 o.f1).wf = true)
theorem rRec : Rdr Try.prog 53 kRec WfR :=
  rdr_mono (fun _ h => ⟨h.1, h.2.1, h.2.2.1, h.2.2.2.1, h.2.2.2.2.2.2.1, h.2.2.2.2.2.2.2⟩) (rdr_iso (fun x : Int × Int × Int × Int × List S124 × S49 × List Opn × List Dty => (⟨x.1, x.2.1, x.2.2.1, x.2.2.2.1, x.2.2.2.2.1, x.2.2.2.2.2.1, x.2.2.2.2.2.2.1, x.2.2.2.2.2.2.2⟩ : Rec)) (fun _ => rfl)
    (rdr_struct Try.underlying53 (by kernel_rfl) (rdrF_cons rfl (by kernel_rfl) rI (rdrF_cons rfl (by kernel_rfl) rI (rdrF_cons rfl (by kernel_rfl) rI (rdrF_cons rfl (by kernel_rfl) rI
      (rdrF_cons rfl (by kernel_rfl) (rdr_slice Try.underlying47 (by kernel_rfl) rImg) (rdrF_cons rfl (by kernel_rfl) rUndo (rdrF_cons rfl (by kernel_rfl) (rdr_slice Try.underlying50 (by kernel_rfl) rOpn) (rdrF_one rfl (by kernel_rfl) (rdr_slice Try.underlying51 (by kernel_rfl) rDty))))))))))) 
theorem rRecs : Rdr Try.prog 45 (Kd.slice 53 kRec) (fun l => l.length ≤ maxLen ∧ ∀ a ∈ l, WfR a) := rdr_slice Try.underlying45 (by kernel_rfl) rRec
theorem rStp : Rdr Try.prog 70 kStp (fun x => (Lit.int .i64 x.f0).wf = true ∧ WfR x.f1) :=
  rdr_iso (fun x : Int × Rec => (⟨x.1, x.2⟩ : Stp)) (fun _ => rfl) (rdr_struct Try.underlying70 (by kernel_rfl) (rdrF_cons rfl (by kernel_rfl) rI (rdrF_one rfl (by kernel_rfl) rRec)))
theorem rDtys : Rdr Try.prog 51 (Kd.slice 72 k72) (fun l => l.length ≤ maxLen ∧ ∀ o ∈ l, (Lit.int .i64 o.f0).wf = true ∧ (Lit.int .i64 o.f1).wf = true) := rdr_slice Try.underlying51 (by kernel_rfl) rDty
theorem rInts : Rdr Try.prog 57 (Kd.slice 3 (Kd.int .i64)) (fun l => l.length ≤ maxLen ∧ ∀ a ∈ l, (Lit.int .i64 a).wf = true) := rdr_slice Try.underlying57 (by kernel_rfl) rI
end Go.Proofs.Ytkcckhlchjmkkaa

/-
  THE ABSTRACT MACHINE: each operation that neither makes nor writes memory (second part), and all of them at once.
-/
import Derived.Test.YtlogcjaigjcmiaaGreatAmE
import Derived.Laws.StructEq
import Derived.Laws.Slices
set_option linter.unusedVariables false
set_option linter.unusedSimpArgs false
namespace Go.Proofs.YtlogcjaigjcmiaaGreat.AM
open Go

section
variable {P : Program} {S : Nat → Prop} {m : Emb} {h : List Blk} {w : World} {ρ : Operand → Value} {ev : AO → AV}

theorem eq1_sound {k a b v x y d} (h1 : eq1 k a b = some v) (hx : VRel S m w a x) (hy : VRel S m w b y) {t} (hk : scalar? P t = some k) : (Op.equalIn (d + 1) t x y).run P w = .ok v w := by
  unfold scalar? at hk
  unfold eq1 at h1
  split at h1
  · cases h1
    split at hk <;> first | (cases hk; done) | skip
    rename_i ht
    rw [vbool hx, vbool hy, run_equalIn_bool' _ _ _ _ _ ht]
  · split at h1
    · rename_i hkk
      subst hkk
      cases h1
      split at hk <;> first | (cases hk; done) | skip
      rename_i ht
      rw [vint hx, vint hy, run_equalIn_int _ _ _ _ _ _ _ ht]
    · cases h1
  · cases h1
    split at hk <;> first | (cases hk; done) | skip
    rename_i ht
    obtain ⟨s, rfl, rfl⟩ := vstr hx
    obtain ⟨s', rfl, rfl⟩ := vstr hy
    rw [run_equalIn_string _ _ _ _ _ ht, ByteArray.toList_eq, ByteArray.toList_eq, bytesEq_eq]
  · cases h1
theorem eqL_sound {xs ys : Array Value} {d : Nat} : ∀ (fs : List Field) (i : Nat) (ks : List Nat) (a b : List AV) (v : Bool), flatL P fs i = some ks → eqL ks a b = some v →
    LRel S m w a (xs.toList.drop i) → LRel S m w b (ys.toList.drop i) → (Op.eqFields (d + 1) xs ys fs).run P w = .ok v w
  | [], i, ks, a, b, v, hf, he, ha, hb => by
    cases hf
    unfold eqL at he
    split at he
    · cases he; simp [Op.eqFields]
    · rename_i h1; cases h1
    · cases he
  | f :: r, i, ks, a, b, v, hf, he, ha, hb => by
    rw [flatL] at hf
    split at hf
    · rename_i k l hk hl
      split at hf
      · rename_i hc
        cases hf
        simp only [Bool.and_eq_true, beq_iff_eq, bne_iff_ne, ne_eq] at hc
        obtain ⟨⟨ho, hn⟩, hz⟩ := hc
        cases a with
        | nil => simp [eqL] at he
        | cons a0 a1 =>
          cases b with
          | nil => simp [eqL] at he
          | cons b0 b1 =>
            obtain ⟨x, xr, hx, hx1, hx2⟩ := ha.head
            obtain ⟨y, yr, hy, hy1, hy2⟩ := hb.head
            have hxd : xs[i]? = some x := by rw [← Array.getElem?_toList, ← List.head?_drop, hx]; rfl
            have hyd : ys[i]? = some y := by rw [← Array.getElem?_toList, ← List.head?_drop, hy]; rfl
            have hxr : xr = xs.toList.drop (i + 1) := by rw [← List.tail_drop, hx]; rfl
            have hyr : yr = ys.toList.drop (i + 1) := by rw [← List.tail_drop, hy]; rfl
            have hvar : (isAgg f.type).run P w = .ok false w := by
              unfold scalar? at hk
              unfold isAgg
              split at hk <;> first | (cases hk; done) | (rename_i ht; simp [und_run ht])
            have hp : ∀ z : Array Value, ∀ q, z[i]? = some q → (part f.type z f.offset).run P w = .ok q w := by
              intro z q hq
              unfold part
              simp only [Sem.run_bind, hvar, Result.andThen_ok, Bool.false_eq_true, if_false, ho, hq]
              rfl
            rw [Op.eqFields]
            simp only [Sem.run_bind, Sem.run_ite, ne_eq, hn, not_false_eq_true, if_true, hp _ _ hxd, hp _ _ hyd, Result.andThen_ok]
            rw [eqL] at he
            split at he
            · rename_i h1
              rw [eq1_sound h1 hx1 hy1 hk]
              simp only [Result.andThen_ok, Bool.not_true, Bool.false_eq_true, if_false]
              exact eqL_sound r (i + 1) l a1 b1 v hl he (hxr ▸ hx2) (hyr ▸ hy2)
            · rename_i h1
              cases he
              rw [eq1_sound h1 hx1 hy1 hk]
              simp
            · cases he
      · cases hf
    · cases hf

theorem toBytes_sound : ∀ (cs : List AV) (vs : List Value) (l : List UInt8), toBytes cs = some l → LRel S m w cs vs → ∀ s : ByteArray,
    (forIn (m := Sem) vs s fun c s => match c with | .int .u8 n => pure (.yield (s.push (UInt8.ofNat n.toNat))) | _ => do stuck "bytesToString: byte expected"; pure (.yield s)).run P w = .ok (⟨(s.data.toList ++ l).toArray⟩ : ByteArray) w
  | [], vs, l, hb, hL, s => by
    cases hb
    rw [hL.nil_r]
    simp
  | c :: r, vs, l, hb, hL, s => by
    obtain ⟨x, xr, rfl, h1, h2⟩ := hL.head
    cases c <;> try (simp [toBytes] at hb; done)
    rename_i k n
    cases k <;> try (simp [toBytes] at hb; done)
    simp only [toBytes, Option.map_eq_some_iff] at hb
    obtain ⟨l', hl, rfl⟩ := hb
    rw [vint h1]
    simp only [List.forIn_cons, Sem.run_bind, Sem.run_pure, Result.andThen_ok]
    rw [toBytes_sound r xr l' hl h2]
    simp [ByteArray.push]

theorem scalar_desc {t kk d} (hk : scalar? P t = some kk) (hd : P.underlying t = some d) : (kk = 0 ∧ d = .bool) ∨ (kk = 1 ∧ ∃ k, d = .int k) ∨ (kk = 2 ∧ d = .string) := by
  unfold scalar? at hk
  rw [hd] at hk
  split at hk <;> cases hk <;> (rename_i h; cases h; simp)
theorem findK_sound {kk : Nat} {k : AV} {x : Value} {t : TypeId} {d : TypeDesc} (hd : P.underlying t = some d) (hk : scalar? P t = some kk) (hx : VRel S m w k x) (hkey : isKey kk k = true) :
    ∀ (es : List (AV × AV)) (en : List MapEntry) (i : Nat) (res), findK kk k es i = some res → LRel S m w (es.map (·.1)) (en.map (·.key)) → LRel S m w (es.map (·.2)) (en.map (·.val)) →
      match res with
      | none => Instr.findNow d x en i = some none
      | some (j, v) => i ≤ j ∧ ∃ e ev', en[j - i]? = some e ∧ es[j - i]? = some (ev', v) ∧ eq1 kk k ev' = some true ∧ Instr.findNow d x en i = some (some (j, e.val)) ∧ VRel S m w v e.val
  | [], en, i, res, hf, h1, h2 => by
    cases hf
    have : en = [] := by have := h1.1; simp at this; exact List.eq_nil_of_length_eq_zero this.symm
    subst this
    rfl
  | e :: r, en, i, res, hf, h1, h2 => by
    cases en with
    | nil => have := h1.1; simp at this
    | cons e' r' =>
      obtain ⟨_, _, hh1, h3, h4⟩ := h1.head
      obtain ⟨_, _, hh2, h5, h6⟩ := h2.head
      simp only [List.map_cons, List.cons.injEq] at hh1 hh2
      obtain ⟨hh3, hh4⟩ := hh1
      obtain ⟨hh5, hh6⟩ := hh2
      subst hh3; subst hh4; subst hh5; subst hh6
      have key : ∀ b, eq1 kk k e.1 = some b → Instr.sameNow d x e'.key = some b := by
        intro b hb
        have h3' : VRel S m w e.1 e'.key := h3
        generalize e.1 = q at hb h3'
        generalize e'.key = y at h3'
        have hs := scalar_desc hk hd
        unfold eq1 at hb
        split at hb
        · cases hb
          rcases hs with ⟨_, rfl⟩ | ⟨h0, _⟩ | ⟨h0, _⟩ <;> first | (cases h0; done) | skip
          rw [vbool hx, vbool h3']; rfl
        · split at hb
          · rename_i hkk
            cases hb
            subst hkk
            rcases hs with ⟨h0, _⟩ | ⟨_, k, rfl⟩ | ⟨h0, _⟩ <;> first | (cases h0; done) | skip
            rw [vint hx, vint h3']
            simp [Instr.sameNow]
          · cases hb
        · cases hb
          rcases hs with ⟨h0, _⟩ | ⟨h0, _⟩ | ⟨_, rfl⟩ <;> first | (cases h0; done) | skip
          obtain ⟨s, rfl, rfl⟩ := vstr hx
          obtain ⟨s', rfl, rfl⟩ := vstr h3'
          rw [bytesEq_eq]
          simp only [Instr.sameNow, beq_toListBytes, ByteArray.toList_eq]
        · cases hb
      rw [findK] at hf
      split at hf
      · rename_i hb
        cases hf
        exact ⟨Nat.le_refl _, e', e.1, by simp, by simp, hb, by rw [Instr.findNow, key _ hb], h5⟩
      · rename_i hb
        have ih := findK_sound hd hk hx hkey r r' (i + 1) res hf h4 h6
        cases res with
        | none => simp only at ih ⊢; rw [Instr.findNow, key _ hb]; exact ih
        | some jv =>
          obtain ⟨j, v⟩ := jv
          obtain ⟨hle, e2, ev2, h7, h8, h9, h10, h11⟩ := ih
          refine ⟨by omega, e2, ev2, ?_, ?_, h9, by rw [Instr.findNow, key _ hb]; exact h10, h11⟩
          · rw [show j - i = (j - (i + 1)) + 1 by omega]; simpa using h7
          · rw [show j - i = (j - (i + 1)) + 1 by omega]; simpa using h8
      · cases hf
end
end Go.Proofs.YtlogcjaigjcmiaaGreat.AM

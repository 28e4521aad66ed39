/-
  THE ABSTRACT MACHINE: blocks renamed; a contract over few blocks holds among many ('AMS.frame').
-/
import Derived.Test.YtlogcjaigjcmiaaGreatAmZ
set_option linter.unusedVariables false
set_option linter.unusedSimpArgs false
namespace Go.Proofs.YtlogcjaigjcmiaaGreat.AM
open Go

mutual
/-- Blocks renamed. -/
def ren (ρ : Nat → Nat) : AV → AV
  | .ptr id off => .ptr (ρ id) off
  | .sl id st off len cap ex => .sl (ρ id) st off len cap ex
  | .map id => .map (ρ id)
  | .rop es st i off => .rop (renL ρ es) st i off
  | .ro es st ex => .ro (renL ρ es) st ex
  | .fn f a b => .fn f (renL ρ a) (renL ρ b)
  | .agg cs => .agg (renL ρ cs)
  | .tup cs => .tup (renL ρ cs)
  | v => v
def renL (ρ : Nat → Nat) : List AV → List AV
  | [] => []
  | v :: r => ren ρ v :: renL ρ r
/-- Only blocks below k are named. -/
def low (k : Nat) : AV → Bool
  | .ptr id _ => Nat.blt id k
  | .sl id _ _ _ _ _ => Nat.blt id k
  | .map id => Nat.blt id k
  | .rop es _ _ _ => lowL k es
  | .ro es _ _ => lowL k es
  | .fn _ a b => lowL k a && lowL k b
  | .agg cs => lowL k cs
  | .tup cs => lowL k cs
  | _ => true
def lowL (k : Nat) : List AV → Bool
  | [] => true
  | v :: r => low k v && lowL k r
end
def renB (ρ : Nat → Nat) : Blk → Blk
  | .gone => .gone
  | .cells cs => .cells (renL ρ cs)
  | .map es => .map (es.map fun e => (ren ρ e.1, ren ρ e.2))
theorem renL_len (ρ) : ∀ l : List AV, (renL ρ l).length = l.length
  | [] => rfl
  | v :: r => by simp [renL, renL_len ρ r]
theorem renL_map (ρ) : ∀ l : List AV, renL ρ l = l.map (ren ρ)
  | [] => rfl
  | v :: r => by simp [renL, renL_map ρ r]
theorem renL_getD (ρ) (l : List AV) (i : Nat) : (renL ρ l).getD i .dead = ren ρ (l.getD i .dead) := by
  rw [renL_map, List.getD_eq_getElem?_getD, List.getD_eq_getElem?_getD, List.getElem?_map]
  cases l[i]? <;> rfl
theorem lowL_getD {k} : ∀ {l : List AV}, lowL k l = true → ∀ i, low k (l.getD i .dead) = true
  | [], _, i => by cases i <;> rfl
  | v :: r, h, 0 => by simp only [lowL, Bool.and_eq_true] at h; exact h.1
  | v :: r, h, i + 1 => by simp only [lowL, Bool.and_eq_true] at h; exact lowL_getD h.2 i
theorem ren_cells (ρ) (v : AV) : (ren ρ v).cells = renL ρ v.cells := by cases v <;> simp [ren, AV.cells, renL]
theorem low_cells {k} {v : AV} (h : low k v = true) : lowL k v.cells = true := by cases v <;> simp_all [low, lowL, AV.cells]

theorem VRel.ren {S m w v x ρ} (m2 : Emb) (hm : ∀ i y, m i = some y → m2 (ρ i) = some y) (h : VRel S m w v x) : VRel S m2 w (AM.ren ρ v) x := by
  induction h with
  | dead => exact .dead
  | bool => exact .bool
  | int => exact .int
  | str h => exact .str h
  | nilp => exact .nilp
  | ptr h => exact .ptr (hm _ _ h)
  | rop f hS hc hl hr ih =>
    refine .rop f hS (fun i j hi hj => hc i j (by rw [renL_len] at hi; exact hi) hj) (fun i hi => ?_) (fun i j hi hj => ?_)
    · rw [renL_len] at hi; rw [renL_getD, ren_cells, renL_len]; exact hl i hi
    · rw [renL_len] at hi; rw [renL_getD, ren_cells, renL_getD]; exact ih i j hi hj
  | nils => exact .nils
  | sl h hx hc hl hz => exact .sl (hm _ _ h) hx hc hl hz
  | sle h => exact .sle h
  | ro f hS hc hl hr hx hn ih =>
    rename_i es st ex b d rc
    have key : VRel S m2 w (.ro (renL ρ es) st ex) (.slice (some ⟨b, d, none⟩) (renL ρ es).length rc) := by
      refine .ro f hS (fun i j hi hj => hc i j (by rw [renL_len] at hi; exact hi) hj) (fun i hi => ?_) (fun i j hi hj => ?_) (by rw [renL_len]; exact hx) (by rw [renL_len]; exact hn)
      · rw [renL_len] at hi; rw [renL_getD, ren_cells, renL_len]; exact hl i hi
      · rw [renL_len] at hi; rw [renL_getD, ren_cells, renL_getD]; exact ih i j hi hj
    rw [renL_len] at key
    exact key
  | ro0 hx => exact .ro0 hx
  | nilm => exact .nilm
  | map h => exact .map (hm _ _ h)
  | nilf => exact .nilf
  | fn hf hfr hc hcr ih1 ih2 => exact .fn (by rw [renL_len]; exact hf) (fun i hi => by rw [renL_len] at hi; rw [renL_getD]; exact ih1 i hi) (by rw [renL_len]; exact hc) (fun i hi => by rw [renL_len] at hi; rw [renL_getD]; exact ih2 i hi)
  | agg hl hr ih => exact .agg (by rw [renL_len]; exact hl) (fun i hi => by rw [renL_len] at hi; rw [renL_getD]; exact ih i hi)
  | tup hl hr ih => exact .tup (by rw [renL_len]; exact hl) (fun i hi => by rw [renL_len] at hi; rw [renL_getD]; exact ih i hi)
theorem LRel.ren {S m w vs xs ρ} (m2 : Emb) (hm : ∀ i y, m i = some y → m2 (ρ i) = some y) (h : LRel S m w vs xs) : LRel S m2 w (renL ρ vs) xs :=
  ⟨by rw [renL_len]; exact h.1, fun i hi => by rw [renL_len] at hi; rw [renL_getD]; exact (h.2 i hi).ren m2 hm⟩
/-- Back. -/
theorem VRel.unren {S w ρ k} (m : Emb) (m2 : Emb) (hm : ∀ i y, i < k → m2 (ρ i) = some y → m i = some y) : ∀ {v' x}, VRel S m2 w v' x → ∀ v, v' = AM.ren ρ v → low k v = true → VRel S m w v x := by
  intro v' x h
  induction h with
  | dead => intro v hv hl; cases v <;> cases hv; exact .dead
  | bool => intro v hv hl; cases v <;> cases hv; exact .bool
  | int => intro v hv hl; cases v <;> cases hv; exact .int
  | str h => intro v hv hl; cases v <;> cases hv; exact .str h
  | nilp => intro v hv hl; cases v <;> cases hv; exact .nilp
  | ptr h => intro v hv hl; cases v <;> cases hv; exact .ptr (hm _ _ (by simpa [low, Nat.blt_eq] using hl) h)
  | rop f hS hc hl hr ih =>
    intro v hv hlo
    cases v <;> cases hv
    rename_i es
    simp only [low] at hlo
    refine .rop f hS (fun i j hi hj => hc i j (by rw [renL_len]; exact hi) hj) (fun i hi => ?_) (fun i j hi hj => ?_)
    · have := hl i (by rw [renL_len]; exact hi); rw [renL_getD, ren_cells, renL_len] at this; exact this
    · exact ih i j (by rw [renL_len]; exact hi) hj _ (by rw [renL_getD, ren_cells, renL_getD]) (lowL_getD (low_cells (lowL_getD hlo i)) j)
  | nils => intro v hv hl; cases v <;> cases hv; exact .nils
  | sl h hx hc hl hz => intro v hv hlo; cases v <;> cases hv; exact .sl (hm _ _ (by simpa [low, Nat.blt_eq] using hlo) h) hx hc hl hz
  | sle h => intro v hv hl; cases v <;> cases hv; exact .sle h
  | ro f hS hc hl hr hx hn ih =>
    intro v hv hlo
    cases v <;> cases hv
    rename_i b d rc es
    simp only [low] at hlo
    rw [renL_len] at hx hn ⊢
    refine .ro f hS (fun i j hi hj => hc i j (by rw [renL_len]; exact hi) hj) (fun i hi => ?_) (fun i j hi hj => ?_) hx hn
    · have := hl i (by rw [renL_len]; exact hi); rw [renL_getD, ren_cells, renL_len] at this; exact this
    · exact ih i j (by rw [renL_len]; exact hi) hj _ (by rw [renL_getD, ren_cells, renL_getD]) (lowL_getD (low_cells (lowL_getD hlo i)) j)
  | ro0 hx =>
    intro v hv hl
    cases v <;> first | (cases hv; done) | skip
    rename_i es st ex
    cases es with
    | nil => simp only [AM.ren, renL] at hv; cases hv; exact .ro0 hx
    | cons a r => simp only [AM.ren, renL] at hv; cases hv
  | nilm => intro v hv hl; cases v <;> cases hv; exact .nilm
  | map h => intro v hv hl; cases v <;> cases hv; exact .map (hm _ _ (by simpa [low, Nat.blt_eq] using hl) h)
  | nilf => intro v hv hl; cases v <;> cases hv; exact .nilf
  | fn hf hfr hc hcr ih1 ih2 =>
    intro v hv hlo
    cases v <;> cases hv
    simp only [low, Bool.and_eq_true] at hlo
    exact .fn (by rw [renL_len] at hf; exact hf) (fun i hi => ih1 i (by rw [renL_len]; exact hi) _ (renL_getD ..) (lowL_getD hlo.1 i)) (by rw [renL_len] at hc; exact hc) (fun i hi => ih2 i (by rw [renL_len]; exact hi) _ (renL_getD ..) (lowL_getD hlo.2 i))
  | agg hl hr ih =>
    intro v hv hlo
    cases v <;> cases hv
    simp only [low] at hlo
    exact .agg (by rw [renL_len] at hl; exact hl) (fun i hi => ih i (by rw [renL_len]; exact hi) _ (renL_getD ..) (lowL_getD hlo i))
  | tup hl hr ih =>
    intro v hv hlo
    cases v <;> cases hv
    simp only [low] at hlo
    exact .tup (by rw [renL_len] at hl; exact hl) (fun i hi => ih i (by rw [renL_len]; exact hi) _ (renL_getD ..) (lowL_getD hlo i))
theorem LRel.unren {S w ρ k vs xs} (m : Emb) (m2 : Emb) (hm : ∀ i y, i < k → m2 (ρ i) = some y → m i = some y) (h : LRel S m2 w (renL ρ vs) xs) (hl : lowL k vs = true) : LRel S m w vs xs :=
  ⟨by have := h.1; rw [renL_len] at this; exact this, fun i hi => (h.2 i (by rw [renL_len]; exact hi)).unren m m2 hm _ (renL_getD ..) (lowL_getD hl i)⟩

theorem BRel.ren {S m w id bl ρ} (m2 : Emb) (hm : ∀ i y, m i = some y → m2 (ρ i) = some y) (h : BRel S m w id bl) : BRel S m2 w (ρ id) (renB ρ bl) := by
  cases bl with
  | gone => trivial
  | cells cs =>
    obtain ⟨b, d, t, fz, c, h1, h2, h3, h4, h5, h6⟩ := h
    refine ⟨b, d, t, fz, c, hm _ _ h1, h2, by rw [renL_len]; exact h3, h4, ?_, h6⟩
    rw [renL_len]
    exact h5.ren m2 hm
  | map es =>
    obtain ⟨b, ck, en, h1, h2, h3, h4, h5⟩ := h
    refine ⟨b, ck, en, hm _ _ h1, h2, ?_, ?_, h5⟩
    · have := h3.ren m2 hm
      rw [renL_map] at this
      simpa [renB, List.map_map, Function.comp_def] using this
    · have := h4.ren m2 hm
      rw [renL_map] at this
      simpa [renB, List.map_map, Function.comp_def] using this
def lowB (k : Nat) : Blk → Bool
  | .gone => true
  | .cells cs => lowL k cs
  | .map es => lowL k (es.map (·.1)) && lowL k (es.map (·.2))
theorem BRel.unren {S w ρ k id bl} (m m2 : Emb) (hm : ∀ i y, i < k → m2 (ρ i) = some y → m i = some y) (hid : id < k) (hl : lowB k bl = true) (h : BRel S m2 w (ρ id) (renB ρ bl)) : BRel S m w id bl := by
  cases bl with
  | gone => trivial
  | cells cs =>
    obtain ⟨b, d, t, fz, c, h1, h2, h3, h4, h5, h6⟩ := h
    rw [renL_len] at h3 h5
    exact ⟨b, d, t, fz, c, hm _ _ hid h1, h2, h3, h4, h5.unren m m2 hm hl, h6⟩
  | map es =>
    simp only [lowB, Bool.and_eq_true] at hl
    obtain ⟨b, ck, en, h1, h2, h3, h4, h5⟩ := h
    refine ⟨b, ck, en, hm _ _ hid h1, h2, ?_, ?_, h5⟩
    · refine LRel.unren (ρ := ρ) m m2 hm ?_ hl.1
      rw [renL_map]
      simpa [List.map_map, Function.comp_def] using h3
    · refine LRel.unren (ρ := ρ) m m2 hm ?_ hl.2
      rw [renL_map]
      simpa [List.map_map, Function.comp_def] using h4
theorem renB_gone {ρ bl} (h : renB ρ bl = .gone) : bl = .gone := by cases bl <;> first | rfl | cases h

/-- Where the blocks of a smaller heap come to lie: the first k where ρ says, those behind them at the end. -/
def far (ρ : Nat → Nat) (k n : Nat) (i : Nat) : Nat := if i < k then ρ i else n + (i - k)
/-- A CONTRACT OVER FEW BLOCKS HOLDS AMONG MANY: hs: the few, as they lie in h by ρ; h': h with what became of them, and with the new ones at the end. -/
theorem AMS.frame {P : Program} {f : FuncId} {args : List AV} {hs : List Blk} {r : AV} {hs' h h' : List Blk} (ρ : Nat → Nat) (ha : AMS P f args hs r hs')
    (hinj : ∀ i j, i < hs.length → j < hs.length → ρ i = ρ j → i = j) (hget : ∀ i bl, hs[i]? = some bl → h[ρ i]? = some (renB ρ bl)) (hlow : ∀ bl ∈ hs, lowB hs.length bl = true ∧ bl ≠ .gone) (hargs : lowL hs.length args = true)
    (hk : hs.length ≤ hs'.length) (hlen : h'.length = h.length + (hs'.length - hs.length)) (hnew : ∀ i bl, hs'[i]? = some bl → h'[far ρ hs.length h.length i]? = some (renB (far ρ hs.length h.length) bl))
    (hold : ∀ j, j < h.length → (∀ i, i < hs.length → ρ i ≠ j) → h'[j]? = h[j]?) : AMS P f (renL ρ args) h (ren (far ρ hs.length h.length) r) h' := by
  intro S m w vals r0 hL
  have hρ : ∀ i, i < hs.length → ρ i < h.length := fun i hi => lt_of_get (hget i _ (List.getElem?_eq_getElem hi))
  -- the few alone
  let ms : Emb := fun i => if i < hs.length then m (ρ i) else none
  have hms : ∀ i y, i < hs.length → m (ρ i) = some y → ms i = some y := fun i y hi hy => by simp only [ms, if_pos hi]; exact hy
  have hms' : ∀ i y, ms i = some y → i < hs.length ∧ m (ρ i) = some y := fun i y hy => by
    simp only [ms] at hy
    split at hy
    · rename_i hi; exact ⟨hi, hy⟩
    · cases hy
  have howns : ∀ i b, owns hs ms i b → owns h m (ρ i) b := fun i b ho => by
    obtain ⟨⟨d, z, h1⟩, bl, h2, h3⟩ := ho
    obtain ⟨hi, h4⟩ := hms' _ _ h1
    exact ⟨⟨d, z, h4⟩, _, hget i bl h2, fun e => h3 (renB_gone e)⟩
  have rs : Rep S ms hs w := by
    refine ⟨r0.sb, fun i hi => by simp only [ms]; rw [if_neg (by omega)], fun i bl hb => ?_, fun i j b hi hj => ?_⟩
    · have hi := lt_of_get hb
      exact BRel.unren ms m hms hi (hlow bl (List.mem_of_getElem? hb)).1 (r0.blk _ _ (hget i bl hb))
    · have e := r0.inj _ _ b (howns i b hi) (howns j b hj)
      obtain ⟨⟨d, z, h1⟩, _⟩ := hi
      obtain ⟨⟨d', z', h2⟩, _⟩ := hj
      exact hinj i j (hms' _ _ h1).1 (hms' _ _ h2).1 e
  refine Calls.mono (ha S ms w vals rs (hL.unren ms m hms hargs)) fun e w' he => ?_
  obtain ⟨v, S', m', h1, h2, h3, h4⟩ := he
  -- all of them again
  let m2 : Emb := fun j => if j < h.length then m j else m' (j - h.length + hs.length)
  have hm2 : ∀ i y, m' i = some y → m2 (far ρ hs.length h.length i) = some y := by
    intro i y hy
    simp only [far, m2]
    by_cases hi : i < hs.length
    · rw [if_pos hi, if_pos (hρ i hi)]
      -- the few lie where they lay
      cases hq : m (ρ i) with
      | some q => have := h4.tm i q (hms i q hi hq); rw [this] at hy; exact hy
      | none =>
        exfalso
        have hbi := r0.blk _ _ (hget i _ (List.getElem?_eq_getElem hi))
        have hne := (hlow _ (List.getElem_mem hi)).2
        generalize hs[i] = bl at hbi hne
        cases bl with
        | gone => exact hne rfl
        | cells cs => obtain ⟨b, d, t, fz, c, g1, _⟩ := hbi; rw [hq] at g1; cases g1
        | map es => obtain ⟨b, ck, en, g1, _⟩ := hbi; rw [hq] at g1; cases g1
    · rw [if_neg hi, if_neg (by omega), show h.length + (i - hs.length) - h.length + hs.length = i by omega]
      exact hy
  have hkm : ∀ id x, m id = some x → m2 id = some x := by
    intro id x hx
    simp only [m2]
    by_cases hi : id < h.length
    · rw [if_pos hi]; exact hx
    · rw [r0.dom id (by omega)] at hx; cases hx
  have hkp : Kp S m w S' m2 w' := ⟨h4.ts, fun b hb => h4.fr b (r0.sb b hb) fun id ho => owns_not_S r0 (howns id b ho) hb, hkm⟩
  -- of the blocks that there are then, each comes from the few, or is an old one
  have sort : ∀ j, j < h'.length → (∃ i, i < hs'.length ∧ far ρ hs.length h.length i = j ∧ (∀ y, m2 j = some y → m' i = some y)) ∨ (j < h.length ∧ (∀ i, i < hs.length → ρ i ≠ j) ∧ h'[j]? = h[j]? ∧ m2 j = m j) := by
    intro j hj
    by_cases hjl : j < h.length
    · by_cases hex : ∃ i, i < hs.length ∧ ρ i = j
      · obtain ⟨i, hi, rfl⟩ := hex
        refine .inl ⟨i, by omega, by simp [far, hi], fun y hy => ?_⟩
        simp only [m2, if_pos hjl] at hy
        exact h4.tm i y (hms i y hi hy)
      · have hno : ∀ i, i < hs.length → ρ i ≠ j := fun i hi e => hex ⟨i, hi, e⟩
        exact .inr ⟨hjl, hno, hold j hjl hno, by simp only [m2, if_pos hjl]⟩
    · refine .inl ⟨j - h.length + hs.length, by omega, by simp only [far]; rw [if_neg (by omega)]; omega, fun y hy => ?_⟩
      simp only [m2, if_neg hjl] at hy
      exact hy
  have sortO : ∀ j b, owns h' m2 j b → (∃ i, far ρ hs.length h.length i = j ∧ owns hs' m' i b) ∨ ((∀ i, i < hs.length → ρ i ≠ j) ∧ owns h m j b) := by
    rintro j b ⟨⟨d, z, g1⟩, bl, g2, g3⟩
    rcases sort j (lt_of_get g2) with ⟨i, k1, k2, k3⟩ | ⟨k1, k2, k3, k4⟩
    · refine .inl ⟨i, k2, ⟨d, z, k3 _ g1⟩, hs'[i], List.getElem?_eq_getElem k1, fun e => g3 ?_⟩
      have := hnew i _ (List.getElem?_eq_getElem k1)
      rw [k2, g2, e] at this
      cases this
      rfl
    · exact .inr ⟨k2, ⟨d, z, by rw [← k4]; exact g1⟩, bl, by rw [← k3]; exact g2, g3⟩
  refine ⟨v, S', m2, h1, h2.ren m2 hm2, ⟨h3.sb, fun id hid => ?_, fun j bl hb => ?_, fun i j b hi hj => ?_⟩, ⟨h4.ts, hkm, h4.os, h4.tape, h4.output, h4.size, by omega, fun b hb hn => h4.fr b hb fun id ho => hn _ (howns id b ho), fun j b ho hb => ?_, h4.sn⟩⟩
  · simp only [m2]
    rw [if_neg (by omega)]
    exact h3.dom _ (by omega)
  · rcases sort j (lt_of_get hb) with ⟨i, k1, k2, k3⟩ | ⟨k1, k2, k3, k4⟩
    · have := hnew i _ (List.getElem?_eq_getElem k1)
      rw [k2, hb] at this
      cases this
      rw [← k2]
      exact BRel.ren m2 hm2 (h3.blk i _ (List.getElem?_eq_getElem k1))
    · rw [k3] at hb
      refine (r0.blk j bl hb).keep r0 hkp fun b hm hg => ?_
      have ho : owns h m j b := ⟨hm, bl, hb, hg⟩
      refine ⟨h4.fr b (owns_lt r0 ho) fun id ho' => k2 id ?_ (r0.inj _ _ b (howns id b ho') ho), fun hS' => ?_⟩
      · obtain ⟨⟨d, z, g1⟩, _⟩ := ho'
        exact (hms' _ _ g1).1
      · rcases h4.sn b hS' with hh | hh
        · exact owns_not_S r0 ho hh
        · have := owns_lt r0 ho; omega
  · have cross : ∀ i j, owns hs' m' i b → (∀ i, i < hs.length → ρ i ≠ j) → owns h m j b → False := by
      intro i j g1 g2 g3
      obtain ⟨i', g4⟩ := h4.own i b g1 (owns_lt r0 g3)
      have e := r0.inj _ _ b (howns i' b g4) g3
      obtain ⟨⟨d, z, g5⟩, _⟩ := g4
      exact g2 i' (hms' _ _ g5).1 e
    rcases sortO i b hi with ⟨i1, rfl, g1⟩ | ⟨g1, g2⟩
    · rcases sortO j b hj with ⟨j1, rfl, k1⟩ | ⟨k1, k2⟩
      · rw [h3.inj _ _ b g1 k1]
      · exact (cross _ _ g1 k1 k2).elim
    · rcases sortO j b hj with ⟨j1, rfl, k1⟩ | ⟨k1, k2⟩
      · exact (cross _ _ k1 g1 g2).elim
      · exact r0.inj _ _ b g2 k2
  · rcases sortO j b ho with ⟨i1, _, g1⟩ | ⟨_, g2⟩
    · obtain ⟨i', g4⟩ := h4.own i1 b g1 hb
      exact ⟨_, howns i' b g4⟩
    · exact ⟨_, g2⟩
end Go.Proofs.YtlogcjaigjcmiaaGreat.AM

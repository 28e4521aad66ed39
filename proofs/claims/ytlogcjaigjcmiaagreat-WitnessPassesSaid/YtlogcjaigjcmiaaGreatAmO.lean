/-
  THE ABSTRACT MACHINE: append and copy; all operations that make or write memory, at once: 'wOp_sound'.
-/
import Derived.Test.YtlogcjaigjcmiaaGreatAmN
set_option linter.unusedVariables false
set_option linter.unusedSimpArgs false
namespace Go.Proofs.YtlogcjaigjcmiaaGreat.AM
open Go

section
variable {P : Program} {S : Nat → Prop} {m : Emb} {h : List Blk} {w : World} {ρ : Operand → Value} {ev : AO → AV}

theorem drew_keep (r : Rep S m h w) : Rep S m h w.drew ∧ Stp S m h w S m h w.drew := by
  have hk : Kp S m w S m w.drew := ⟨fun _ h => h, fun _ _ => rfl, fun _ _ h => h⟩
  exact ⟨⟨r.sb, r.dom, fun id bl hb => (r.blk id bl hb).keep r hk fun b hm hg => ⟨rfl, owns_not_S r ⟨hm, bl, hb, hg⟩⟩, r.inj⟩, ⟨fun _ h => h, fun _ _ h => h, rfl, rfl, rfl, Nat.le_refl _, Nat.le_refl _, fun _ _ _ => rfl, fun id b ho _ => ⟨id, ho⟩, fun _ h => .inl h⟩⟩
theorem vdrew {v x} (hv : VRel S m w v x) : VRel S m w.drew v x := hv.keep (⟨fun _ h => h, fun _ _ => rfl, fun _ _ h => h⟩ : Kp S m w S m w.drew)
theorem vundrew {v x} (hv : VRel S m w.drew v x) : VRel S m w v x := hv.keep (⟨fun _ h => h, fun _ _ => rfl, fun _ _ h => h⟩ : Kp S m w.drew S m w)

theorem w_append (hE : ∀ x y, compO x = some y → VRel S m w (ev y) (ρ x)) (r : Rep S m h w) {o : Oper} {ao v args ats h' lo} (ho : o.op = .call { callee := .builtin .append, args, argTypes := ats }) (hc : compOp P o = some ao) (hv : wOp ev h ao = some (v, h', lo)) : WGood P S m h w ρ o v h' := by
  simp only [compOp, ho] at hc
  split at hc
  case h_2 t u us s x hb0 hat hl =>
    have hL := compL_sound (l := args.toList) hE hl
    have hty : ∃ e st z b, P.underlying t = some (.slice e) ∧ ((∃ d, P.underlying u = some (.slice d)) ∨ P.underlying u = some .string) ∧ elem? P e = some (st, z, b) ∧ ao = .append st b s x := by
      split at hc <;> first | (cases hc; done) | skip
      · rename_i e d ht hu
        split at hc <;> first | (cases hc; done) | skip
        rename_i st z b he
        cases hc
        exact ⟨e, st, z, b, ht, .inl ⟨d, hu⟩, he, rfl⟩
      · rename_i e ht hu
        split at hc <;> first | (cases hc; done) | skip
        rename_i st z b he
        cases hc
        exact ⟨e, st, z, b, ht, .inr hu, he, rfl⟩
    obtain ⟨e, st, z, by_, ht, hu, he, rfl⟩ := hty
    obtain ⟨i, zv, hi, hz, hsz, hby, h3, h4, h5, h6, h7⟩ := elem?_sound he
    have exe : execOp ρ o = (do pure (.value (← Builtin.append_ ats o.type (args.map ρ)))) := by rw [exe_builtin ho]; rfl
    obtain ⟨sv, r1, h1, hss, h8⟩ := hL.head
    obtain ⟨xv, r2, h9, hxx, h10⟩ := h8.head
    have hr2 := LRel.nil_r h10
    subst hr2
    subst h9
    have hargs : args.map ρ = #[sv, xv] := by apply Array.ext'; rw [Array.toList_map, h1]
    rw [hargs] at exe
    have hat0 : ats[0]? = some t := by rw [← Array.getElem?_toList, hat]; rfl
    have hat1 : ats[1]? = some u := by rw [← Array.getElem?_toList, hat]; rfl
    have hzc : zv.cells.size = st := by have := (h7 S m w).1; simp at this; omega
    simp only [wOp] at hv
    split at hv <;> first | (cases hv; done) | skip
    rename_i n xs hlen hel
    obtain ⟨new, n', hnl, hln, hnlen, hlo, hfirst⟩ := first_sound (P := P) r hel hxx h4
    rw [hlen] at hln
    cases hln
    have hnew := hfirst n (Nat.le_refl _)
    rw [List.take_of_length_le (by omega)] at hnew
    have hxx' := vdrew hxx
    obtain ⟨new', n2, hnl', hln', hnlen', hlo', hfirst'⟩ := first_sound (P := P) (drew_keep r).1 hel hxx' h4
    rw [hlen] at hln'
    cases hln'
    -- the same cells are read behind a draw
    have hnew2 : (Builtin.firstCells st n xv).run P w.drew = .ok new.toArray w.drew := by
      have key : ∀ (W W' : World) (a : Value) (k : Nat) (c : Array Value), W'.heap = W.heap → (Builtin.firstCells st k a).run P W = .ok c W → (Builtin.firstCells st k a).run P W' = .ok c W' := by
        intro W W' a k c hh hrun
        cases a <;> simp only [Builtin.firstCells] at hrun ⊢ <;> first | (cases hrun; done) | skip
        · cases hrun; rfl
        · rename_i ad len cp
          cases ad with
          | none => cases hrun; rfl
          | some p =>
            simp only at hrun ⊢
            have hcell : ∀ q, W'.cell? q = W.cell? q := fun q => by simp [World.cell?, hh]
            have hfar : ∀ q b, W'.farLoad P q b = W.farLoad P q b := fun q b => by simp [World.farLoad, World.noCell, World.viewLoad, World.seen, hh]
            have gen : ∀ (nn i : Nat) (acc : Array Value) (c : Array Value), (loadCellsFrom p i nn acc).run P W = .ok c W → (loadCellsFrom p i nn acc).run P W' = .ok c W' := by
              intro nn
              induction nn with
              | zero => intro i acc c hr; cases hr; rfl
              | succ nn ih =>
                intro i acc c hr
                simp only [loadCellsFrom, Sem.run_bind, run_load, hcell, hfar] at hr ⊢
                cases hc : W.cell? (p.add i) with
                | some q => rw [hc] at hr; simp only [Result.andThen_ok] at hr ⊢; exact ih _ _ _ hr
                | none =>
                  rw [hc] at hr
                  cases hf : W.farLoad P (p.add i) (Mode.plain == Mode.atomic) with
                  | ok q => rw [hf] at hr; simp only [Result.andThen_ok] at hr ⊢; exact ih _ _ _ hr
                  | error x => rw [hf] at hr; cases hr
            exact gen _ _ _ _ hrun
      exact key w w.drew xv n _ rfl hnew
    -- what is there
    have grow : ∀ (base : Option Addr) (sLen sCap : Nat) (os : List AV) (old : List Value), sv = .slice base sLen sCap → sCap < sLen + n → (sLen + n) * by_ ≤ 140737488355328 → LRel S m w os old → old.length = sLen * st → (Builtin.firstCells st sLen sv).run P w.drew = .ok old.toArray w.drew →
        ∀ hh, Rep S m hh w → Stp S m h w S m hh w → hh.length = h.length → WGood P S m h w ρ o (.sl h.length st 0 (sLen + n) (sLen + n) false) (hh ++ [.cells (os ++ xs)]) := by
      intro base sLen sCap os old g1 g2 g3 g4 g5 g6 hh g7 g8 g9
      obtain ⟨nc, g10, g11⟩ := (append_run (P := P) (w := w) (ty := o.type) hat0 hat1 ht hu hi hsz (by omega) hz g1 hlo hnew).2 g2 (by rw [hby]; exact g3) old g6 hnew2
      have hLL : LRel S m w (os ++ xs) (old ++ new) := g4.append hnl
      have hos : (os ++ xs).length = (sLen + n) * st := by rw [hLL.1, List.length_append, g5, hnlen, Nat.add_mul]
      have hcs : (old.toArray ++ new.toArray ++ Builtin.zeroCells zv.cells (nc - (sLen + n))).size = nc * st := by
        simp only [Array.size_append, List.size_toArray, zeroCells_size, hzc, g5, hnlen]
        rw [← Nat.add_mul, ← Nat.add_mul]
        congr 1; omega
      obtain ⟨a1, a2, a3⟩ := new_sl (st := st) (len := sLen + n) (cap := sLen + n) (rc := nc) (ex := false) (c := old.toArray ++ new.toArray ++ Builtin.zeroCells zv.cells (nc - (sLen + n))) (cs := os ++ xs) (w' := w.drew.alloc (.cells (old.toArray ++ new.toArray ++ Builtin.zeroCells zv.cells (nc - (sLen + n))) e)) g7 e ⟨rfl, rfl, rfl⟩ rfl
        (by
          have e1 : (old.toArray ++ new.toArray ++ Builtin.zeroCells zv.cells (nc - (sLen + n))).toList.take (os ++ xs).length = old ++ new := by
            simp only [Array.toList_append]
            rw [hLL.1]
            exact List.take_left' rfl
          rw [e1]; exact hLL)
        (by rw [hcs, hos]; exact Nat.mul_le_mul_right _ g10) (by simp) g10 (Nat.le_refl _) (by rw [hcs]; exact Nat.le_refl _)
      rw [g9] at a1 a2 a3
      exact WGood.of exe g11 a1 ⟨a2, g8.trans a3⟩
    split at hv
    · -- nothing comes
      rename_i hn0
      subst hn0
      have hnil : new = [] := List.eq_nil_of_length_eq_zero (by simpa using hnlen)
      subst hnil
      have key : ∀ base sLen sCap, sv = .slice base sLen sCap → sLen ≤ sCap → (Builtin.append_ ats o.type #[sv, xv]).run P w = .ok sv w := by
        intro base sLen sCap g1 g2
        have := (append_run (P := P) (w := w) (ty := o.type) hat0 hat1 ht hu hi hsz (by omega) hz g1 hlo hnew).1 (by omega) w (fun a _ => rfl) (fun _ => rfl)
        rw [this, g1]; rfl
      split at hv <;> first | (cases hv; done) | skip
      all_goals
        rename_i hs
        cases hv
        rw [hs] at hss ⊢
        refine WGood.of exe ?_ hss ⟨r, Stp.refl ..⟩
        cases hss
        all_goals exact key _ _ _ rfl (by omega)
    · rename_i hn0
      split at hv <;> first | (cases hv; done) | skip
      · -- nil
        rename_i hs
        split at hv <;> first | (cases hv; done) | skip
        rename_i hcond
        cases hv
        simp only [Bool.and_eq_true, decide_eq_true_eq] at hcond
        rw [hs] at hss
        cases hss
        have := grow none 0 0 [] [] rfl (by omega) (by rw [Nat.zero_add]; exact hcond.1) LRel.nil (by simp) rfl h r (Stp.refl ..) rfl
        simpa using this
      · -- what nobody writes, full
        rename_i es st' hs
        split at hv <;> first | (cases hv; done) | skip
        rename_i hcond
        cases hv
        simp only [Bool.and_eq_true, decide_eq_true_eq] at hcond
        obtain ⟨⟨hst, hfit⟩, hone⟩ := hcond
        subst hst
        rw [hs] at hss
        have hes : elems h st (.ro es st true) = some (es.flatMap AV.cells) := by simp [elems]
        obtain ⟨old, k, o1, o2, o3, o4, o5⟩ := first_sound (P := P) (drew_keep r).1 hes (vdrew hss) h4
        simp only [lenOf, Option.some.injEq] at o2
        subst o2
        have hold : LRel S m w (es.flatMap AV.cells) old := by
          exact ⟨o1.1, fun i hi => vundrew (o1.2 i hi)⟩
        have hq := o5 es.length (Nat.le_refl _)
        rw [List.take_of_length_le (by omega)] at hq
        cases hss with
        | ro f hS hcc hl' hr hx' hn' =>
          rw [hx' rfl] at *
          exact grow _ es.length es.length _ old rfl (by omega) hfit hold o3 hq h r (Stp.refl ..) rfl
        | ro0 hx' =>
          rw [hx' rfl] at *
          exact grow _ 0 0 _ old rfl (by simp at hfit ⊢; omega) (by simpa using hfit) hold (by simpa using o3) (by simpa using hq) h r (Stp.refl ..) rfl
      · rename_i id st' off len cap ex hs
        split at hv <;> first | (cases hv; done) | skip
        rename_i hcond
        simp only [Bool.and_eq_true, decide_eq_true_eq] at hcond
        obtain ⟨⟨hst, hfit⟩, hone⟩ := hcond
        subst hst
        split at hv
        · -- in place
          rename_i hle
          rw [Option.map_eq_some_iff] at hv
          obtain ⟨h2, hw, hv⟩ := hv
          cases hv
          rw [hs] at hss
          cases hss with
          | @sl _ _ _ _ _ _ b d zz rc g1 g2 g3 g4 g5 =>
            obtain ⟨w', k1, k2, k3⟩ := store_sound (P := P) r hw g1 hnl
            have := (append_run (base := some ⟨b, d + off, none⟩) (sLen := len) (sCap := rc) (P := P) (w := w) (ty := o.type) hat0 hat1 ht hu hi hsz (by omega) hz rfl hlo hnew).1 (by omega) w' (fun a ha => by cases ha; rw [add_mk, Nat.add_assoc]; exact k1) (fun ha => by cases ha)
            exact WGood.of exe this (.sl g1 g2 g3 hle g5) ⟨k2, k3⟩
          | sle g1 => omega
        · rename_i hgt
          split at hv <;> first | (cases hv; done) | skip
          rename_i os hos
          rw [hs] at hss hos
          obtain ⟨old, k, o1, o2, o3, o4, o5⟩ := first_sound (P := P) (drew_keep r).1 hos (vdrew hss) h4
          simp only [lenOf, Option.some.injEq] at o2
          subst o2
          have hold : LRel S m w os old := ⟨o1.1, fun i hi => vundrew (o1.2 i hi)⟩
          have hq := o5 len (Nat.le_refl _)
          rw [List.take_of_length_le (by omega)] at hq
          have hgone : Rep S m (h.set id .gone) w ∧ Stp S m h w S m (h.set id .gone) w := by
            by_cases hid : id < h.length
            · exact rep_gone r hid
            · rw [List.set_eq_of_length_le (by omega)]; exact ⟨r, Stp.refl ..⟩
          cases hss with
          | @sl _ _ _ _ _ _ b d zz rc g1 g2 g3 g4 g5 =>
            by_cases hex : ex = true
            · rw [if_pos hex] at hv
              cases hv
              have := g2 hex
              exact grow _ len rc os old rfl (by omega) hfit hold o3 hq h r (Stp.refl ..) rfl
            · rw [if_neg hex] at hv
              split at hv <;> first | (cases hv; done) | skip
              rename_i hrow
              cases hv
              by_cases hrc : len + n ≤ rc
              · -- in the world it still fits
                have hlive : ∃ cs, h[id]? = some (.cells cs) := by
                  unfold hasRow at hrow
                  split at hrow
                  · exact ⟨_, by assumption⟩
                  · cases hrow
                · obtain ⟨cs, hcs⟩ := hlive
                  obtain ⟨b', d', t', fz, c, q1, q2, q3, q4, q5, q6⟩ := r.blk _ _ hcs
                  rw [g1] at q1
                  cases q1
                  have hsp : (len + n) * st ≤ rc * st := Nat.mul_le_mul_right _ hrc
                  rw [Nat.add_mul] at hsp
                  have hbound : d + off + len * st + new.length ≤ c.size := by rw [hnlen]; omega
                  have hrun := run_storeCells_fz (P := P) b (d + off + len * st) t' fz new 0 c w q2 (by omega) (fun j g6 g7 => q4 j (by omega) (by omega)) (by
                    intro x hx
                    obtain ⟨j, hj, rfl⟩ := List.mem_iff_getElem.1 hx
                    have hxl := hnl.1
                    have h7 := hnl.2 j (by omega)
                    have h8 : xs[j]? = some xs[j] := List.getElem?_eq_getElem (by omega)
                    have h9 : (xs[j]'(by omega)).one = true := List.all_eq_true.1 hone _ (List.getElem_mem _)
                    simp only [List.getD_eq_getElem?_getD, h8, List.getElem?_eq_getElem hj, Option.getD_some] at h7
                    exact h7.oneCell h9)
                  simp only [Nat.add_zero] at hrun
                  have happ := (append_run (base := some ⟨b, d + off, none⟩) (sLen := len) (sCap := rc) (P := P) (w := w) (ty := o.type) hat0 hat1 ht hu hi hsz (by omega) hz rfl hlo hnew).1 hrc _ (fun a ha => by cases ha; rw [add_mk]; exact hrun) (fun ha => by cases ha)
                  -- the elder cells, as the world has them
                  have hold2 : old = (c.toList.drop (d + off)).take (len * st) := by
                    have hfc : (Builtin.firstCells st len (.slice (some ⟨b, d + off, none⟩) len rc)).run P w.drew = .ok old.toArray w.drew := hq
                    have hload := run_loadCells_list (P := P) w.drew ⟨b, d + off, none⟩ ((c.toList.drop (d + off)).take (len * st)) (fun j u' hj => by
                      rw [add_mk, World.cell?_drew, cell_at q2]
                      simp only [List.getElem?_take, List.getElem?_drop] at hj
                      split at hj
                      · rw [← hj, Array.getElem?_toList]
                      · cases hj)
                    have hlen2 : ((c.toList.drop (d + off)).take (len * st)).length = len * st := by simp; omega
                    rw [hlen2] at hload
                    simp only [Builtin.firstCells] at hfc
                    rw [hload] at hfc
                    simp only [Result.ok.injEq, and_true] at hfc
                    have := congrArg Array.toList hfc
                    simpa using this.symm
                  have hsz2 : (c.toList.take (d + off + len * st) ++ (new ++ c.toList.drop (d + off + len * st + new.length))).toArray.size = c.size := by simp; omega
                  obtain ⟨a1, a2⟩ := rep_move (bl' := .cells (os ++ xs)) (w' := w.setRow b (c.toList.take (d + off + len * st) ++ (new ++ c.toList.drop (d + off + len * st + new.length))).toArray) r like_setRow hcs g1 (fun k hk => setRow_other _ _ _ _ hk) (setRow_size _ _ _) (d + off) (fun S' m' w'' g6 g7 g8 g9 => by
                    refine ⟨b, d + off, t', fz, _, by rw [hsz2]; exact g6, by rw [g7]; exact setRow_heap w b c _ t' fz q2, ?_, ?_, ?_, g9⟩
                    · rw [hsz2, List.length_append, hold.1, o3, hnl.1, hnlen]; omega
                    · rw [hsz2]; exact fun j j1 j2 => q4 j (by omega) j2
                    · have e1 : ((c.toList.take (d + off + len * st) ++ (new ++ c.toList.drop (d + off + len * st + new.length))).toArray.toList.drop (d + off)).take (os ++ xs).length = old ++ new := by
                        rw [List.length_append, hold.1, o3, hnl.1, hold2]
                        have e2 : c.toList.take (d + off + len * st) = c.toList.take (d + off) ++ (c.toList.drop (d + off)).take (len * st) := List.take_add
                        rw [e2, List.append_assoc]
                        simp only [List.toList_toArray]
                        rw [List.drop_left' (by simp; omega), ← List.append_assoc]
                        rw [List.take_left' (by simp; omega)]
                      rw [e1]
                      have hLL := hold.append hnl
                      exact ⟨hLL.1, fun j hj => g8 _ _ (hLL.2 j hj)⟩)
                  refine WGood.of exe happ ?_ ⟨a1, a2⟩
                  have : (⟨b, d + off, none⟩ : Addr) = ⟨b, (d + off) + 0, none⟩ := rfl
                  rw [this]
                  exact .sl upd_self (by simp) hrc (Nat.le_refl _) (by omega)
              · exact grow _ len rc os old rfl (by omega) hfit hold o3 hq _ hgone.1 hgone.2 (by simp)
          | @sle _ _ _ _ a g1 =>
            by_cases hex : ex = true
            · rw [if_pos hex] at hv
              cases hv
              exact grow _ 0 0 os old rfl (by omega) hfit hold o3 hq h r (Stp.refl ..) rfl
            · rw [if_neg hex] at hv
              split at hv <;> first | (cases hv; done) | skip
              cases hv
              exact grow _ 0 0 os old rfl (by omega) hfit hold o3 hq _ hgone.1 hgone.2 (by simp)
  all_goals first | contradiction | (cases hc; done)
end
end Go.Proofs.YtlogcjaigjcmiaaGreat.AM

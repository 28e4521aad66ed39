/-
  'gauger's law ModelBack holds of every input: it returns true, and each argument reads behind the call as it read before.
  This text: part 16 of 22 of the proof (MoN, MoO, MoP, MoQ, MoS).
-/
import Derived.Test.YtenpjpldjmoefaaGreatMao
set_option linter.unusedVariables false
set_option linter.unusedSimpArgs false
set_option maxRecDepth 100000
set_option maxHeartbeats 4000000
namespace Go.Proofs.YtenpjpldjmoefaaGreat.AM.Mo
open Go
structure SumT where
 by_ : Val
 count : Int
 sums : List Int
noncomputable def sumOf (e : KT) : SumT := ⟨(readK e.1).1, IntKind.i64.wrap e.2.c.2, e.2.s.map fun w => IntKind.i64.wrap w.2⟩
noncomputable def inSum (lo hi : Val) (e : KT) : Bool := decide ((readK e.1).2 = 0) && isInB (readK e.1).1 lo hi
noncomputable def sumsS (gs : List KT) (lo hi : Val) : List SumT := (gs.filter (inSum lo hi)).map sumOf
abbrev suC (s : SumT) (v : AV) : List AV := [.int .i64 s.by_.k, .int .i64 s.by_.n, .str s.by_.s, .int .i64 s.count, v]
abbrev inC (l : List Int) : List (List AV) := l.map fun n => [.int .i64 n]
structure SuOk (G : List Blk) (base : Nat) (sv : AV) (out : List SumT) (vs : List AV) : Prop where
 len : vs.length = out.length
 gro : Gro 5 (List.zipWith suC out vs) G sv
 id : ∀ i, svId sv = some i → base ≤ i
 el : ∀ (j : Nat) (s : SumT) (v : AV), out[j]? = some s → vs[j]? = some v → Gro 1 (inC s.sums) G v ∧ ∀ i, svId v = some i → base ≤ i ∧ svId sv ≠ some i
theorem SuOk.grow {G G' base sv out vs} (h : SuOk G base sv out vs) (hk : ∀ (i : Nat) (x : Blk), base ≤ i → G[i]? = some x → G'[i]? = some x) : SuOk G' base sv out vs :=
 ⟨h.len, h.gro.grow fun i hi x hx => hk i x (h.id i hi) hx, h.id, fun j s v h1 h2 => by
  obtain ⟨g1, g2⟩ := h.el j s v h1 h2
  exact ⟨g1.grow fun i hi x hx => hk i x (g2 i hi).1 hx, g2⟩⟩
theorem zip_snoc {out : List SumT} {vs : List AV} (hl : vs.length = out.length) (s : SumT) (v : AV) : List.zipWith suC (out ++ [s]) (vs ++ [v]) = List.zipWith suC out vs ++ [suC s v] := by
 rw [List.zipWith_append hl.symm]
 rfl
structure UnN (Γ : FuncId → Option GF) : Prop extends UnM Γ where
 n59 : Γ 59 = none
 e98 : Γ 98 = some (pureG g98)
section
variable {Γ : FuncId → Option GF} (u : UnN Γ)
include u
abbrev enGV (e : KT) : AV := .agg (enG e)
theorem sums_cl {T : List (List Int)} {V : List Vw} {p : Nat} {t : Int} {gs : List KT} {lo hi : Val} {H : List Blk} (hgr0 : ∀ G, Kept H G → ∃ l, Cl Γ Mo.T 25 [.ptr p 0, .int .i64 t] G (gsV gs, G, l)) (hgl : gs.length ≤ 100000) (hky : ∀ e ∈ gs, okRd e.1) (hts : ∀ e ∈ gs, e.2.s.length ≤ 1000) :
  ∃ sv vs H' l, Cl Γ Mo.T 59 [.ptr p 0, .int .i64 t, vV lo, vV hi] H (.agg [.int .i64 0, .nils, sv, .int .i64 0], H', l) ∧ SuOk H' H.length sv (sumsS gs lo hi) vs ∧ Kept H H' := by
 have key : ∃ r h' l, (∃ sv vs, r = .agg [.int .i64 0, .nils, sv, .int .i64 0] ∧ SuOk h' H.length sv (sumsS gs lo hi) vs ∧ Kept H h') ∧ Cl Γ Mo.T 59 [.ptr p 0, .int .i64 t, vV lo, vV hi] H (r, h', l) := by
  refine clE (Γ := Γ) (tbl := Mo.T) (f := 59) (af := a59) (args := [.ptr p 0, .int .i64 t, vV lo, vV hi]) (h := H) u.n59 (by kernel_rfl) (by kernel_rfl) (fun r h' => ∃ sv vs, r = .agg [.int .i64 0, .nils, sv, .int .i64 0] ∧ SuOk h' H.length sv (sumsS gs lo hi) vs ∧ Kept H h') ?_
  refine Wp.seq ((pathE (nt := 71) (live := [(0, (.ptr p 0)), (1, (.int .i64 t)), (2, (.agg (enV lo))), (3, (.agg (enV hi)))]) [.w (.box (.c (.agg (enV lo)))) (.ptr H.length 0) (ap H (enV lo)) none, .w (.box (.c (.agg (enV hi)))) (.ptr (List.length (ap H (enV lo))) 0) (ap (ap H (enV lo)) (enV hi)) none, .w (.alloc [(.int .i64 0), .nils, .nils, (.int .i64 0)]) (.ptr (List.length (ap (ap H (enV lo)) (enV hi))) 0) (ap (ap (ap H (enV lo)) (enV hi)) [(.int .i64 0), .nils, .nils, (.int .i64 0)]) none] [0, 1, 6, 7, 8] (e := .normal) (vals := [(.ptr p 0), (.int .i64 t), (.ptr H.length 0), (.ptr (List.length (ap H (enV lo))) 0), (.ptr (List.length (ap (ap H (enV lo)) (enV hi))) 0)]) (h' := (ap (ap (ap H (enV lo)) (enV hi)) [(.int .i64 0), .nils, .nils, (.int .i64 0)])) (Lv.start (by rfl) (by simp)) (fun _ => by kernel_rfl) ⟨rfl, rfl, rfl, trivial⟩).mono ?_)
  rintro e s ⟨rfl, t1, lo1, rfl, hl1⟩
  have hk : Kept H (ap (ap (ap H (enV lo)) (enV hi)) [(.int .i64 0), .nils, .nils, (.int .i64 0)]) := ((Kept.refl H).ap.ap).ap
  have h6 : ((ap (ap (ap H (enV lo)) (enV hi)) [(.int .i64 0), .nils, .nils, (.int .i64 0)]) : List Blk)[H.length]? = some (.cells [(.int .i64 lo.k), (.int .i64 lo.n), (.str lo.s)]) := ga (ga gl)
  have h7 : ((ap (ap (ap H (enV lo)) (enV hi)) [(.int .i64 0), .nils, .nils, (.int .i64 0)]) : List Blk)[(ap H [(.int .i64 lo.k), (.int .i64 lo.n), (.str lo.s)]).length]? = some (.cells [(.int .i64 hi.k), (.int .i64 hi.n), (.str hi.s)]) := ga gl
  have h8 : ((ap (ap (ap H (enV lo)) (enV hi)) [(.int .i64 0), .nils, .nils, (.int .i64 0)]) : List Blk)[(ap (ap H [(.int .i64 lo.k), (.int .i64 lo.n), (.str lo.s)]) [(.int .i64 hi.k), (.int .i64 hi.n), (.str hi.s)]).length]? = some (.cells [(.int .i64 0), .nils, .nils, (.int .i64 0)]) := gl
  have g7 : (ap H [(.int .i64 lo.k), (.int .i64 lo.n), (.str lo.s)]).length = H.length + 1 := by simp
  have g8 : (ap (ap H [(.int .i64 lo.k), (.int .i64 lo.n), (.str lo.s)]) [(.int .i64 hi.k), (.int .i64 hi.n), (.str hi.s)]).length = H.length + 2 := by simp
  have gG : ((ap (ap (ap H (enV lo)) (enV hi)) [(.int .i64 0), .nils, .nils, (.int .i64 0)]) : List Blk).length = H.length + 3 := by simp
  generalize ((ap (ap (ap H (enV lo)) (enV hi)) [(.int .i64 0), .nils, .nils, (.int .i64 0)]) : List Blk) = G at hk h6 h7 h8 gG hl1 ⊢
  generalize (ap (ap H [(.int .i64 lo.k), (.int .i64 lo.n), (.str lo.s)]) [(.int .i64 hi.k), (.int .i64 hi.n), (.str hi.s)]).length = k8 at h8 g8 hl1
  generalize (ap H [(.int .i64 lo.k), (.int .i64 lo.n), (.str lo.s)]).length = k7 at h7 g7 hl1
  obtain ⟨k6, hk6⟩ : ∃ k6, H.length = k6 := ⟨_, rfl⟩
  have hl1 : Lv 71 [(0, .ptr p 0), (1, .int .i64 t), (6, .ptr k6 0), (7, .ptr k7 0), (8, .ptr k8 0)] t1 := hk6 ▸ hl1
  have h6 : G[k6]? = some (.cells [(.int .i64 lo.k), (.int .i64 lo.n), (.str lo.s)]) := hk6 ▸ h6
  obtain ⟨lg, hgr⟩ := hgr0 G hk
  refine Wp.seq (Wp.seq ((pathE (nt := 71) [.r 25 [(.ptr p 0), (.int .i64 t)] (.ro (gs.map enGV) 4 false) G lg] [20, 6, 7, 8, 18, 19] (e := .normal) (vals := [(.int .i64 0), (.ptr k6 0), (.ptr k7 0), (.ptr k8 0), (.ro (gs.map enGV) 4 false), (.int .i64 ((List.length (gs.map enGV)) : Int))]) (h' := G) hl1 (fun _ => by kernel_rfl) ⟨hgr, trivial⟩).mono ?_))
  rintro e s ⟨rfl, t3, lo3, rfl, hl3⟩
  simp only [List.length_map] at hl3
  refine (rangeL (nt := 71) (i := 20) (n := 19) (c := 21) (d := 69) (X := List Blk × AV × List AV) (N := gs.length) (fun _ _ => [(6, (.ptr k6 0)), (7, (.ptr k7 0)), (8, (.ptr k8 0)), (18, (.ro (List.map enGV gs) 4 false)), (19, (.int .i64 (List.length gs : Int)))]) (fun _ x => x.1)
   (fun k x => x.1[k6]? = some (.cells [(.int .i64 lo.k), (.int .i64 lo.n), (.str lo.s)]) ∧ x.1[k7]? = some (.cells [(.int .i64 hi.k), (.int .i64 hi.n), (.str hi.s)]) ∧ x.1[k8]? = some (.cells [.int .i64 0, .nils, x.2.1, .int .i64 0]) ∧ SuOk x.1 (H.length + 3) x.2.1 (sumsS (gs.take k) lo hi) x.2.2 ∧ Kept H x.1 ∧ H.length + 3 ≤ x.1.length) (fun _ => False)
   (by omega) (by decide) (by decide) (by decide) (by decide) (by decide) (fun _ _ => rfl) (fun _ _ => rfl) ?_ (x0 := (G, .nils, [])) ⟨h6, h7, h8, ⟨rfl, Gro.nil _ _, (fun i h => by cases h), fun j s v h => by simp [sumsS] at h⟩, hk, (by show _ ≤ G.length; omega)⟩ hl3).mono ?_
  ·rintro k ⟨G, sv, vs⟩ t4 lo4 hkN ⟨h6, h7, h8, hso, hkp, hlen⟩ hlb
   simp only at h6 h7 h8 hso hkp hlen hlb ⊢
   have hel : (List.map enGV gs)[(k : Int).toNat]? = some (.agg (enG gs[k])) := by simp [hkN]
   have hkyk := hky _ (List.getElem_mem hkN)
   have htsk := hts _ (List.getElem_mem hkN)
   have htk : sumsS (gs.take (k + 1)) lo hi = sumsS (gs.take k) lo hi ++ sumsS [gs[k]] lo hi := by
    rw [List.take_succ_eq_append_getElem hkN]
    unfold sumsS
    rw [List.filter_append, List.map_append]
   have hsl : (sumsS (gs.take k) lo hi).length ≤ k := by
    unfold sumsS
    rw [List.length_map]
    exact Nat.le_trans (List.length_filter_le ..) (by simp; omega)
   generalize gs[k] = e0 at hel hkyk htsk htk
   obtain ⟨ky, tt⟩ := e0
   simp only at hkyk htsk
   obtain ⟨by1, er, hrd⟩ : ∃ b e, readK ky = (b, e) := ⟨_, _, rfl⟩
   have hread : Cl Γ Mo.T 98 [.str ky] (ap G [(.str ky), (.int .i64 (Prod.fst tt.c)), (.int .u64 (Prod.snd tt.c)), (.ro (List.map wV tt.s) 2 false)]) (.tup [.agg (enV by1), .int .i64 er], (ap G [(.str ky), (.int .i64 (Prod.fst tt.c)), (.int .u64 (Prod.snd tt.c)), (.ro (List.map wV tt.s) 2 false)]), none) := by
    have := read_e u.e98 hkyk (ap G [(.str ky), (.int .i64 (Prod.fst tt.c)), (.int .u64 (Prod.snd tt.c)), (.ro (List.map wV tt.s) 2 false)])
    rw [hrd] at this
    exact this
   refine Wp.block (Wp.seq ((pathE (nt := 71) [.p (4 = 4), .p ((0 : Int) ≤ (k : Int)), .p (((k : Int) : Int) < (List.length (gs.map enGV) : Int)), .e (gs.map enGV) (Int.toNat (k : Int)) (.agg [(.str ky), (.int .i64 (Prod.fst tt.c)), (.int .u64 (Prod.snd tt.c)), (.ro (tt.s.map wV) 2 false)]), .w (.alloc [(.str []), (.int .i64 0), (.int .u64 0), .nils]) (.ptr G.length 0) (ap G [(.str []), (.int .i64 0), (.int .u64 0), .nils]) none, .w (.store 4 (.c (.ptr G.length 0)) (.c (.agg [(.str ky), (.int .i64 (Prod.fst tt.c)), (.int .u64 (Prod.snd tt.c)), (.ro (tt.s.map wV) 2 false)]))) (.tup []) (ap G [(.str ky), (.int .i64 (Prod.fst tt.c)), (.int .u64 (Prod.snd tt.c)), (.ro (tt.s.map wV) 2 false)]) (some G.length)] [20, 6, 7, 8, 18, 19, 10] (e := .normal) (vals := [(.int .i64 (k : Int)), (.ptr k6 0), (.ptr k7 0), (.ptr k8 0), (.ro (gs.map enGV) 4 false), (.int .i64 (List.length gs : Int)), (.ptr G.length 0)]) (h' := (ap G [(.str ky), (.int .i64 (Prod.fst tt.c)), (.int .u64 (Prod.snd tt.c)), (.ro (tt.s.map wV) 2 false)])) hlb (fun _ => by kernel_rfl) ⟨rfl, (by omega), (by simp; omega), hel, rfl, stZ, trivial⟩).mono ?_))
   rintro e s ⟨rfl, t5, lo5, rfl, hlA⟩
   refine Wp.seq ((pathE (nt := 71) [.f (.load none (.c (.ptr G.length 0))) (.str ky), .r 98 [(.str ky)] (.tup [(.agg (enV by1)), (.int .i64 er)]) (ap G [(.str ky), (.int .i64 (Prod.fst tt.c)), (.int .u64 (Prod.snd tt.c)), (.ro (tt.s.map wV) 2 false)]) none, .w (.alloc [(.int .i64 0), (.int .i64 0), (.str [])]) (.ptr (List.length (ap G [(.str ky), (.int .i64 (Prod.fst tt.c)), (.int .u64 (Prod.snd tt.c)), (.ro (tt.s.map wV) 2 false)])) 0) (ap (ap G [(.str ky), (.int .i64 (Prod.fst tt.c)), (.int .u64 (Prod.snd tt.c)), (.ro (tt.s.map wV) 2 false)]) [(.int .i64 0), (.int .i64 0), (.str [])]) none, .w (.store 3 (.c (.ptr (List.length (ap G [(.str ky), (.int .i64 (Prod.fst tt.c)), (.int .u64 (Prod.snd tt.c)), (.ro (tt.s.map wV) 2 false)])) 0)) (.c (.agg (enV by1)))) (.tup []) (ap (ap G [(.str ky), (.int .i64 (Prod.fst tt.c)), (.int .u64 (Prod.snd tt.c)), (.ro (tt.s.map wV) 2 false)]) (enV by1)) (some (List.length (ap G [(.str ky), (.int .i64 (Prod.fst tt.c)), (.int .u64 (Prod.snd tt.c)), (.ro (tt.s.map wV) 2 false)])))] [20, 6, 7, 8, 18, 19, 10, 11, 12] (e := .normal) (vals := [(.int .i64 (k : Int)), (.ptr k6 0), (.ptr k7 0), (.ptr k8 0), (.ro (gs.map enGV) 4 false), (.int .i64 (List.length gs : Int)), (.ptr G.length 0), (.ptr (List.length (ap G [(.str ky), (.int .i64 (Prod.fst tt.c)), (.int .u64 (Prod.snd tt.c)), (.ro (tt.s.map wV) 2 false)])) 0), (.int .i64 er)]) (h' := (ap (ap G [(.str ky), (.int .i64 (Prod.fst tt.c)), (.int .u64 (Prod.snd tt.c)), (.ro (tt.s.map wV) 2 false)]) (enV by1))) hlA (fun _ => by kernel_rfl) ⟨(ldV gl), hread, rfl, stZ, trivial⟩).mono ?_)
   rintro e s ⟨rfl, t6, lo6, rfl, hlB⟩
   have hno : ∀ {G' : List Blk}, inSum lo hi (ky, tt) = false → (∀ (i : Nat) (x : Blk), G[i]? = some x → G'[i]? = some x) → G.length ≤ G'.length → G'[k6]? = some (.cells [(.int .i64 lo.k), (.int .i64 lo.n), (.str lo.s)]) ∧ G'[k7]? = some (.cells [(.int .i64 hi.k), (.int .i64 hi.n), (.str hi.s)]) ∧ G'[k8]? = some (.cells [.int .i64 0, .nils, sv, .int .i64 0]) ∧ SuOk G' (H.length + 3) sv (sumsS (gs.take (k + 1)) lo hi) vs ∧ Kept H G' ∧ H.length + 3 ≤ G'.length := by
    intro G' hn hg hl
    refine ⟨hg _ _ h6, hg _ _ h7, hg _ _ h8, ?_, hkp.trans ⟨hl, hg⟩, by omega⟩
    rw [htk, show sumsS [(ky, tt)] lo hi = [] by simp [sumsS, hn], List.append_nil]
    exact hso.grow fun i x _ hx => hg i x hx
   obtain ⟨l9, h9⟩ := isIn_cl (Γ := Γ) u.n97 u.e120 by1 lo hi (ap (ap G [(.str ky), (.int .i64 (Prod.fst tt.c)), (.int .u64 (Prod.snd tt.c)), (.ro (List.map wV tt.s) 2 false)]) (enV by1))
   by_cases her : er ≠ 0
   ·refine Wp.seq ((pathE (nt := 71) [.b (er != 0) true] [20, 6, 7, 8, 18, 19] (e := (.exit 1)) (vals := [(.int .i64 (k : Int)), (.ptr k6 0), (.ptr k7 0), (.ptr k8 0), (.ro (gs.map enGV) 4 false), (.int .i64 (List.length gs : Int))]) (h' := (ap (ap G [(.str ky), (.int .i64 (Prod.fst tt.c)), (.int .u64 (Prod.snd tt.c)), (.ro (tt.s.map wV) 2 false)]) (enV by1))) hlB (fun _ => by kernel_rfl) ⟨(cD her), trivial⟩).mono ?_)
    rintro e s ⟨rfl, t7, lo7, rfl, hlC⟩
    refine .inl ⟨rfl, ((ap (ap G [(.str ky), (.int .i64 (Prod.fst tt.c)), (.int .u64 (Prod.snd tt.c)), (.ro (List.map wV tt.s) 2 false)]) (enV by1)), sv, vs), t7, lo7, rfl, ?_, hlC⟩
    exact hno (by simp [inSum, hrd, her]) (fun i x hx => ga (ga hx)) (by simp <;> omega)
   have her : er = 0 := Decidable.not_not.1 her
   cases hin : isInB by1 lo hi with
   | false =>
    refine Wp.seq ((pathE (nt := 71) [.b (er != 0) false, .f (.load (some 3) (.c (.ptr (List.length (ap G [(.str ky), (.int .i64 (Prod.fst tt.c)), (.int .u64 (Prod.snd tt.c)), (.ro (tt.s.map wV) 2 false)])) 0))) (.agg (enV by1)), .f (.load (some 3) (.c (.ptr k6 0))) (.agg (enV lo)), .f (.load (some 3) (.c (.ptr k7 0))) (.agg (enV hi)), .r 97 [(.agg (enV by1)), (.agg (enV lo)), (.agg (enV hi))] (.bool false) (ap (ap (ap (ap (ap G [(.str ky), (.int .i64 (Prod.fst tt.c)), (.int .u64 (Prod.snd tt.c)), (.ro (tt.s.map wV) 2 false)]) (enV by1)) [(.int .i64 by1.k), (.int .i64 by1.n), (.str by1.s)]) [(.int .i64 lo.k), (.int .i64 lo.n), (.str lo.s)]) [(.int .i64 hi.k), (.int .i64 hi.n), (.str hi.s)]) l9] [20, 6, 7, 8, 18, 19] (e := (.exit 1)) (vals := [(.int .i64 (k : Int)), (.ptr k6 0), (.ptr k7 0), (.ptr k8 0), (.ro (gs.map enGV) 4 false), (.int .i64 (List.length gs : Int))]) (h' := (ap (ap (ap (ap (ap G [(.str ky), (.int .i64 (Prod.fst tt.c)), (.int .u64 (Prod.snd tt.c)), (.ro (tt.s.map wV) 2 false)]) (enV by1)) [(.int .i64 by1.k), (.int .i64 by1.n), (.str by1.s)]) [(.int .i64 lo.k), (.int .i64 lo.n), (.str lo.s)]) [(.int .i64 hi.k), (.int .i64 hi.n), (.str hi.s)])) hlB (fun _ => by kernel_rfl) ⟨(cS her), (ldV gl), (ldV (ga (ga h6))), (ldV (ga (ga h7))), (hin ▸ h9), trivial⟩).mono ?_)
    rintro e s ⟨rfl, t7, lo7, rfl, hlC⟩
    refine .inl ⟨rfl, ((ap (ap (ap (ap (ap G [(.str ky), (.int .i64 (Prod.fst tt.c)), (.int .u64 (Prod.snd tt.c)), (.ro (List.map wV tt.s) 2 false)]) (enV by1)) [(.int .i64 by1.k), (.int .i64 by1.n), (.str by1.s)]) [(.int .i64 lo.k), (.int .i64 lo.n), (.str lo.s)]) [(.int .i64 hi.k), (.int .i64 hi.n), (.str hi.s)]), sv, vs), t7, lo7, rfl, ?_, hlC⟩
    exact hno (by simp [inSum, hrd, hin]) (fun i x hx => ga (ga (ga (ga (ga hx))))) (by simp <;> omega)
   | true =>
    refine Wp.seq ((pathE (nt := 71) [.b (er != 0) false, .f (.load (some 3) (.c (.ptr (List.length (ap G [(.str ky), (.int .i64 (Prod.fst tt.c)), (.int .u64 (Prod.snd tt.c)), (.ro (tt.s.map wV) 2 false)])) 0))) (.agg (enV by1)), .f (.load (some 3) (.c (.ptr k6 0))) (.agg (enV lo)), .f (.load (some 3) (.c (.ptr k7 0))) (.agg (enV hi)), .r 97 [(.agg (enV by1)), (.agg (enV lo)), (.agg (enV hi))] (.bool true) (ap (ap (ap (ap (ap G [(.str ky), (.int .i64 (Prod.fst tt.c)), (.int .u64 (Prod.snd tt.c)), (.ro (tt.s.map wV) 2 false)]) (enV by1)) [(.int .i64 by1.k), (.int .i64 by1.n), (.str by1.s)]) [(.int .i64 lo.k), (.int .i64 lo.n), (.str lo.s)]) [(.int .i64 hi.k), (.int .i64 hi.n), (.str hi.s)]) l9] [20, 6, 7, 8, 18, 19, 10, 11] (e := .normal) (vals := [(.int .i64 (k : Int)), (.ptr k6 0), (.ptr k7 0), (.ptr k8 0), (.ro (gs.map enGV) 4 false), (.int .i64 (List.length gs : Int)), (.ptr G.length 0), (.ptr (List.length (ap G [(.str ky), (.int .i64 (Prod.fst tt.c)), (.int .u64 (Prod.snd tt.c)), (.ro (tt.s.map wV) 2 false)])) 0)]) (h' := (ap (ap (ap (ap (ap G [(.str ky), (.int .i64 (Prod.fst tt.c)), (.int .u64 (Prod.snd tt.c)), (.ro (tt.s.map wV) 2 false)]) (enV by1)) [(.int .i64 by1.k), (.int .i64 by1.n), (.str by1.s)]) [(.int .i64 lo.k), (.int .i64 lo.n), (.str lo.s)]) [(.int .i64 hi.k), (.int .i64 hi.n), (.str hi.s)])) hlB (fun _ => by kernel_rfl) ⟨(cS her), (ldV gl), (ldV (ga (ga h6))), (ldV (ga (ga h7))), (hin ▸ h9), trivial⟩).mono ?_)
    rintro e s ⟨rfl, t7, lo7, rfl, hlC⟩
    refine Wp.seq ((pathE (nt := 71) [.f (.load (some 3) (.c (.ptr (List.length (ap G [(.str ky), (.int .i64 (Prod.fst tt.c)), (.int .u64 (Prod.snd tt.c)), (.ro (tt.s.map wV) 2 false)])) 0))) (.agg (enV by1)), .f (.load none (.c (.ptr G.length 2))) (.int .u64 (Prod.snd tt.c)), .w (.alloc [(.int .i64 0), (.int .i64 0), (.str []), (.int .i64 0), .nils]) (.ptr (List.length (ap (ap (ap (ap (ap G [(.str ky), (.int .i64 (Prod.fst tt.c)), (.int .u64 (Prod.snd tt.c)), (.ro (tt.s.map wV) 2 false)]) (enV by1)) [(.int .i64 by1.k), (.int .i64 by1.n), (.str by1.s)]) [(.int .i64 lo.k), (.int .i64 lo.n), (.str lo.s)]) [(.int .i64 hi.k), (.int .i64 hi.n), (.str hi.s)])) 0) (ap (ap (ap (ap (ap (ap G [(.str ky), (.int .i64 (Prod.fst tt.c)), (.int .u64 (Prod.snd tt.c)), (.ro (tt.s.map wV) 2 false)]) (enV by1)) [(.int .i64 by1.k), (.int .i64 by1.n), (.str by1.s)]) [(.int .i64 lo.k), (.int .i64 lo.n), (.str lo.s)]) [(.int .i64 hi.k), (.int .i64 hi.n), (.str hi.s)]) [(.int .i64 0), (.int .i64 0), (.str []), (.int .i64 0), .nils]) none, .w (.store 5 (.c (.ptr (List.length (ap (ap (ap (ap (ap G [(.str ky), (.int .i64 (Prod.fst tt.c)), (.int .u64 (Prod.snd tt.c)), (.ro (tt.s.map wV) 2 false)]) (enV by1)) [(.int .i64 by1.k), (.int .i64 by1.n), (.str by1.s)]) [(.int .i64 lo.k), (.int .i64 lo.n), (.str lo.s)]) [(.int .i64 hi.k), (.int .i64 hi.n), (.str hi.s)])) 0)) (.c (.agg [(.int .i64 by1.k), (.int .i64 by1.n), (.str by1.s), (.int .i64 (IntKind.i64.wrap (Prod.snd tt.c))), .nils]))) (.tup []) (ap (ap (ap (ap (ap (ap G [(.str ky), (.int .i64 (Prod.fst tt.c)), (.int .u64 (Prod.snd tt.c)), (.ro (tt.s.map wV) 2 false)]) (enV by1)) [(.int .i64 by1.k), (.int .i64 by1.n), (.str by1.s)]) [(.int .i64 lo.k), (.int .i64 lo.n), (.str lo.s)]) [(.int .i64 hi.k), (.int .i64 hi.n), (.str hi.s)]) [(.int .i64 by1.k), (.int .i64 by1.n), (.str by1.s), (.int .i64 (IntKind.i64.wrap (Prod.snd tt.c))), .nils]) (some (List.length (ap (ap (ap (ap (ap G [(.str ky), (.int .i64 (Prod.fst tt.c)), (.int .u64 (Prod.snd tt.c)), (.ro (tt.s.map wV) 2 false)]) (enV by1)) [(.int .i64 by1.k), (.int .i64 by1.n), (.str by1.s)]) [(.int .i64 lo.k), (.int .i64 lo.n), (.str lo.s)]) [(.int .i64 hi.k), (.int .i64 hi.n), (.str hi.s)])))] [20, 6, 7, 8, 18, 19, 10, 13] (e := .normal) (vals := [(.int .i64 (k : Int)), (.ptr k6 0), (.ptr k7 0), (.ptr k8 0), (.ro (gs.map enGV) 4 false), (.int .i64 (List.length gs : Int)), (.ptr G.length 0), (.ptr (List.length (ap (ap (ap (ap (ap G [(.str ky), (.int .i64 (Prod.fst tt.c)), (.int .u64 (Prod.snd tt.c)), (.ro (tt.s.map wV) 2 false)]) (enV by1)) [(.int .i64 by1.k), (.int .i64 by1.n), (.str by1.s)]) [(.int .i64 lo.k), (.int .i64 lo.n), (.str lo.s)]) [(.int .i64 hi.k), (.int .i64 hi.n), (.str hi.s)])) 0)]) (h' := (ap (ap (ap (ap (ap (ap G [(.str ky), (.int .i64 (Prod.fst tt.c)), (.int .u64 (Prod.snd tt.c)), (.ro (tt.s.map wV) 2 false)]) (enV by1)) [(.int .i64 by1.k), (.int .i64 by1.n), (.str by1.s)]) [(.int .i64 lo.k), (.int .i64 lo.n), (.str lo.s)]) [(.int .i64 hi.k), (.int .i64 hi.n), (.str hi.s)]) [(.int .i64 by1.k), (.int .i64 by1.n), (.str by1.s), (.int .i64 (IntKind.i64.wrap (Prod.snd tt.c))), .nils])) hlC (fun _ => by kernel_rfl) ⟨(ldV (ga (ga (ga gl)))), (ldV (ga (ga (ga (ga gl))))), rfl, stZ, trivial⟩).mono ?_)
    rintro e s ⟨rfl, t8, lo8, rfl, hlD⟩
    have hyes : sumsS (gs.take (k + 1)) lo hi = sumsS (gs.take k) lo hi ++ [⟨by1, IntKind.i64.wrap tt.c.2, tt.s.map fun w => IntKind.i64.wrap w.2⟩] := by
     rw [htk]
     congr 1
     simp [sumsS, inSum, hrd, her, hin, sumOf]
    have hgD : ∀ (i : Nat) (x : Blk), G[i]? = some x → ((ap (ap (ap (ap (ap (ap G [(.str ky), (.int .i64 (Prod.fst tt.c)), (.int .u64 (Prod.snd tt.c)), (.ro (List.map wV tt.s) 2 false)]) (enV by1)) [(.int .i64 by1.k), (.int .i64 by1.n), (.str by1.s)]) [(.int .i64 lo.k), (.int .i64 lo.n), (.str lo.s)]) [(.int .i64 hi.k), (.int .i64 hi.n), (.str hi.s)]) [(.int .i64 by1.k), (.int .i64 by1.n), (.str by1.s), (.int .i64 (IntKind.i64.wrap (Prod.snd tt.c))), .nils]) : List Blk)[i]? = some x := fun i x hx => ga (ga (ga (ga (ga (ga hx)))))
    have h10 : ((ap (ap (ap (ap (ap (ap G [(.str ky), (.int .i64 (Prod.fst tt.c)), (.int .u64 (Prod.snd tt.c)), (.ro (List.map wV tt.s) 2 false)]) (enV by1)) [(.int .i64 by1.k), (.int .i64 by1.n), (.str by1.s)]) [(.int .i64 lo.k), (.int .i64 lo.n), (.str lo.s)]) [(.int .i64 hi.k), (.int .i64 hi.n), (.str hi.s)]) [(.int .i64 by1.k), (.int .i64 by1.n), (.str by1.s), (.int .i64 (IntKind.i64.wrap (Prod.snd tt.c))), .nils]) : List Blk)[(List.length G)]? = some (.cells [(.str ky), (.int .i64 (Prod.fst tt.c)), (.int .u64 (Prod.snd tt.c)), (.ro (List.map wV tt.s) 2 false)]) := (ga (ga (ga (ga (ga gl)))))
    have h13 : ((ap (ap (ap (ap (ap (ap G [(.str ky), (.int .i64 (Prod.fst tt.c)), (.int .u64 (Prod.snd tt.c)), (.ro (List.map wV tt.s) 2 false)]) (enV by1)) [(.int .i64 by1.k), (.int .i64 by1.n), (.str by1.s)]) [(.int .i64 lo.k), (.int .i64 lo.n), (.str lo.s)]) [(.int .i64 hi.k), (.int .i64 hi.n), (.str hi.s)]) [(.int .i64 by1.k), (.int .i64 by1.n), (.str by1.s), (.int .i64 (IntKind.i64.wrap (Prod.snd tt.c))), .nils]) : List Blk)[(List.length (ap (ap (ap (ap (ap G [(.str ky), (.int .i64 (Prod.fst tt.c)), (.int .u64 (Prod.snd tt.c)), (.ro (List.map wV tt.s) 2 false)]) (enV by1)) [(.int .i64 by1.k), (.int .i64 by1.n), (.str by1.s)]) [(.int .i64 lo.k), (.int .i64 lo.n), (.str lo.s)]) [(.int .i64 hi.k), (.int .i64 hi.n), (.str hi.s)]))]? = some (.cells [(.int .i64 by1.k), (.int .i64 by1.n), (.str by1.s), (.int .i64 (IntKind.i64.wrap (Prod.snd tt.c))), .nils]) := gl
    have g10 : (List.length G) = G.length := rfl
    have g13 : (List.length (ap (ap (ap (ap (ap G [(.str ky), (.int .i64 (Prod.fst tt.c)), (.int .u64 (Prod.snd tt.c)), (.ro (List.map wV tt.s) 2 false)]) (enV by1)) [(.int .i64 by1.k), (.int .i64 by1.n), (.str by1.s)]) [(.int .i64 lo.k), (.int .i64 lo.n), (.str lo.s)]) [(.int .i64 hi.k), (.int .i64 hi.n), (.str hi.s)])) = G.length + 5 := by simp
    have glD : ((ap (ap (ap (ap (ap (ap G [(.str ky), (.int .i64 (Prod.fst tt.c)), (.int .u64 (Prod.snd tt.c)), (.ro (List.map wV tt.s) 2 false)]) (enV by1)) [(.int .i64 by1.k), (.int .i64 by1.n), (.str by1.s)]) [(.int .i64 lo.k), (.int .i64 lo.n), (.str lo.s)]) [(.int .i64 hi.k), (.int .i64 hi.n), (.str hi.s)]) [(.int .i64 by1.k), (.int .i64 by1.n), (.str by1.s), (.int .i64 (IntKind.i64.wrap (Prod.snd tt.c))), .nils]) : List Blk).length = G.length + 6 := by simp
    generalize ((ap (ap (ap (ap (ap (ap G [(.str ky), (.int .i64 (Prod.fst tt.c)), (.int .u64 (Prod.snd tt.c)), (.ro (List.map wV tt.s) 2 false)]) (enV by1)) [(.int .i64 by1.k), (.int .i64 by1.n), (.str by1.s)]) [(.int .i64 lo.k), (.int .i64 lo.n), (.str lo.s)]) [(.int .i64 hi.k), (.int .i64 hi.n), (.str hi.s)]) [(.int .i64 by1.k), (.int .i64 by1.n), (.str by1.s), (.int .i64 (IntKind.i64.wrap (Prod.snd tt.c))), .nils]) : List Blk) = G1 at hgD h10 h13 glD hlD ⊢
    generalize (List.length (ap (ap (ap (ap (ap G [(.str ky), (.int .i64 (Prod.fst tt.c)), (.int .u64 (Prod.snd tt.c)), (.ro (List.map wV tt.s) 2 false)]) (enV by1)) [(.int .i64 by1.k), (.int .i64 by1.n), (.str by1.s)]) [(.int .i64 lo.k), (.int .i64 lo.n), (.str lo.s)]) [(.int .i64 hi.k), (.int .i64 hi.n), (.str hi.s)])) = k13 at h13 g13 hlD
    obtain ⟨k10, hk10⟩ : ∃ k10, G.length = k10 := ⟨_, rfl⟩
    have hlD : Lv 71 [(6, (.ptr k6 0)), (7, (.ptr k7 0)), (8, (.ptr k8 0)), (10, (.ptr k10 0)), (13, (.ptr k13 0)), (18, (.ro (List.map enGV gs) 4 false)), (19, (.int .i64 (List.length gs : Int))), (20, .int .i64 (k : Int))] t8 := (hk10 ▸ hlD).sub (by simp)
    have h10 : G1[k10]? = some (.cells [(.str ky), (.int .i64 (Prod.fst tt.c)), (.int .u64 (Prod.snd tt.c)), (.ro (List.map wV tt.s) 2 false)]) := hk10 ▸ h10
    refine Wp.seq (Wp.seq ((pathE (nt := 71) [.f (.load none (.c (.ptr k10 3))) (.ro (tt.s.map wV) 2 false)] [50, 20, 6, 7, 8, 18, 19, 13, 48, 49] (e := .normal) (vals := [(.int .i64 0), (.int .i64 (k : Int)), (.ptr k6 0), (.ptr k7 0), (.ptr k8 0), (.ro (gs.map enGV) 4 false), (.int .i64 (List.length gs : Int)), (.ptr k13 0), (.ro (tt.s.map wV) 2 false), (.int .i64 ((List.length (tt.s.map wV)) : Int))]) (h' := G1) hlD (fun _ => by kernel_rfl) ⟨(ldV h10), trivial⟩).mono ?_))
    rintro e s ⟨rfl, t9, lo9, rfl, hlE⟩
    simp only [List.length_map] at hlE
    have hsoD := hso.grow (G' := G1) fun i x _ hx => hgD i x hx
    refine (rangeL (nt := 71) (i := 50) (n := 49) (c := 51) (d := 62) (X := List Blk × AV) (N := tt.s.length) (fun _ _ => [(20, (.int .i64 (k : Int))), (6, (.ptr k6 0)), (7, (.ptr k7 0)), (8, (.ptr k8 0)), (18, (.ro (List.map enGV gs) 4 false)), (19, (.int .i64 (List.length gs : Int))), (13, (.ptr k13 0)), (48, (.ro (List.map wV tt.s) 2 false)), (49, (.int .i64 (List.length tt.s : Int)))]) (fun _ x => x.1)
     (fun j x => x.1[k13]? = some (.cells [(.int .i64 by1.k), (.int .i64 by1.n), (.str by1.s), .int .i64 (IntKind.i64.wrap tt.c.2), x.2]) ∧ Gro 1 (inC ((tt.s.take j).map fun w => IntKind.i64.wrap w.2)) x.1 x.2 ∧ (∀ i, svId x.2 = some i → G1.length ≤ i) ∧ (∀ (i : Nat) (y : Blk), i ≠ k13 → G1[i]? = some y → x.1[i]? = some y) ∧ G1.length ≤ x.1.length) (fun _ => False)
     (by omega) (by decide) (by decide) (by decide) (by decide) (by decide) (fun _ _ => rfl) (fun _ _ => rfl) ?_ (x0 := (G1, .nils)) ⟨h13, Gro.nil _ _, (fun i h => by cases h), (fun i y _ h => h), Nat.le_refl _⟩ hlE).mono ?_
    ·rintro j ⟨K, iv⟩ tj loj hjN ⟨h13, hgi, hidi, hki, hli⟩ hli'
     simp only at h13 hgi hidi hki hli hli' ⊢
     have hli := hli
     have hy : (List.map wV tt.s)[(j : Int).toNat]? = some (.agg (enW tt.s[j])) := by simp [hjN]
     have htj : (tt.s.take (j + 1)).map (fun w => IntKind.i64.wrap w.2) = (tt.s.take j).map (fun w => IntKind.i64.wrap w.2) ++ [IntKind.i64.wrap tt.s[j].2] := by
      rw [List.take_succ_eq_append_getElem hjN, List.map_append]
      rfl
     generalize tt.s[j] = y at hy htj
     have hg1 : Gro 1 (inC ((tt.s.take j).map fun w => IntKind.i64.wrap w.2)) (ap (ap K (enW y)) [.int .i64 (IntKind.i64.wrap y.2)]) iv := hgi.grow fun i _ x hx => ga (ga hx)
     obtain ⟨sv', K1, lo1, happ, hg2, hi2, hl2, hfr⟩ := hg1.app (by_ := 8) (e := [.int .i64 (IntKind.i64.wrap y.2)]) rfl rfl (jd := (ap K (enW y)).length) gl (by simp; omega)
     have k13f := hfr k13 _ (fun h => by have := hidi k13 h; omega) (ga (ga h13))
     have hkK : ∀ (i : Nat) (x : Blk), i < G1.length → K[i]? = some x → K1[i]? = some x := fun i x hi hx => hfr i x (fun h => by have := hidi i h; omega) (ga (ga hx))
     generalize hjd : (ap (ap K (enW y)) [.int .i64 (IntKind.i64.wrap y.2)]).length = jd at hi2 hl2
     have hjd2 : jd = K.length + 2 := by rw [← hjd]; simp
     generalize ((inC ((tt.s.take j).map fun w => IntKind.i64.wrap w.2)).length + 1) = nn at hi2
     subst hi2
     have hli := hli'
     refine (pathE (nt := 71) [.p (2 = 2), .p ((0 : Int) ≤ (j : Int)), .p (((j : Int) : Int) < (List.length (tt.s.map wV) : Int)), .e (tt.s.map wV) (Int.toNat (j : Int)) (.agg (enW y)), .w (.alloc [(.int .i64 0), (.int .u64 0)]) (.ptr K.length 0) (ap K [(.int .i64 0), (.int .u64 0)]) none, .w (.store 2 (.c (.ptr K.length 0)) (.c (.agg (enW y)))) (.tup []) (ap K (enW y)) (some K.length), .f (.load none (.c (.ptr k13 4))) iv, .f (.load none (.c (.ptr K.length 1))) (.int .u64 (Prod.snd y)), .w (.buildSl [(.int .i64 0)] 1 [(0, (.c (.int .i64 (IntKind.i64.wrap (Prod.snd y)))))]) (.sl (List.length (ap K (enW y))) 1 0 1 1 true) (ap (ap K (enW y)) [(.int .i64 (IntKind.i64.wrap (Prod.snd y)))]) none, .w (.append 1 8 (.c iv) (.c (.sl (List.length (ap K (enW y))) 1 0 1 1 true))) (.sl jd 1 0 nn nn false) K1 lo1, .w (.store 1 (.c (.ptr k13 4)) (.c (.sl jd 1 0 nn nn false))) (.tup []) (K1.set k13 (.cells [(.int .i64 by1.k), (.int .i64 by1.n), (.str by1.s), (.int .i64 (IntKind.i64.wrap (Prod.snd tt.c))), (.sl jd 1 0 nn nn false)])) (some k13)] [50, 20, 6, 7, 8, 18, 19, 13, 48, 49] (e := .normal) (vals := [(.int .i64 (j : Int)), (.int .i64 (k : Int)), (.ptr k6 0), (.ptr k7 0), (.ptr k8 0), (.ro (gs.map enGV) 4 false), (.int .i64 (List.length gs : Int)), (.ptr k13 0), (.ro (tt.s.map wV) 2 false), (.int .i64 (List.length tt.s : Int))]) (h' := (K1.set k13 (.cells [(.int .i64 by1.k), (.int .i64 by1.n), (.str by1.s), (.int .i64 (IntKind.i64.wrap (Prod.snd tt.c))), (.sl jd 1 0 nn nn false)]))) hli (fun _ => by kernel_rfl) ⟨rfl, (by omega), (by simp; omega), hy, rfl, stZ, (ldV (ga h13)), (ldV gl), rfl, happ, (stK k13f), trivial⟩).mono ?_
     rintro e s' ⟨rfl, tq, loq, rfl, hlq⟩
     refine .inl ⟨rfl, ((List.set K1 k13 (.cells [(.int .i64 by1.k), (.int .i64 by1.n), (.str by1.s), (.int .i64 (IntKind.i64.wrap (Prod.snd tt.c))), (.sl jd 1 0 nn nn false)])), .sl jd 1 0 nn nn false), tq, loq, rfl, ⟨gset k13f, ?_, (fun i hi => by cases hi; simp only at *; omega), (fun i x hi hx => gne (Ne.symm hi) (hkK i x (glt hx) (hki i x hi hx))), by simp; simp only at *; omega⟩, hlq⟩
     rw [htj, show inC ((tt.s.take j).map (fun w => IntKind.i64.wrap w.2) ++ [IntKind.i64.wrap y.2]) = inC ((tt.s.take j).map fun w => IntKind.i64.wrap w.2) ++ [[.int .i64 (IntKind.i64.wrap y.2)]] by simp [inC]]
     exact hg2.grow fun i hi x hx => by cases hi; exact gne (by simp only at *; omega) hx
    ·rintro e s (⟨rfl, ⟨K, iv⟩, tj, loj, rfl, ⟨h13, hgi, hidi, hki, hli⟩, hlF⟩ | ⟨rfl, h⟩)
     ·simp only at h13 hgi hidi hki hli hlF
      rw [List.take_of_length_le (Nat.le_refl _)] at hgi
      have hkG : ∀ (i : Nat) (x : Blk), G[i]? = some x → K[i]? = some x := fun i x hx => hki i x (by have := glt hx; omega) (hgD i x hx)
      have h6 := hkG _ _ h6
      have h7 := hkG _ _ h7
      have h8 := hkG _ _ h8
      have hsoK := hso.grow (G' := (ap K [(.int .i64 by1.k), (.int .i64 by1.n), (.str by1.s), (.int .i64 (IntKind.i64.wrap (Prod.snd tt.c))), iv])) fun i x _ hx => ga (hkG i x hx)
      have hsv := hso.gro.eqv
      obtain ⟨sv', K1, lo1, happ, hg2, hi2, hl2, hfr⟩ := hsoK.gro.app (by_ := 64) (e := suC ⟨by1, IntKind.i64.wrap tt.c.2, tt.s.map fun w => IntKind.i64.wrap w.2⟩ iv) rfl (by simp only [suC, List.all_cons, List.all_nil, hgi.one]; rfl) (jd := K.length) gl (by rw [List.length_zipWith, hso.len, Nat.min_self]; omega)
      have hid := hso.id
      have hnb : ∀ (i : Nat) (x : Blk), svId sv ≠ some i → K[i]? = some x → K1[i]? = some x := fun i x hi hx => hfr i x hi (ga hx)
      have k6f := hnb k6 _ (fun h => by have := hid k6 h; omega) h6
      have k7f := hnb k7 _ (fun h => by have := hid k7 h; omega) h7
      have k8f := hnb k8 _ (fun h => by have := hid k8 h; omega) h8
      have hlK : G.length ≤ K.length := by omega
      have hkp1 : Kept H K1 := ⟨by rw [hl2]; simp; have := hkp.1; omega, fun i x hx => hnb i x (fun h => by have := hid i h; have := glt hx; omega) (hkG i x (hkp.2 i x hx))⟩
      generalize hjd : ((ap K [(.int .i64 by1.k), (.int .i64 by1.n), (.str by1.s), (.int .i64 (IntKind.i64.wrap (Prod.snd tt.c))), iv])).length = jd at hi2 hl2
      have hjd2 : jd = K.length + 1 := by rw [← hjd]; simp
      generalize hnn : ((List.zipWith suC (sumsS (gs.take k) lo hi) vs).length + 1) = nn at hi2
      subst hi2
      refine (pathE (nt := 71) [.f (.load none (.c (.ptr k8 2))) sv, .f (.load (some 5) (.c (.ptr k13 0))) (.agg [(.int .i64 by1.k), (.int .i64 by1.n), (.str by1.s), (.int .i64 (IntKind.i64.wrap (Prod.snd tt.c))), iv]), .w (.buildSl [(.int .i64 0), (.int .i64 0), (.str []), (.int .i64 0), .nils] 1 [(0, (.c (.agg [(.int .i64 by1.k), (.int .i64 by1.n), (.str by1.s), (.int .i64 (IntKind.i64.wrap (Prod.snd tt.c))), iv])))]) (.sl K.length 5 0 1 1 true) (ap K [(.int .i64 by1.k), (.int .i64 by1.n), (.str by1.s), (.int .i64 (IntKind.i64.wrap (Prod.snd tt.c))), iv]) none, .w (.append 5 64 (.c sv) (.c (.sl K.length 5 0 1 1 true))) (.sl jd 5 0 nn nn false) K1 lo1, .w (.store 1 (.c (.ptr k8 2)) (.c (.sl jd 5 0 nn nn false))) (.tup []) (K1.set k8 (.cells [(.int .i64 0), .nils, (.sl jd 5 0 nn nn false), (.int .i64 0)])) (some k8)] [20, 6, 7, 8, 18, 19] (e := .normal) (vals := [(.int .i64 (k : Int)), (.ptr k6 0), (.ptr k7 0), (.ptr k8 0), (.ro (gs.map enGV) 4 false), (.int .i64 (List.length gs : Int))]) (h' := (K1.set k8 (.cells [(.int .i64 0), .nils, (.sl jd 5 0 nn nn false), (.int .i64 0)]))) hlF (fun _ => by kernel_rfl) ⟨(ldV h8), (ldV h13), rfl, happ, (stK k8f), trivial⟩).mono ?_
      rintro e s' ⟨rfl, t9, lo9, rfl, hl9⟩
      refine .inl ⟨rfl, ((List.set K1 k8 (.cells [(.int .i64 0), .nils, (.sl jd 5 0 nn nn false), (.int .i64 0)])), .sl jd 5 0 nn nn false, vs ++ [iv]), t9, lo9, rfl, ⟨gne (by omega) k6f, gne (by omega) k7f, gset k8f, ?_, hkp1.set (by omega), by simp; omega⟩, hl9⟩
      rw [hyes]
      have hks : ∀ (i : Nat) (x : Blk), i ≠ k8 → K1[i]? = some x → ((List.set K1 k8 (.cells [(.int .i64 0), .nils, (.sl jd 5 0 nn nn false), (.int .i64 0)])))[i]? = some x := fun i x hi hx => gne (Ne.symm hi) hx
      refine ⟨by simp [hso.len], ?_, (fun i hi => by cases hi; omega), fun j s v hs hv => ?_⟩
      ·rw [zip_snoc hso.len]
       exact hg2.grow fun i hi x hx => by cases hi; exact hks _ _ (by omega) hx
      ·by_cases hjl : j < (sumsS (gs.take k) lo hi).length
       ·rw [List.getElem?_append_left hjl] at hs
        rw [List.getElem?_append_left (by rw [hso.len]; exact hjl)] at hv
        obtain ⟨g1, g2⟩ := hso.el j s v hs hv
        refine ⟨g1.grow fun i hi x hx => hks i x (by have := (g2 i hi).1; omega) (hnb i x (g2 i hi).2 (hkG i x hx)), fun i hi => ⟨(g2 i hi).1, fun h => ?_⟩⟩
        cases h
        have := g1.lt hi
        omega
       ·rw [List.getElem?_append_right (by omega)] at hs
        rw [List.getElem?_append_right (by rw [hso.len]; omega), hso.len] at hv
        have hj0 : j - (sumsS (gs.take k) lo hi).length = 0 := by
         cases hq : j - (sumsS (gs.take k) lo hi).length with
         | zero => rfl
         | succ m => rw [hq] at hs; simp at hs
        rw [hj0] at hs hv
        cases hs
        cases hv
        refine ⟨hgi.grow fun i hi x hx => hks i x (by have := hidi i hi; omega) (hnb i x (fun h => by
         have := hso.gro.lt h
         have := hidi i hi
         omega) hx), fun i hi => ⟨by have := hidi i hi; omega, fun h => ?_⟩⟩
        cases h
        have := hgi.lt hi
        omega
     ·exact h.elim
  ·rintro e s (⟨rfl, ⟨G, sv, vs⟩, t5, lo5, rfl, ⟨h6, h7, h8, hso, hkp, hlen⟩, hle⟩ | ⟨rfl, h⟩)
   ·simp only at h6 h7 h8 hso hkp hlen hle
    rw [List.take_of_length_le (Nat.le_refl _)] at hso
    have hone : (AV.agg [.int .i64 0, .nils, sv, .int .i64 0]).cells.all AV.one = true := by
     simp only [AV.cells, List.all_cons, hso.gro.one]
     rfl
    refine (pathE (nt := 71) [.f (.load (some 4) (.c (.ptr k8 0))) (.agg [(.int .i64 0), .nils, sv, (.int .i64 0)]), .w (.store 4 (.c (.ptr k8 0)) (.c (.agg [(.int .i64 0), .nils, sv, (.int .i64 0)]))) (.tup []) (G.set k8 (.cells [(.int .i64 0), .nils, sv, (.int .i64 0)])) (some k8)] [8] (e := .ret) (vals := [(.ptr k8 0)]) (h' := (G.set k8 (.cells [(.int .i64 0), .nils, sv, (.int .i64 0)]))) hle (fun _ => by kernel_rfl) ⟨(ldV h8), (stC h8 (by kernel_rfl) (by kernel_rfl) hone), trivial⟩).mono ?_
    rintro e s ⟨rfl, t6, lo6, rfl, hl6⟩
    refine ⟨rfl, _, resCell (hl6.ev List.mem_cons_self) (ldC (gset h8) (by kernel_rfl)), sv, vs, rfl, ?_, hkp.set (by omega)⟩
    have := hso.grow (G' := (List.set G k8 (.cells [(.int .i64 0), .nils, sv, (.int .i64 0)]))) fun i x hi hx => gne (by omega) hx
    exact ⟨this.len, this.gro, fun i hi => by have := this.id i hi; omega, fun j s v h1 h2 => by
     obtain ⟨g1, g2⟩ := this.el j s v h1 h2
     exact ⟨g1, fun i hi => ⟨by have := (g2 i hi).1; omega, (g2 i hi).2⟩⟩⟩
   ·exact h.elim
 obtain ⟨r, h', l, ⟨sv, vs, rfl, h1, h2⟩, h⟩ := key
 exact ⟨sv, vs, h', l, h, h1, h2⟩
end
open Go
theorem find1_cl {Γ : FuncId → Option GF} (hg : Γ 119 = none) (hc : Γ 120 = some (pureG g120)) {row : List Val} (key : Val) (hr : 0 < row.length) (H : List Blk) : ∃ lo, Cl Γ Mo.T 119 [rV row, vV key] H (.int .i64 (cmpV (hdV row) key), ap H [(.int .i64 key.k), (.int .i64 key.n), (.str key.s)], lo) := by
 obtain ⟨u0, hu⟩ : ∃ u0, row = u0 :: row.tail := by cases row with
  | nil => simp at hr
  | cons a r => exact ⟨a, rfl⟩
 have hu0 : (List.map vV row)[0]? = some (.agg (enV u0)) := by rw [hu]; rfl
 have hr0 : (0 : Int) < ((List.map vV row).length : Int) := by simp; omega
 rw [show hdV row = u0 by rw [hu]; rfl]
 exact clV 1 (af := a119) (r := (.int .i64 (cmpV u0 key))) (h' := (ap H [(.int .i64 key.k), (.int .i64 key.n), (.str key.s)])) [.w (.box (.c (.agg (enV key)))) (.ptr H.length 0) (ap H (enV key)) none, .p (3 = 3), .p ((0 : Int) ≤ 0), .p ((0 : Int) < (List.length (row.map vV) : Int)), .e (row.map vV) 0 (.agg (enV u0)), .f (.load (some 3) (.c (.ptr H.length 0))) (.agg (enV key)), .r 120 [(.agg (enV u0)), (.agg (enV key))] (.int .i64 (cmpV u0 key)) (ap H [(.int .i64 key.k), (.int .i64 key.n), (.str key.s)]) none] [] hg ⟨rfl, rfl, (by omega), hr0, hu0, (ldV gl), (cmp_e hc u0 key _), trivial⟩
theorem mid_eq {i j : Nat} (h : i + j ≤ 2000000) : IntKind.i64.wrap (Int.fdiv (IntKind.u64.wrap (IntKind.i64.wrap ((i : Int) + (j : Int)))) (2 ^ 1)) = (((i + j) / 2 : Nat) : Int) := by
 have h1 : IntKind.i64.wrap ((i : Int) + (j : Int)) = ((i + j : Nat) : Int) := by rw [IntWalk.i64_in _ (by omega)]; rfl
 have h2 : IntKind.u64.wrap ((i + j : Nat) : Int) = ((i + j : Nat) : Int) := by
  have : IntKind.u64.wrap ((i + j : Nat) : Int) = ((i + j : Nat) : Int) % 18446744073709551616 := by
   unfold IntKind.wrap
   first | rfl | (simp [IntKind.bits, IntKind.signed]; done)
  rw [this]; omega
 have h3 : Int.fdiv ((i + j : Nat) : Int) (2 ^ 1) = (((i + j) / 2 : Nat) : Int) := by
  rw [Int.fdiv_eq_ediv_of_nonneg _ (by decide)]
  omega
 rw [h1, h2, h3, IntWalk.i64_in _ (by omega)]
theorem bs_ex {rows : List (List Val)} {key : Val} (hl : rows.length ≤ 1000000) (hr : ∀ r ∈ rows, 0 < r.length) : ∃ (x : Nat × Bool) (h' : List Blk) (lo : Option Nat), (x.1 ≤ rows.length ∧ (x.2 = true → x.1 < rows.length)) ∧ Cl G9 Mo.T 118 [bV rows, vV key, (.fn (.func 119) [] [])] [] (.tup [.int .i64 (x.1 : Int), .bool x.2], h', lo) := by
 have key2 : ∃ r h' lo, (∃ x : Nat × Bool, r = .tup [.int .i64 (x.1 : Int), .bool x.2] ∧ x.1 ≤ rows.length ∧ (x.2 = true → x.1 < rows.length)) ∧ Cl G9 Mo.T 118 [bV rows, vV key, (.fn (.func 119) [] [])] [] (r, h', lo) := by
  refine clE (Γ := G9) (tbl := Mo.T) (f := 118) (af := a118) (args := [bV rows, vV key, (.fn (.func 119) [] [])]) (h := []) (by kernel_rfl) (by kernel_rfl) (by kernel_rfl) (fun r _ => ∃ x : Nat × Bool, r = .tup [.int .i64 (x.1 : Int), .bool x.2] ∧ x.1 ≤ rows.length ∧ (x.2 = true → x.1 < rows.length)) ?_
  refine Wp.seq ((pathE (nt := 49) (live := [(0, (.ro (rows.map rV) 1 false)), (1, (.agg (enV key))), (2, (.fn (.func 119) [] []))]) [.w (.box (.c (.agg (enV key)))) (.ptr (List.length ([] : List Blk)) 0) (ap ([] : List Blk) (enV key)) none] [0, 2, 4] (e := .normal) (vals := [(.ro (rows.map rV) 1 false), (.fn (.func 119) [] []), (.ptr (List.length ([] : List Blk)) 0)]) (h' := (ap ([] : List Blk) (enV key))) (Lv.start (by rfl) (by simp)) (fun _ => by kernel_rfl) ⟨rfl, trivial⟩).mono ?_)
  rintro e s ⟨rfl, t1, lo1, rfl, hl1⟩
  have h0 : ([.cells [(.int .i64 key.k), (.int .i64 key.n), (.str key.s)]] : List Blk)[0]? = some (.cells [(.int .i64 key.k), (.int .i64 key.n), (.str key.s)]) := rfl
  have h0 : (ap ([] : List Blk) [(.int .i64 key.k), (.int .i64 key.n), (.str key.s)])[0]? = some (.cells [(.int .i64 key.k), (.int .i64 key.n), (.str key.s)]) := rfl
  generalize ap ([] : List Blk) [(.int .i64 key.k), (.int .i64 key.n), (.str key.s)] = H at hl1 h0 ⊢
  have hlenR : ∀ {H}, pOp evC H (.len 1 (.c (.ro (List.map rV rows) 1 false))) = some (.int .i64 (rows.length : Int)) := by intro H; simp [pOp, evC]
  refine Wp.seq ((pathE (nt := 49) [.g (.len 1 (.c (.ro (rows.map rV) 1 false))) (.int .i64 (List.length rows : Int))] [0, 2, 4, 8] (e := .normal) (vals := [(.ro (rows.map rV) 1 false), (.fn (.func 119) [] []), (.ptr 0 0), (.int .i64 (List.length rows : Int))]) (h' := H) hl1 (fun _ => by kernel_rfl) ⟨hlenR, trivial⟩).mono ?_)
  rintro e s ⟨rfl, t2, lo2, rfl, hl2⟩
  refine Wp.seq ((pathE (nt := 49) [] [0, 2, 4, 8, 9, 10] (e := .normal) (vals := [(.ro (rows.map rV) 1 false), (.fn (.func 119) [] []), (.ptr 0 0), (.int .i64 (List.length rows : Int)), (.int .i64 0), (.int .i64 (List.length rows : Int))]) (h' := H) hl2 (fun _ => by kernel_rfl) trivial).mono ?_)
  rintro e s ⟨rfl, t3, lo3, rfl, hl3⟩
  refine Wp.seq (Wp.block (Wp.mono (Wp.loop (Q := fun e s => e = .exit 0 ∧ ∃ (i : Nat) (t : List AV) (H : List Blk) (lo : Option Nat), s = { t := t, h := H, lo := lo } ∧ H[0]? = some (.cells [(.int .i64 key.k), (.int .i64 key.n), (.str key.s)]) ∧ i ≤ rows.length ∧ Lv 49 [(0, (.ro (List.map rV rows) 1 false)), (2, (.fn (.func 119) [] [])), (4, (.ptr 0 0)), (8, (.int .i64 (List.length rows : Int))), (9, (.int .i64 (i : Int)))] t) (fun q s => ∃ (i j : Nat) (t : List AV) (H : List Blk) (lo : Option Nat), s = { t := t, h := H, lo := lo } ∧ q = j - i ∧ i ≤ j ∧ j ≤ rows.length ∧ H[0]? = some (.cells [(.int .i64 key.k), (.int .i64 key.n), (.str key.s)]) ∧ Lv 49 [(0, (.ro (List.map rV rows) 1 false)), (2, (.fn (.func 119) [] [])), (4, (.ptr 0 0)), (8, (.int .i64 (List.length rows : Int))), (9, (.int .i64 (i : Int))), (10, (.int .i64 (j : Int)))] t) ?_ (rows.length - 0) _ ⟨0, rows.length, t3, H, lo3, rfl, rfl, Nat.zero_le _, Nat.le_refl _, h0, hl3.sub (by simp)⟩) ?_))
  ·rintro q s ⟨i, j, t, H, lo, rfl, rfl, hij0, hjn, h0, hl⟩
   by_cases hij : (i : Int) < (j : Int)
   ·have hmid := mid_eq (i := i) (j := j) (by omega)
    obtain ⟨m, hm⟩ : ∃ m, (i + j) / 2 = m := ⟨_, rfl⟩
    rw [hm] at hmid
    have hmi : i ≤ m ∧ m < j := by omega
    have hmr : m < rows.length := by omega
    have hm0 : (0 : Int) ≤ IntKind.i64.wrap (Int.fdiv (IntKind.u64.wrap (IntKind.i64.wrap ((i : Int) + (j : Int)))) (2 ^ 1)) := by rw [hmid]; omega
    have hm1 : IntKind.i64.wrap (Int.fdiv (IntKind.u64.wrap (IntKind.i64.wrap ((i : Int) + (j : Int)))) (2 ^ 1)) < ((List.length (List.map rV rows) : Nat) : Int) := by rw [hmid]; simp; omega
    have hrow : (List.map rV rows)[Int.toNat (IntKind.i64.wrap (Int.fdiv (IntKind.u64.wrap (IntKind.i64.wrap ((i : Int) + (j : Int)))) (2 ^ 1)))]? = some (.ro (List.map vV rows[m]) 3 false) := by rw [hmid]; simp [hmr]
    have hrp := hr _ (List.getElem_mem hmr)
    generalize rows[m] = row at hrow hrp
    obtain ⟨l9, h9⟩ := find1_cl (Γ := G9) (by kernel_rfl) (by kernel_rfl) key hrp H
    generalize cmpV (hdV row) key = cv at h9
    by_cases hcv : cv < 0
    ·refine (pathE (nt := 49) [.b (decide ((i : Int) < (j : Int))) true, .p (1 = 1), .p ((0 : Int) ≤ (IntKind.i64.wrap (Int.fdiv (IntKind.u64.wrap (IntKind.i64.wrap ((i : Int) + (j : Int)))) (2 ^ 1)))), .p (((IntKind.i64.wrap (Int.fdiv (IntKind.u64.wrap (IntKind.i64.wrap ((i : Int) + (j : Int)))) (2 ^ 1))) : Int) < (List.length (rows.map rV) : Int)), .e (rows.map rV) (Int.toNat (IntKind.i64.wrap (Int.fdiv (IntKind.u64.wrap (IntKind.i64.wrap ((i : Int) + (j : Int)))) (2 ^ 1)))) (.ro (row.map vV) 3 false), .f (.load (some 3) (.c (.ptr 0 0))) (.agg (enV key)), .r 119 [(.ro (row.map vV) 3 false), (.agg (enV key))] (.int .i64 cv) (ap H [(.int .i64 key.k), (.int .i64 key.n), (.str key.s)]) l9, .b (decide (cv < 0)) true] [0, 2, 4, 8, 9, 10] (e := .normal) (vals := [(.ro (rows.map rV) 1 false), (.fn (.func 119) [] []), (.ptr 0 0), (.int .i64 (List.length rows : Int)), (.int .i64 (IntKind.i64.wrap ((IntKind.i64.wrap (Int.fdiv (IntKind.u64.wrap (IntKind.i64.wrap ((i : Int) + (j : Int)))) (2 ^ 1))) + 1))), (.int .i64 (j : Int))]) (h' := (ap H [(.int .i64 key.k), (.int .i64 key.n), (.str key.s)])) hl (fun _ => by kernel_rfl) ⟨(cT hij), rfl, hm0, hm1, hrow, (ldV h0), h9, (cT hcv), trivial⟩).mono ?_
     rintro e s' ⟨rfl, t5, lo5, rfl, hl5⟩
     rw [hmid, i64_succ (by omega) (by omega)] at hl5
     exact ⟨j - (m + 1), by omega, m + 1, j, t5, _, lo5, rfl, rfl, by omega, hjn, ga h0, hl5.sub (by simp)⟩
    ·refine (pathE (nt := 49) [.b (decide ((i : Int) < (j : Int))) true, .p (1 = 1), .p ((0 : Int) ≤ (IntKind.i64.wrap (Int.fdiv (IntKind.u64.wrap (IntKind.i64.wrap ((i : Int) + (j : Int)))) (2 ^ 1)))), .p (((IntKind.i64.wrap (Int.fdiv (IntKind.u64.wrap (IntKind.i64.wrap ((i : Int) + (j : Int)))) (2 ^ 1))) : Int) < (List.length (rows.map rV) : Int)), .e (rows.map rV) (Int.toNat (IntKind.i64.wrap (Int.fdiv (IntKind.u64.wrap (IntKind.i64.wrap ((i : Int) + (j : Int)))) (2 ^ 1)))) (.ro (row.map vV) 3 false), .f (.load (some 3) (.c (.ptr 0 0))) (.agg (enV key)), .r 119 [(.ro (row.map vV) 3 false), (.agg (enV key))] (.int .i64 cv) (ap H [(.int .i64 key.k), (.int .i64 key.n), (.str key.s)]) l9, .b (decide (cv < 0)) false] [0, 2, 4, 8, 9, 10] (e := .normal) (vals := [(.ro (rows.map rV) 1 false), (.fn (.func 119) [] []), (.ptr 0 0), (.int .i64 (List.length rows : Int)), (.int .i64 (i : Int)), (.int .i64 (IntKind.i64.wrap (Int.fdiv (IntKind.u64.wrap (IntKind.i64.wrap ((i : Int) + (j : Int)))) (2 ^ 1))))]) (h' := (ap H [(.int .i64 key.k), (.int .i64 key.n), (.str key.s)])) hl (fun _ => by kernel_rfl) ⟨(cT hij), rfl, hm0, hm1, hrow, (ldV h0), h9, (cF hcv), trivial⟩).mono ?_
     rintro e s' ⟨rfl, t5, lo5, rfl, hl5⟩
     rw [hmid] at hl5
     exact ⟨m - i, by omega, i, m, t5, _, lo5, rfl, rfl, by omega, by omega, ga h0, hl5.sub (by simp)⟩
   ·refine (pathE (nt := 49) [.b (decide ((i : Int) < (j : Int))) false] [0, 2, 4, 8, 9] (e := (.exit 0)) (vals := [(.ro (rows.map rV) 1 false), (.fn (.func 119) [] []), (.ptr 0 0), (.int .i64 (List.length rows : Int)), (.int .i64 (i : Int))]) (h' := H) hl (fun _ => by kernel_rfl) ⟨(cF hij), trivial⟩).mono ?_
    rintro e s' ⟨rfl, t5, lo5, rfl, hl5⟩
    exact ⟨rfl, i, t5, H, lo5, rfl, h0, by omega, hl5.sub (by simp)⟩
  ·rintro e s ⟨rfl, i, t5, H, lo5, rfl, h0, hi, hle⟩
   simp only [if_true]
   have fin : ∀ {t : List AV} {h : List Blk} {lo : Option Nat} {b : Bool}, Lv 49 [(6, .int .i64 (i : Int)), (7, .bool b)] t → ∃ vs, resAll ({ t := t, h := h, lo := lo } : St) a118.res = some vs ∧ packRes vs = .tup [.int .i64 (i : Int), .bool b] := by
    intro t h lo b hl
    have g6 := hl.get (6, .int .i64 (i : Int)) (by simp)
    have g7 := hl.get (7, .bool b) (by simp)
    simp only [getX_eq] at g6 g7
    refine ⟨[.int .i64 (i : Int), .bool b], ?_, rfl⟩
    show resAll _ [.t 6, .t 7] = _
    simp only [resAll, resOf, g6, g7]
   by_cases hin : (i : Int) < (rows.length : Int)
   ·have hir : i < rows.length := by omega
    have hrow : (List.map rV rows)[(i : Int).toNat]? = some (.ro (List.map vV rows[i]) 3 false) := by simp [hir]
    have hrp := hr _ (List.getElem_mem hir)
    generalize rows[i] = row at hrow hrp
    obtain ⟨l9, h9⟩ := find1_cl (Γ := G9) (by kernel_rfl) (by kernel_rfl) key hrp H
    generalize cmpV (hdV row) key = cv at h9
    refine (pathE (nt := 49) [.b (decide ((i : Int) < (List.length rows : Int))) true, .p (1 = 1), .p ((0 : Int) ≤ (i : Int)), .p (((i : Int) : Int) < (List.length (rows.map rV) : Int)), .e (rows.map rV) (Int.toNat (i : Int)) (.ro (row.map vV) 3 false), .f (.load (some 3) (.c (.ptr 0 0))) (.agg (enV key)), .r 119 [(.ro (row.map vV) 3 false), (.agg (enV key))] (.int .i64 cv) (ap H [(.int .i64 key.k), (.int .i64 key.n), (.str key.s)]) l9] [6, 7] (e := .ret) (vals := [(.int .i64 (i : Int)), (.bool (cv == 0))]) (h' := (ap H [(.int .i64 key.k), (.int .i64 key.n), (.str key.s)])) hle (fun _ => by kernel_rfl) ⟨(cT hin), rfl, (by omega), (by simp; omega), hrow, (ldV h0), h9, trivial⟩).mono ?_
    rintro e s' ⟨rfl, t6, lo6, rfl, hl6⟩
    obtain ⟨vs, g1, g2⟩ := fin (h := (ap H [(.int .i64 key.k), (.int .i64 key.n), (.str key.s)])) (lo := lo6) hl6
    exact ⟨rfl, vs, g1, ⟨(i, cv == 0), g2, by simp only; omega, fun _ => by simp only; omega⟩⟩
   ·refine (pathE (nt := 49) [.b (decide ((i : Int) < (List.length rows : Int))) false] [6, 7] (e := .ret) (vals := [(.int .i64 (i : Int)), (.bool false)]) (h' := H) hle (fun _ => by kernel_rfl) ⟨(cF hin), trivial⟩).mono ?_
    rintro e s' ⟨rfl, t6, lo6, rfl, hl6⟩
    obtain ⟨vs, g1, g2⟩ := fin (h := H) (lo := lo6) hl6
    exact ⟨rfl, vs, g1, ⟨(i, false), g2, hi, fun h => by cases h⟩⟩
 obtain ⟨r, h', lo, ⟨x, rfl, h1⟩, h⟩ := key2
 exact ⟨x, h', lo, h1, h⟩
open Classical in
noncomputable def bsK (rows : List (List Val)) (key : Val) : Nat × Bool := if h : ∃ (x : Nat × Bool) (h' : List Blk) (lo : Option Nat), (x.1 ≤ rows.length ∧ (x.2 = true → x.1 < rows.length)) ∧ Cl G9 Mo.T 118 [bV rows, vV key, (.fn (.func 119) [] [])] [] (.tup [.int .i64 (x.1 : Int), .bool x.2], h', lo) then h.choose else (0, false)
def okBs (x : List (List Val) × Val) : Prop := x.1.length ≤ 1000000 ∧ ∀ r ∈ x.1, 0 < r.length
theorem bsK_spec {x : List (List Val) × Val} (ok : okBs x) : ∃ (h' : List Blk) (lo : Option Nat), ((bsK x.1 x.2).1 ≤ x.1.length ∧ ((bsK x.1 x.2).2 = true → (bsK x.1 x.2).1 < x.1.length)) ∧ Cl G9 Mo.T 118 [bV x.1, vV x.2, (.fn (.func 119) [] [])] [] (.tup [.int .i64 ((bsK x.1 x.2).1 : Int), .bool (bsK x.1 x.2).2], h', lo) := by
 have h := bs_ex (key := x.2) ok.1 ok.2
 unfold bsK
 rw [dif_pos h]
 exact h.choose_spec
noncomputable def g118 : List AV → Option AV := gOf okBs (fun x => [bV x.1, vV x.2, (.fn (.func 119) [] [])]) (fun x => .tup [.int .i64 ((bsK x.1 x.2).1 : Int), .bool (bsK x.1 x.2).2])
theorem bs_ok : GOk Tryz.prog 118 (pureG g118) := gOf_ok ⟨_, Tryz.func118, by kernel_rfl, by kernel_rfl⟩ fun x hx => by
 obtain ⟨h', lo, _, h⟩ := bsK_spec hx
 exact pureS_cl K9 h (by kernel_rfl) rfl
theorem bs_e {Γ : FuncId → Option GF} (hg : Γ 118 = some (pureG g118)) {rows : List (List Val)} {key : Val} (ok : okBs (rows, key)) (H : List Blk) : Cl Γ Mo.T 118 [bV rows, vV key, (.fn (.func 119) [] [])] H (.tup [.int .i64 ((bsK rows key).1 : Int), .bool (bsK rows key).2], H, none) :=
 Cl.pure (g := g118) hg (gOf_eq (fun a b _ _ h => by
  have h1 := (List.cons.inj h).1
  have h2 := (List.cons.inj (List.cons.inj h).2).1
  rw [bV_inj _ _ h1, vV_inj _ _ h2]) (a := (rows, key)) ok) (by simp only [cloL, clo_bV, Bool.true_and]; rfl) rfl H
open Go
def ovW (a : Int × Int) : Bool := !(intW a).2
theorem ov1_cl (a : Int × Int) (H : List Blk) : ∃ lo, Cl G9 Mo.T 146 [wV a] H (.bool (ovW a), ap H (enW a), lo) :=
 clV 1 (af := a146) (r := (.bool (! (Prod.snd (intW a))))) (h' := (ap H [(.int .i64 a.1), (.int .u64 a.2)])) [.w (.box (.c (.agg [(.int .i64 a.1), (.int .u64 a.2)]))) (.ptr H.length 0) (ap H [(.int .i64 a.1), (.int .u64 a.2)]) none, .f (.load (some 2) (.c (.ptr H.length 0))) (.agg [(.int .i64 a.1), (.int .u64 a.2)]), .r 147 [(.agg [(.int .i64 a.1), (.int .u64 a.2)])] (.tup [(.int .i64 (Prod.fst (intW a))), (.bool (Prod.snd (intW a)))]) (ap H [(.int .i64 a.1), (.int .u64 a.2)]) none] [] (by kernel_rfl) ⟨rfl, (ldV gl), (int_e (by kernel_rfl) a _), trivial⟩
def g146 : List AV → Option AV
 | [.agg [.int .i64 h, .int .u64 l]] => some (.bool (ovW (h, l)))
 | _ => none
theorem ov1_ok : GOk Tryz.prog 146 (pureG g146) := by
 refine pureG_known ⟨_, Tryz.func146, by kernel_rfl, by kernel_rfl⟩ fun args r hr _ => ?_
 unfold g146 at hr
 split at hr <;> cases hr
 rename_i h l _
 obtain ⟨lo, h⟩ := ov1_cl (h, l) []
 exact pureS_cl K9 h (by kernel_rfl) rfl
noncomputable def gam10 : List (Nat × GF) := (146, pureG g146) :: gam9
theorem K10 : Known (gGet gam10) tree.get Tryz.prog := known_of (by kernel_rfl) ⟨ov1_ok, wish_ok, clone64_ok, clone90_ok, isVal_ok, view_ok, grp_ok, tot_ok, adt_ok, fit_ok, code_ok, int_ok, of_ok, add_ok, cmp_ok, good_ok, xSub_ok, xAdd_ok, trivial⟩ all
noncomputable abbrev G10 : FuncId → Option GF := gGet gam10
def anyW : List AV → Bool := fun l => l.any fun v => match v with
 | .agg [.int .i64 h, .int .u64 l] => ovW (h, l)
 | _ => false
theorem anyW_eq (s : List (Int × Int)) : anyW (s.map wV) = s.any ovW := by
 induction s with
 | nil => rfl
 | cons a r ih => rw [List.map_cons, List.any_cons, ← ih]; rfl
theorem con_cl {s : List (Int × Int)} (hl : s.length ≤ 1000000) : ∃ h', Cl G10 Mo.T 149 [.ro (s.map wV) 2 false, .fn (.func 146) [] []] [] (.bool (s.any ovW), h', none) := by
 rw [← anyW_eq]
 obtain ⟨h', _, hc⟩ := conF_cl (f := 149) (st := 2) (ld := some 2) (Γ := G10) (tbl := Mo.T) (g' := 164) (xs := s.map wV) (ex := false) (first := []) (cap := []) (g := 146) (by kernel_rfl) (by kernel_rfl) (by kernel_rfl) (by kernel_rfl) (by simp; omega) (fun v => match v with
  | .agg [.int .i64 h, .int .u64 l] => ovW (h, l)
  | _ => false) (fun _ => True)
  (fun x hx => by obtain ⟨w, _, rfl⟩ := List.mem_map.1 hx; exact ⟨by simp [AV.cells, cellsN], rfl⟩)
  (fun x hx h1 _ => by obtain ⟨w, _, rfl⟩ := List.mem_map.1 hx; exact ⟨h1, trivial, Cl.pure (g := g146) (by kernel_rfl) rfl rfl rfl h1⟩) [] trivial
 exact ⟨h', hc⟩
noncomputable def g149 : List AV → Option AV := gOf (fun s : List (Int × Int) => s.length ≤ 1000000) (fun s => [.ro (s.map wV) 2 false, .fn (.func 146) [] []]) (fun s => .bool (s.any ovW))
theorem con_ok : GOk Tryz.prog 149 (pureG g149) := gOf_ok ⟨_, Tryz.func149, by kernel_rfl, by kernel_rfl⟩ fun s hs => by
 obtain ⟨h', h⟩ := con_cl hs
 exact pureS_cl K10 h (by kernel_rfl) rfl
theorem con_e {Γ : FuncId → Option GF} (hg : Γ 149 = some (pureG g149)) {s : List (Int × Int)} (hl : s.length ≤ 1000000) (H : List Blk) : Cl Γ Mo.T 149 [.ro (s.map wV) 2 false, .fn (.func 146) [] []] H (.bool (s.any ovW), H, none) :=
 Cl.pure (g := g149) hg (gOf_eq (fun a b _ _ h => by
  have h := (List.cons.inj h).1
  simp only [AV.ro.injEq] at h
  rw [map_inj wV_inj h.1]) (a := s) hl) (by simp [cloL, clo, cloL_map (f := wV) (fun _ => rfl)]) rfl H
def ofT (V : List Vw) (t : Int) (i : Nat) : Bool := match V[i]? with
 | some w => w.1 == t
 | none => false
def viewsL (V : List Vw) (t : Int) (k : Nat) : List Int := ((List.range k).filter (ofT V t)).map fun (i : Nat) => (i : Int)
def viewsOf (V : List Vw) (t : Int) : List Int := viewsL V t V.length
abbrev inL (l : List Int) : List (List AV) := l.map fun n => [.int .i64 n]
theorem views_pure {T : List (List Int)} {V : List Vw} {t : Int} (hV : V.length ≤ 100000) : PureS Tryz.prog 148 [pA T V, .int .i64 t] (.ro ((viewsOf V t).map iV) 1 false) := by
 have key : ∃ r h' lo, Gro 1 (inL (viewsOf V t)) h' r ∧ Cl G9 Mo.T 148 [pA T V, .int .i64 t] [] (r, h', lo) := by
  refine clE (Γ := G9) (tbl := Mo.T) (f := 148) (af := a148) (args := [pA T V, .int .i64 t]) (h := []) (by kernel_rfl) (by kernel_rfl) (by kernel_rfl) (fun r h' => Gro 1 (inL (viewsOf V t)) h' r) ?_
  refine Wp.seq ((pathE (nt := 25) (live := [(0, (.agg [(.ro (T.map tV) 1 false), (.ro (V.map vwV) 3 false)])), (1, (.int .i64 t))]) [.w (.box (.c (.agg [(.ro (T.map tV) 1 false), (.ro (V.map vwV) 3 false)]))) (.ptr (List.length ([] : List Blk)) 0) (ap ([] : List Blk) [(.ro (T.map tV) 1 false), (.ro (V.map vwV) 3 false)]) none] [1, 2, 4] (e := .normal) (vals := [(.int .i64 t), (.ptr (List.length ([] : List Blk)) 0), .nils]) (h' := (ap ([] : List Blk) [(.ro (T.map tV) 1 false), (.ro (V.map vwV) 3 false)])) (Lv.start (by rfl) (by simp)) (fun _ => by kernel_rfl) ⟨rfl, trivial⟩).mono ?_)
  rintro e s ⟨rfl, t1, lo1, rfl, hl1⟩
  have h0 : (ap ([] : List Blk) [(.ro (List.map tV T) 1 false), (.ro (List.map vwV V) 3 false)])[0]? = some (.cells [(.ro (List.map tV T) 1 false), (.ro (List.map vwV V) 3 false)]) := rfl
  generalize ap ([] : List Blk) [(.ro (List.map tV T) 1 false), (.ro (List.map vwV V) 3 false)] = H at hl1 h0 ⊢
  refine Wp.seq (Wp.seq ((pathE (nt := 25) [.f (.load none (.c (.ptr 0 1))) (.ro (V.map vwV) 3 false)] [10, 1, 4, 8, 9] (e := .normal) (vals := [(.int .i64 0), (.int .i64 t), .nils, (.ro (V.map vwV) 3 false), (.int .i64 ((List.length (V.map vwV)) : Int))]) (h' := H) hl1 (fun _ => by kernel_rfl) ⟨(ldV h0), trivial⟩).mono ?_))
  rintro e s ⟨rfl, t3, lo3, rfl, hl3⟩
  simp only [List.length_map] at hl3
  refine (rangeL (nt := 25) (i := 10) (n := 9) (c := 11) (d := 23) (X := List Blk × AV) (N := V.length) (fun _ x => [(1, .int .i64 t), (4, x.2), (8, (.ro (List.map vwV V) 3 false)), (9, .int .i64 (V.length : Int))]) (fun _ x => x.1)
   (fun k x => Gro 1 (inL (viewsL V t k)) x.1 x.2) (fun _ => False)
   (by omega) (by decide) (by decide) (by decide) (by decide) (by decide) (fun _ _ => rfl) (fun _ _ => rfl) ?_ (x0 := (H, .nils)) (Gro.nil _ _) hl3).mono ?_
  ·rintro k ⟨H, sv⟩ t4 lo4 hkN hg hlb
   simp only at hg hlb ⊢
   have hVk := List.getElem?_eq_getElem hkN
   have hw : (List.map vwV V)[(k : Int).toNat]? = some (vwV V[k]) := by simp [hkN]
   have hsn : viewsL V t (k + 1) = viewsL V t k ++ (if ofT V t k then [(k : Int)] else []) := by
    unfold viewsL
    rw [List.range_succ, List.filter_append, List.map_append]
    congr 1
    cases h : ofT V t k <;> simp [h]
   have hof : ofT V t k = (V[k].1 == t) := by unfold ofT; rw [hVk]
   generalize V[k] = w at hVk hw hof
   by_cases htt : w.1 = t
   ·have hg1 : Gro 1 (inL (viewsL V t k)) (ap (ap H [(.int .i64 (Prod.fst w)), (.int .i64 (Prod.fst (Prod.snd w))), (.ro (List.map iV (Prod.snd (Prod.snd w))) 1 false)]) [.int .i64 (k : Int)]) sv := hg.grow fun i _ x hx => ga (ga hx)
    have hln : (viewsL V t k).length ≤ k := by
     unfold viewsL
     rw [List.length_map]
     exact Nat.le_trans (List.length_filter_le ..) (by simp)
    obtain ⟨sv', H1, lo1, happ, hg2, hi2, hl2, hfr⟩ := hg1.app (by_ := 8) (e := [.int .i64 (k : Int)]) rfl rfl (jd := (ap H [(.int .i64 (Prod.fst w)), (.int .i64 (Prod.fst (Prod.snd w))), (.ro (List.map iV (Prod.snd (Prod.snd w))) 1 false)]).length) gl (by rw [List.length_map]; omega)
    generalize (ap (ap H [(.int .i64 (Prod.fst w)), (.int .i64 (Prod.fst (Prod.snd w))), (.ro (List.map iV (Prod.snd (Prod.snd w))) 1 false)]) [.int .i64 (k : Int)]).length = jd at hi2
    generalize (inL (viewsL V t k)).length + 1 = nn at hi2
    subst hi2
    refine (pathE (nt := 25) [.p (3 = 3), .p ((0 : Int) ≤ (k : Int)), .p (((k : Int) : Int) < (List.length (V.map vwV) : Int)), .e (V.map vwV) (Int.toNat (k : Int)) (.agg [(.int .i64 (Prod.fst w)), (.int .i64 (Prod.fst (Prod.snd w))), (.ro (List.map iV (Prod.snd (Prod.snd w))) 1 false)]), .w (.alloc [(.int .i64 0), (.int .i64 0), .nils]) (.ptr H.length 0) (ap H [(.int .i64 0), (.int .i64 0), .nils]) none, .w (.store 3 (.c (.ptr H.length 0)) (.c (.agg [(.int .i64 (Prod.fst w)), (.int .i64 (Prod.fst (Prod.snd w))), (.ro (List.map iV (Prod.snd (Prod.snd w))) 1 false)]))) (.tup []) (ap H [(.int .i64 (Prod.fst w)), (.int .i64 (Prod.fst (Prod.snd w))), (.ro (List.map iV (Prod.snd (Prod.snd w))) 1 false)]) (some H.length), .f (.load none (.c (.ptr H.length 0))) (.int .i64 (Prod.fst w)), .b ((Prod.fst w) == t) true, .w (.buildSl [(.int .i64 0)] 1 [(0, (.c (.int .i64 (k : Int))))]) (.sl (List.length (ap H [(.int .i64 (Prod.fst w)), (.int .i64 (Prod.fst (Prod.snd w))), (.ro (List.map iV (Prod.snd (Prod.snd w))) 1 false)])) 1 0 1 1 true) (ap (ap H [(.int .i64 (Prod.fst w)), (.int .i64 (Prod.fst (Prod.snd w))), (.ro (List.map iV (Prod.snd (Prod.snd w))) 1 false)]) [(.int .i64 (k : Int))]) none, .w (.append 1 8 (.c sv) (.c (.sl (List.length (ap H [(.int .i64 (Prod.fst w)), (.int .i64 (Prod.fst (Prod.snd w))), (.ro (List.map iV (Prod.snd (Prod.snd w))) 1 false)])) 1 0 1 1 true))) (.sl jd 1 0 nn nn false) H1 lo1] [10, 1, 4, 8, 9] (e := .normal) (vals := [(.int .i64 (k : Int)), (.int .i64 t), (.sl jd 1 0 nn nn false), (.ro (V.map vwV) 3 false), (.int .i64 (List.length V : Int))]) (h' := H1) hlb (fun _ => by kernel_rfl) ⟨rfl, (by omega), (by simp; omega), hw, rfl, stZ, (ldV gl), (cE htt), rfl, happ, trivial⟩).mono ?_
    rintro e s' ⟨rfl, t5, lo5, rfl, hl5⟩
    refine .inl ⟨rfl, (H1, .sl jd 1 0 nn nn false), t5, lo5, rfl, ?_, hl5⟩
    rw [hsn, hof, beq_iff_eq.2 htt, if_pos rfl, show inL (viewsL V t k ++ [(k : Int)]) = inL (viewsL V t k) ++ [[.int .i64 (k : Int)]] by simp [inL]]
    exact hg2
   ·refine (pathE (nt := 25) [.p (3 = 3), .p ((0 : Int) ≤ (k : Int)), .p (((k : Int) : Int) < (List.length (V.map vwV) : Int)), .e (V.map vwV) (Int.toNat (k : Int)) (.agg [(.int .i64 (Prod.fst w)), (.int .i64 (Prod.fst (Prod.snd w))), (.ro (List.map iV (Prod.snd (Prod.snd w))) 1 false)]), .w (.alloc [(.int .i64 0), (.int .i64 0), .nils]) (.ptr H.length 0) (ap H [(.int .i64 0), (.int .i64 0), .nils]) none, .w (.store 3 (.c (.ptr H.length 0)) (.c (.agg [(.int .i64 (Prod.fst w)), (.int .i64 (Prod.fst (Prod.snd w))), (.ro (List.map iV (Prod.snd (Prod.snd w))) 1 false)]))) (.tup []) (ap H [(.int .i64 (Prod.fst w)), (.int .i64 (Prod.fst (Prod.snd w))), (.ro (List.map iV (Prod.snd (Prod.snd w))) 1 false)]) (some H.length), .f (.load none (.c (.ptr H.length 0))) (.int .i64 (Prod.fst w)), .b ((Prod.fst w) == t) false] [10, 1, 4, 8, 9] (e := .normal) (vals := [(.int .i64 (k : Int)), (.int .i64 t), sv, (.ro (V.map vwV) 3 false), (.int .i64 (List.length V : Int))]) (h' := (ap H [(.int .i64 (Prod.fst w)), (.int .i64 (Prod.fst (Prod.snd w))), (.ro (List.map iV (Prod.snd (Prod.snd w))) 1 false)])) hlb (fun _ => by kernel_rfl) ⟨rfl, (by omega), (by simp; omega), hw, rfl, stZ, (ldV gl), (cN htt), trivial⟩).mono ?_
    rintro e s' ⟨rfl, t5, lo5, rfl, hl5⟩
    refine .inl ⟨rfl, ((ap H [(.int .i64 (Prod.fst w)), (.int .i64 (Prod.fst (Prod.snd w))), (.ro (List.map iV (Prod.snd (Prod.snd w))) 1 false)]), sv), t5, lo5, rfl, ?_, hl5⟩
    rw [hsn, hof, beq_false_of_ne htt, if_neg (by simp), List.append_nil]
    exact hg.grow fun i _ x hx => ga hx
  ·rintro e s (⟨rfl, ⟨H, sv⟩, t5, lo5, rfl, hg, hle⟩ | ⟨rfl, h⟩)
   ·simp only at hg hle
    refine (pathE (nt := 25) [] [4] (e := .ret) (vals := [sv]) (h' := H) hle (fun _ => by kernel_rfl) trivial).mono ?_
    rintro e s ⟨rfl, t6, lo6, rfl, hl6⟩
    refine ⟨rfl, [sv], ?_, hg⟩
    have := hl6.get (4, sv) (by simp)
    rw [getX_eq] at this
    show resAll _ [.t 4] = _
    simp only [resAll, resOf, this]
   ·exact h.elim
 obtain ⟨r, h', lo, hg, hcl⟩ := key
 obtain ⟨r', hf, hcv⟩ := hg.frz (n := 3) (by decide) fun e he => by
  obtain ⟨x, _, rfl⟩ := List.mem_map.1 he
  rfl
 refine (pureS_clf K9 (k := 4) hcl (by kernel_rfl) hf).cv ?_
 rw [List.map_map] at hcv
 exact hcv
noncomputable def g148 : List AV → Option AV := gOf (fun x : List (List Int) × List Vw × Int => x.2.1.length ≤ 100000) (fun x => [pA x.1 x.2.1, .int .i64 x.2.2]) (fun x => .ro ((viewsOf x.2.1 x.2.2).map iV) 1 false)
theorem views_ok : GOk Tryz.prog 148 (pureG g148) := gOf_ok ⟨_, Tryz.func148, by kernel_rfl, by kernel_rfl⟩ fun x hx => views_pure hx
theorem views_e {Γ : FuncId → Option GF} (hg : Γ 148 = some (pureG g148)) {T : List (List Int)} {V : List Vw} {t : Int} (hV : V.length ≤ 100000) (H : List Blk) : Cl Γ Mo.T 148 [pA T V, .int .i64 t] H (.ro ((viewsOf V t).map iV) 1 false, H, none) :=
 Cl.pure (g := g148) hg (gOf_eq (fun a b _ _ h => by
  have h1 := pA_inj (List.cons.inj h).1
  have h2 := iV_inj _ _ (List.cons.inj (List.cons.inj h).2).1
  rw [h1.2, h2]) (a := (T, V, t)) hV) (by simp only [cloL, clo_pA, Bool.true_and]; rfl) (by simp [clo, cloL_map (f := iV) (fun _ => rfl)]) H
open Go
def ovG1 (gs : List KT) : Bool := gs.any fun e => e.2.s.any ovW
def ovV (T : List (List Int)) (V : List Vw) (now : Tabs) (v : Int) : Bool := match V[v.toNat]? with
 | some w => ovG1 (viewS T V v (now.getD w.1.toNat []))
 | none => false
def overB (T : List (List Int)) (V : List Vw) (now : Tabs) (t : Int) : Bool := (viewsOf V t).any (ovV T V now)
def OkNow (T : List (List Int)) (V : List Vw) (now : Tabs) : Prop := ∀ (v : Nat) (w : Vw), V[v]? = some w → ∃ rows, OkVw T V (v : Int) w rows ∧ 0 ≤ w.1 ∧ now[w.1.toNat]? = some rows
structure UnQ (Γ : FuncId → Option GF) : Prop extends UnN Γ where
 n121 : Γ 121 = none
 n94 : Γ 94 = none
 e148 : Γ 148 = some (pureG g148)
 e149 : Γ 149 = some (pureG g149)
section
variable {Γ : FuncId → Option GF} (u : UnQ Γ)
include u
theorem isOver_cl {T : List (List Int)} {V : List Vw} {free : Bool} {p q n : Nat} {wv mv : AV} {now : Tabs} {t : Int} {H : List Blk} (hp : H[p]? = some (.cells (dbC T V free q n wv mv))) (hq : H[q]? = some (.cells (tsC now))) (hn : now.length = n) (hok : OkNow T V now) (hV : V.length ≤ 100000) :
  ∃ H' l, Cl Γ Mo.T 121 [.ptr p 0, .int .i64 t] H (.bool (overB T V now t), H', l) ∧ Kept H H' := by
 have hvs0 : ∀ v ∈ viewsOf V t, ∃ i : Nat, v = (i : Int) ∧ i < V.length := by
  intro v hv
  obtain ⟨i, hi, rfl⟩ := List.mem_map.1 hv
  exact ⟨i, rfl, by have := (List.mem_filter.1 hi).1; simpa using this⟩
 have hvl : (viewsOf V t).length ≤ 100000 := by
  unfold viewsOf viewsL
  rw [List.length_map]
  exact Nat.le_trans (List.length_filter_le ..) (by simpa using hV)
 have hov0 : overB T V now t = (viewsOf V t).any (ovV T V now) := rfl
 have hvw := views_e u.e148 (T := T) (t := t) hV H
 generalize viewsOf V t = vs at hvs0 hvl hov0 hvw
 have key : ∃ r h' l, (r = .bool (overB T V now t) ∧ Kept H h') ∧ Cl Γ Mo.T 121 [.ptr p 0, .int .i64 t] H (r, h', l) := by
  refine clE (Γ := Γ) (tbl := Mo.T) (f := 121) (af := a121) (args := [.ptr p 0, .int .i64 t]) (h := H) u.n121 (by kernel_rfl) (by kernel_rfl) (fun r h' => r = .bool (overB T V now t) ∧ Kept H h') ?_
  have fin : ∀ {t2 : List AV} {G : List Blk} {lo} {b : Bool}, Lv 36 [(4, .bool b)] t2 → b = overB T V now t → Kept H G → ∃ vs, resAll ({ t := t2, h := G, lo := lo } : St) a121.res = some vs ∧ (packRes vs = .bool (overB T V now t) ∧ Kept H G) := by
   intro t2 G lo b hl he hk
   refine ⟨[.bool b], ?_, by rw [he]; rfl, hk⟩
   have := hl.get _ List.mem_cons_self
   simp only [getX_eq] at this
   show resAll _ [.t 4] = _
   simp only [resAll, resOf, this]
  refine Wp.seq ((pathE (nt := 36) (live := [(0, (.ptr p 0)), (1, (.int .i64 t))]) [] [0, 1] (e := .normal) (vals := [(.ptr p 0), (.int .i64 t)]) (h' := H) (Lv.start (by rfl) (by simp)) (fun _ => by kernel_rfl) trivial).mono ?_)
  rintro e s ⟨rfl, t1, lo1, rfl, hl1⟩
  refine Wp.seq ((pathE (nt := 36) [] [0, 1, 5] (e := .normal) (vals := [(.ptr p 0), (.int .i64 t), (.fn (.func 146) [] [])]) (h' := H) hl1 (fun _ => by kernel_rfl) trivial).mono ?_)
  rintro e s ⟨rfl, t2, lo2, rfl, hl2⟩
  refine Wp.seq (Wp.seq ((pathE (nt := 36) [.f (.load (some 2) (.c (.ptr p 0))) (.agg [(.ro (T.map tV) 1 false), (.ro (V.map vwV) 3 false)]), .r 148 [(.agg [(.ro (T.map tV) 1 false), (.ro (V.map vwV) 3 false)]), (.int .i64 t)] (.ro (vs.map iV) 1 false) H none] [17, 0, 5, 15, 16] (e := .normal) (vals := [(.int .i64 0), (.ptr p 0), (.fn (.func 146) [] []), (.ro (vs.map iV) 1 false), (.int .i64 ((List.length (vs.map iV)) : Int))]) (h' := H) hl2 (fun _ => by kernel_rfl) ⟨(ldV hp), hvw, trivial⟩).mono ?_))
  rintro e s ⟨rfl, t3, lo3, rfl, hl3⟩
  simp only [List.length_map] at hl3
  refine (rangeL (nt := 36) (i := 17) (n := 16) (c := 18) (d := 35) (X := List Blk) (N := vs.length) (fun _ _ => [(0, (.ptr p 0)), (5, (.fn (.func 146) [] [])), (15, (.ro (List.map iV vs) 1 false)), (16, (.int .i64 (List.length vs : Int)))]) (fun _ x => x) (fun k x => Kept H x ∧ (vs.take k).any (ovV T V now) = false)
   (fun s => ∃ t lo G, s = { t := t, h := G, lo := lo } ∧ Lv 36 [(4, .bool true)] t ∧ vs.any (ovV T V now) = true ∧ Kept H G)
   (by omega) (by decide) (by decide) (by decide) (by decide) (by decide) (fun _ _ => rfl) (fun _ _ => rfl) ?_ (x0 := H) ⟨Kept.refl H, rfl⟩ hl3).mono ?_
  ·rintro k G t4 lo4 hkN ⟨hkp, hno⟩ hlb
   have hv : (List.map iV vs)[(k : Int).toNat]? = some (.int .i64 vs[k]) := by simp [hkN]
   obtain ⟨i, hvi, hil⟩ := hvs0 _ (List.getElem_mem hkN)
   have htk : (vs.take (k + 1)).any (ovV T V now) = ((vs.take k).any (ovV T V now) || ovV T V now vs[k]) := by
    rw [List.take_succ_eq_append_getElem hkN, List.any_append]; simp
   have hmem : ovV T V now vs[k] = true → vs.any (ovV T V now) = true := fun h => List.any_eq_true.2 ⟨_, List.getElem_mem hkN, h⟩
   generalize vs[k] = v at hv hvi htk hmem
   obtain ⟨rows, ok, hw0, hrows⟩ := hok i _ (List.getElem?_eq_getElem hil)
   have hVi := List.getElem?_eq_getElem hil
   generalize V[i] = w at ok hw0 hrows hVi
   rw [← hvi] at ok
   have hovv : ovV T V now v = ovG1 (viewS T V v rows) := by
    unfold ovV
    rw [ok.hw]
    simp [List.getD_eq_getElem?_getD, hrows]
   obtain ⟨lg, hgr⟩ := groupsM_cl u.toUnN.toUnM (hkp.2 _ _ hp) (hkp.2 _ _ hq) hn ok hw0 hrows
   have hgsl := viewS_len ok
   have hgst := viewS_tot ok
   have hrl := ok.len
   generalize viewS T V v rows = gs at hovv hgr hgsl hgst
   refine Wp.block (Wp.seq ((pathE (nt := 36) [.p (1 = 1), .p ((0 : Int) ≤ (k : Int)), .p (((k : Int) : Int) < (List.length (vs.map iV) : Int)), .e (vs.map iV) (Int.toNat (k : Int)) (.int .i64 v)] [17, 0, 5, 15, 16, 7] (e := .normal) (vals := [(.int .i64 (k : Int)), (.ptr p 0), (.fn (.func 146) [] []), (.ro (vs.map iV) 1 false), (.int .i64 (List.length vs : Int)), (.int .i64 v)]) (h' := G) hlb (fun _ => by kernel_rfl) ⟨rfl, (by omega), (by simp; omega), hv, trivial⟩).mono ?_))
   rintro e s ⟨rfl, t5, lo5, rfl, hl4⟩
   refine Wp.seq ((pathE (nt := 36) [.r 25 [(.ptr p 0), (.int .i64 v)] (.ro (gs.map enGV) 4 false) G lg] [25, 17, 0, 5, 15, 16, 23, 24] (e := .normal) (vals := [(.int .i64 0), (.int .i64 (k : Int)), (.ptr p 0), (.fn (.func 146) [] []), (.ro (vs.map iV) 1 false), (.int .i64 (List.length vs : Int)), (.ro (gs.map enGV) 4 false), (.int .i64 ((List.length (gs.map enGV)) : Int))]) (h' := G) hl4 (fun _ => by kernel_rfl) ⟨hgr, trivial⟩).mono ?_)
   rintro e s ⟨rfl, t6, lo6, rfl, hl5⟩
   simp only [List.length_map] at hl5
   refine (rangeL (nt := 36) (i := 25) (n := 24) (c := 26) (d := 34) (X := List Blk) (N := gs.length) (fun _ _ => [(17, (.int .i64 (k : Int))), (0, (.ptr p 0)), (5, (.fn (.func 146) [] [])), (15, (.ro (List.map iV vs) 1 false)), (16, (.int .i64 (List.length vs : Int))), (23, (.ro (List.map enGV gs) 4 false)), (24, (.int .i64 (List.length gs : Int)))]) (fun _ x => x) (fun j x => Kept H x ∧ ovG1 (gs.take j) = false)
    (fun s => ∃ t lo G, s = { t := t, h := G, lo := lo } ∧ Lv 36 [(4, .bool true)] t ∧ ovG1 gs = true ∧ Kept H G)
    (by omega) (by decide) (by decide) (by decide) (by decide) (by decide) (fun _ _ => rfl) (fun _ _ => rfl) ?_ (x0 := G) ⟨hkp, rfl⟩ hl5).mono ?_
   ·rintro j K tj loj hjN ⟨hkK, hnj⟩ hli
    have hel : (List.map enGV gs)[(j : Int).toNat]? = some (.agg (enG gs[j])) := by simp [hjN]
    have htl := hgst _ (List.getElem_mem hjN)
    have htj : ovG1 (gs.take (j + 1)) = (ovG1 (gs.take j) || gs[j].2.s.any ovW) := by
     unfold ovG1
     rw [List.take_succ_eq_append_getElem hjN, List.any_append]; simp
    have hmj : gs[j].2.s.any ovW = true → ovG1 gs = true := fun h => List.any_eq_true.2 ⟨_, List.getElem_mem hjN, h⟩
    generalize gs[j] = e0 at hel htl htj hmj
    obtain ⟨ky, tt⟩ := e0
    simp only at htl htj hmj
    have htl : tt.s.length ≤ 1000000 := by omega
    cases hov : tt.s.any ovW with
    | true =>
     refine (pathE (nt := 36) [.p (4 = 4), .p ((0 : Int) ≤ (j : Int)), .p (((j : Int) : Int) < (List.length (gs.map enGV) : Int)), .e (gs.map enGV) (Int.toNat (j : Int)) (.agg [(.str ky), (.int .i64 (Prod.fst tt.c)), (.int .u64 (Prod.snd tt.c)), (.ro (tt.s.map wV) 2 false)]), .w (.alloc [(.str []), (.int .i64 0), (.int .u64 0), .nils]) (.ptr K.length 0) (ap K [(.str []), (.int .i64 0), (.int .u64 0), .nils]) none, .w (.store 4 (.c (.ptr K.length 0)) (.c (.agg [(.str ky), (.int .i64 (Prod.fst tt.c)), (.int .u64 (Prod.snd tt.c)), (.ro (tt.s.map wV) 2 false)]))) (.tup []) (ap K [(.str ky), (.int .i64 (Prod.fst tt.c)), (.int .u64 (Prod.snd tt.c)), (.ro (tt.s.map wV) 2 false)]) (some K.length), .f (.load none (.c (.ptr K.length 3))) (.ro (tt.s.map wV) 2 false), .r 149 [(.ro (tt.s.map wV) 2 false), (.fn (.func 146) [] [])] (.bool true) (ap K [(.str ky), (.int .i64 (Prod.fst tt.c)), (.int .u64 (Prod.snd tt.c)), (.ro (tt.s.map wV) 2 false)]) none] [4] (e := .ret) (vals := [(.bool true)]) (h' := (ap K [(.str ky), (.int .i64 (Prod.fst tt.c)), (.int .u64 (Prod.snd tt.c)), (.ro (tt.s.map wV) 2 false)])) hli (fun _ => by kernel_rfl) ⟨rfl, (by omega), (by simp; omega), hel, rfl, stZ, (ldV gl), (hov ▸ con_e u.e149 htl _), trivial⟩).mono ?_
     rintro e s' ⟨rfl, t7, lo7, rfl, hl7⟩
     exact .inr ⟨rfl, t7, lo7, _, rfl, hl7, hmj hov, hkK.ap⟩
    | false =>
     refine (pathE (nt := 36) [.p (4 = 4), .p ((0 : Int) ≤ (j : Int)), .p (((j : Int) : Int) < (List.length (gs.map enGV) : Int)), .e (gs.map enGV) (Int.toNat (j : Int)) (.agg [(.str ky), (.int .i64 (Prod.fst tt.c)), (.int .u64 (Prod.snd tt.c)), (.ro (tt.s.map wV) 2 false)]), .w (.alloc [(.str []), (.int .i64 0), (.int .u64 0), .nils]) (.ptr K.length 0) (ap K [(.str []), (.int .i64 0), (.int .u64 0), .nils]) none, .w (.store 4 (.c (.ptr K.length 0)) (.c (.agg [(.str ky), (.int .i64 (Prod.fst tt.c)), (.int .u64 (Prod.snd tt.c)), (.ro (tt.s.map wV) 2 false)]))) (.tup []) (ap K [(.str ky), (.int .i64 (Prod.fst tt.c)), (.int .u64 (Prod.snd tt.c)), (.ro (tt.s.map wV) 2 false)]) (some K.length), .f (.load none (.c (.ptr K.length 3))) (.ro (tt.s.map wV) 2 false), .r 149 [(.ro (tt.s.map wV) 2 false), (.fn (.func 146) [] [])] (.bool false) (ap K [(.str ky), (.int .i64 (Prod.fst tt.c)), (.int .u64 (Prod.snd tt.c)), (.ro (tt.s.map wV) 2 false)]) none] [25, 17, 0, 5, 15, 16, 23, 24] (e := .normal) (vals := [(.int .i64 (j : Int)), (.int .i64 (k : Int)), (.ptr p 0), (.fn (.func 146) [] []), (.ro (vs.map iV) 1 false), (.int .i64 (List.length vs : Int)), (.ro (gs.map enGV) 4 false), (.int .i64 (List.length gs : Int))]) (h' := (ap K [(.str ky), (.int .i64 (Prod.fst tt.c)), (.int .u64 (Prod.snd tt.c)), (.ro (tt.s.map wV) 2 false)])) hli (fun _ => by kernel_rfl) ⟨rfl, (by omega), (by simp; omega), hel, rfl, stZ, (ldV gl), (hov ▸ con_e u.e149 htl _), trivial⟩).mono ?_
     rintro e s' ⟨rfl, t7, lo7, rfl, hl7⟩
     exact .inl ⟨rfl, _, t7, lo7, rfl, ⟨hkK.ap, by rw [htj, hnj, hov]; rfl⟩, hl7⟩
   ·rintro e s (⟨rfl, K, t7, lo7, rfl, ⟨hkK, hnj⟩, hl7⟩ | ⟨rfl, t7, lo7, K, rfl, hl7, hy, hkK⟩)
    ·rw [List.take_of_length_le (Nat.le_refl _)] at hnj
     exact .inl ⟨rfl, K, t7, lo7, rfl, ⟨hkK, by rw [htk, hno, hovv, hnj]; rfl⟩, hl7.sub (by simp)⟩
    ·exact .inr ⟨rfl, t7, lo7, K, rfl, hl7, hmem (by rw [hovv, hy]), hkK⟩
  ·rintro e s (⟨rfl, G, t7, lo7, rfl, ⟨hkp, hno⟩, hle⟩ | ⟨rfl, t7, lo7, G, rfl, hl7, hy, hkp⟩)
   ·rw [List.take_of_length_le (Nat.le_refl _)] at hno
    have hle : Lv 36 [(0, .ptr p 0)] t7 := hle.sub (by simp)
    refine (pathE (nt := 36) [] [4] (e := .ret) (vals := [(.bool false)]) (h' := G) hle (fun _ => by kernel_rfl) trivial).mono ?_
    rintro e s ⟨rfl, t8, lo8, rfl, hl8⟩
    exact ⟨rfl, fin hl8 (by rw [hov0, hno]) hkp⟩
   ·exact ⟨rfl, fin hl7 (by rw [hov0, hy]) hkp⟩
 obtain ⟨r, h', l, ⟨rfl, h1⟩, h⟩ := key
 exact ⟨h', l, h, h1⟩
omit u
def errA (e : Int) : AV := .agg [.int .i64 e, .nils, .nils, .int .i64 0]
theorem tsC_set (now : Tabs) (i : Nat) (rows : List (List Val)) : (tsC now).set i (bV rows) = tsC (now.set i rows) := by simp [tsC, List.map_set]
theorem set_self {α : Type} {l : List α} {i : Nat} {a : α} (h : l[i]? = some a) : l.set i a = l := by
 obtain ⟨h1, h2⟩ := List.getElem?_eq_some_iff.1 h
 rw [← h2]
 exact List.set_getElem_self h1
def Onto (q : Nat) (H H' : List Blk) : Prop := H.length ≤ H'.length ∧ ∀ (i : Nat) (x : Blk), i ≠ q → H[i]? = some x → H'[i]? = some x
include u in
theorem changed_cl {T : List (List Int)} {V : List Vw} {free : Bool} {p q n : Nat} {wv mv : AV} {now : Tabs} {t : Int} {rows1 rows2 : List (List Val)} {H : List Blk} (hp : H[p]? = some (.cells (dbC T V free q n wv mv))) (hq : H[q]? = some (.cells (tsC now))) (hqp : q ≠ p) (hn : now.length = n) (ht0 : 0 ≤ t) (hrows : now[t.toNat]? = some rows1) (hok : OkNow T V (now.set t.toNat rows2)) (hV : V.length ≤ 100000) :
  ∃ e H' l, Cl Γ Mo.T 94 [.ptr p 0, .int .i64 t, bV rows2] H (errA e, H', l) ∧ e = (if !free && overB T V (now.set t.toNat rows2) t then 8 else 0) ∧ H'[q]? = some (.cells (tsC (if !free && overB T V (now.set t.toNat rows2) t then now else now.set t.toNat rows2))) ∧ Onto q H H' := by
 have htl := (List.getElem?_eq_some_iff.1 hrows).1
 have htn : t < ((n : Nat) : Int) := by omega
 have htt : ((t.toNat : Nat) : Int) = t := by omega
 have hql : q ≠ H.length := by have := glt hq; omega
 have hld : ∀ {G : List Blk}, G[q]? = some (.cells (tsC now)) → pOp evC G (.load none (.c (.ptr q (0 + Int.toNat t * 1)))) = some (bV rows1) := by
  intro G h
  have := ldX (k := t.toNat) h (show (tsC now)[t.toNat]? = some (bV rows1) by simp [hrows])
  rw [htt] at this
  exact this
 have hst : ∀ {G : List Blk} {now : Tabs} {rows : List (List Val)}, t.toNat < now.length → G[q]? = some (.cells (tsC now)) → wOp evC G (.store 1 (.c (.ptr q (0 + Int.toNat t * 1))) (.c (bV rows))) = some (.tup [], G.set q (.cells (tsC (now.set t.toNat rows))), some q) := by
  intro G now rows hlt h
  have hs : splice (tsC now) t.toNat [bV rows] = tsC (now.set t.toNat rows) := by
   rw [← tsC_set, splice, List.set_eq_take_append_cons_drop, if_pos (by simpa using hlt)]
   rfl
  have e0 := stC (n := 1) (off := 0 + Int.toNat t * 1) (v := bV rows) h rfl (Nat.ble_eq_true_of_le (by simp; omega)) rfl
  rw [e0]
  simp only [Nat.zero_add, Nat.mul_one]
  show some (_, G.set q (.cells (splice (tsC now) t.toNat [bV rows])), _) = _
  rw [hs]
 have hst1 : ∀ {G : List Blk}, G[q]? = some (.cells (tsC now)) → _ := fun {G} h => hst (rows := rows2) htl h
 have hback : (now.set t.toNat rows2).set t.toNat rows1 = now := by
  rw [List.set_set]
  exact set_self hrows
 have hst2 : ∀ {G : List Blk}, G[q]? = some (.cells (tsC (now.set t.toNat rows2))) → _ := fun {G} h => hst (rows := rows1) (by simpa using htl) h
 have g1 : (List.set (ap H [(.int .i64 0), .nils, .nils, (.int .i64 0)]) q (.cells (tsC (List.set now (Int.toNat t) rows2))))[p]? = some (.cells (dbC T V free q n wv mv)) := gne hqp (ga hp)
 have g2 : (List.set (ap H [(.int .i64 0), .nils, .nils, (.int .i64 0)]) q (.cells (tsC (List.set now (Int.toNat t) rows2))))[q]? = some (.cells (tsC (now.set t.toNat rows2))) := gset (ga hq)
 have onto1 : Onto q H (List.set (ap H [(.int .i64 0), .nils, .nils, (.int .i64 0)]) q (.cells (tsC (List.set now (Int.toNat t) rows2)))) := ⟨by simp, fun i x hi hx => gne (Ne.symm hi) (ga hx)⟩
 cases free with
 | true =>
  obtain ⟨l, h⟩ := (clV 1 (af := a94) (r := (.agg [(.int .i64 0), .nils, .nils, (.int .i64 0)])) (h' := (List.set (List.set (ap H [(.int .i64 0), .nils, .nils, (.int .i64 0)]) q (.cells (tsC (now.set (Int.toNat t) rows2)))) H.length (.cells [(.int .i64 0), .nils, .nils, (.int .i64 0)]))) [.w (.alloc [(.int .i64 0), .nils, .nils, (.int .i64 0)]) (.ptr H.length 0) (ap H [(.int .i64 0), .nils, .nils, (.int .i64 0)]) none, .f (.load none (.c (.ptr p 3))) (.sl q 1 0 n n true), .p (1 = 1), .p ((0 : Int) ≤ t), .p ((t : Int) < ((n : Nat) : Int)), .f (.load none (.c (.ptr q (0 + (Int.toNat t) * 1)))) (.ro (rows1.map rV) 1 false), .f (.load none (.c (.ptr p 3))) (.sl q 1 0 n n true), .p (1 = 1), .p ((0 : Int) ≤ t), .p ((t : Int) < ((n : Nat) : Int)), .w (.store 1 (.c (.ptr q (0 + (Int.toNat t) * 1))) (.c (.ro (rows2.map rV) 1 false))) (.tup []) (List.set (ap H [(.int .i64 0), .nils, .nils, (.int .i64 0)]) q (.cells (tsC (now.set (Int.toNat t) rows2)))) (some q), .f (.load none (.c (.ptr p 2))) (.bool true), .w (.store 4 (.c (.ptr H.length 0)) (.c (.agg [(.int .i64 0), .nils, .nils, (.int .i64 0)]))) (.tup []) (List.set (List.set (ap H [(.int .i64 0), .nils, .nils, (.int .i64 0)]) q (.cells (tsC (now.set (Int.toNat t) rows2)))) H.length (.cells [(.int .i64 0), .nils, .nils, (.int .i64 0)])) (some H.length), .l (.load (some 4) (.c (.ptr H.length 0))) (.agg [(.int .i64 0), .nils, .nils, (.int .i64 0)])] [(.agg [(.int .i64 0), .nils, .nils, (.int .i64 0)])] u.n94 ⟨rfl, (ldV (ga hp)), rfl, ht0, htn, (hld (ga hq)), (ldV (ga hp)), rfl, ht0, htn, (hst1 (ga hq)), (ldV (gne hqp (ga hp))), (stK (gne hql gl)), (ldV (gset (gne hql gl))), trivial⟩ : ∃ l, Cl Γ Mo.T 94 [.ptr p 0, .int .i64 t, bV rows2] H (errA 0, _, l))
  refine ⟨0, _, l, h, rfl, gne (Ne.symm hql) g2, ⟨by simp, fun i x hi hx => gne (by have := glt hx; omega) (onto1.2 i x hi hx)⟩⟩
 | false =>
  obtain ⟨K, lk, hK0, hK⟩ := isOver_cl u (t := t) g1 g2 (by simpa using hn) hok hV
  have hkl : H.length + 1 ≤ K.length := by have := hK.1; simp at this; omega
  cases hov : overB T V (now.set t.toNat rows2) t with
  | true =>
   rw [hov] at hK0
   obtain ⟨l, h⟩ := (clV 1 (af := a94) (r := (.agg [(.int .i64 8), .nils, .nils, (.int .i64 0)])) (h' := (List.set (K.set q (.cells (tsC (List.set (now.set (Int.toNat t) rows2) (Int.toNat t) rows1)))) H.length (.cells [(.int .i64 8), .nils, .nils, (.int .i64 0)]))) [.w (.alloc [(.int .i64 0), .nils, .nils, (.int .i64 0)]) (.ptr H.length 0) (ap H [(.int .i64 0), .nils, .nils, (.int .i64 0)]) none, .f (.load none (.c (.ptr p 3))) (.sl q 1 0 n n true), .p (1 = 1), .p ((0 : Int) ≤ t), .p ((t : Int) < ((n : Nat) : Int)), .f (.load none (.c (.ptr q (0 + (Int.toNat t) * 1)))) (.ro (rows1.map rV) 1 false), .f (.load none (.c (.ptr p 3))) (.sl q 1 0 n n true), .p (1 = 1), .p ((0 : Int) ≤ t), .p ((t : Int) < ((n : Nat) : Int)), .w (.store 1 (.c (.ptr q (0 + (Int.toNat t) * 1))) (.c (.ro (rows2.map rV) 1 false))) (.tup []) (List.set (ap H [(.int .i64 0), .nils, .nils, (.int .i64 0)]) q (.cells (tsC (now.set (Int.toNat t) rows2)))) (some q), .f (.load none (.c (.ptr p 2))) (.bool false), .r 121 [(.ptr p 0), (.int .i64 t)] (.bool true) K lk, .f (.load none (.c (.ptr p 3))) (.sl q 1 0 n n true), .p (1 = 1), .p ((0 : Int) ≤ t), .p ((t : Int) < ((n : Nat) : Int)), .w (.store 1 (.c (.ptr q (0 + (Int.toNat t) * 1))) (.c (.ro (rows1.map rV) 1 false))) (.tup []) (K.set q (.cells (tsC (List.set (now.set (Int.toNat t) rows2) (Int.toNat t) rows1)))) (some q), .w (.store 4 (.c (.ptr H.length 0)) (.c (.agg [(.int .i64 8), .nils, .nils, (.int .i64 0)]))) (.tup []) (List.set (K.set q (.cells (tsC (List.set (now.set (Int.toNat t) rows2) (Int.toNat t) rows1)))) H.length (.cells [(.int .i64 8), .nils, .nils, (.int .i64 0)])) (some H.length), .l (.load (some 4) (.c (.ptr H.length 0))) (.agg [(.int .i64 8), .nils, .nils, (.int .i64 0)])] [(.agg [(.int .i64 8), .nils, .nils, (.int .i64 0)])] u.n94 ⟨rfl, (ldV (ga hp)), rfl, ht0, htn, (hld (ga hq)), (ldV (ga hp)), rfl, ht0, htn, (hst1 (ga hq)), (ldV (gne hqp (ga hp))), hK0, (ldV (hK.2 _ _ (gne hqp (ga hp)))), rfl, ht0, htn, (hst2 (hK.2 _ _ (gset (ga hq)))), (stK (gne hql (hK.2 _ _ (gne hql gl)))), (ldV (gset (gne hql (hK.2 _ _ (gne hql gl))))), trivial⟩ : ∃ l, Cl Γ Mo.T 94 [.ptr p 0, .int .i64 t, bV rows2] H (errA 8, _, l))
   refine ⟨8, _, l, h, rfl, ?_, ⟨by simp; omega, fun i x hi hx => gne (by have := glt hx; omega) (gne (Ne.symm hi) (hK.2 _ _ (onto1.2 i x hi hx)))⟩⟩
   refine gne (Ne.symm hql) ((gset (b := .cells (tsC ((now.set t.toNat rows2).set t.toNat rows1))) (hK.2 _ _ g2)).trans ?_)
   rw [hback]
   rfl
  | false =>
   rw [hov] at hK0
   obtain ⟨l, h⟩ := (clV 1 (af := a94) (r := (.agg [(.int .i64 0), .nils, .nils, (.int .i64 0)])) (h' := (K.set H.length (.cells [(.int .i64 0), .nils, .nils, (.int .i64 0)]))) [.w (.alloc [(.int .i64 0), .nils, .nils, (.int .i64 0)]) (.ptr H.length 0) (ap H [(.int .i64 0), .nils, .nils, (.int .i64 0)]) none, .f (.load none (.c (.ptr p 3))) (.sl q 1 0 n n true), .p (1 = 1), .p ((0 : Int) ≤ t), .p ((t : Int) < ((n : Nat) : Int)), .f (.load none (.c (.ptr q (0 + (Int.toNat t) * 1)))) (.ro (rows1.map rV) 1 false), .f (.load none (.c (.ptr p 3))) (.sl q 1 0 n n true), .p (1 = 1), .p ((0 : Int) ≤ t), .p ((t : Int) < ((n : Nat) : Int)), .w (.store 1 (.c (.ptr q (0 + (Int.toNat t) * 1))) (.c (.ro (rows2.map rV) 1 false))) (.tup []) (List.set (ap H [(.int .i64 0), .nils, .nils, (.int .i64 0)]) q (.cells (tsC (now.set (Int.toNat t) rows2)))) (some q), .f (.load none (.c (.ptr p 2))) (.bool false), .r 121 [(.ptr p 0), (.int .i64 t)] (.bool false) K lk, .w (.store 4 (.c (.ptr H.length 0)) (.c (.agg [(.int .i64 0), .nils, .nils, (.int .i64 0)]))) (.tup []) (K.set H.length (.cells [(.int .i64 0), .nils, .nils, (.int .i64 0)])) (some H.length), .l (.load (some 4) (.c (.ptr H.length 0))) (.agg [(.int .i64 0), .nils, .nils, (.int .i64 0)])] [(.agg [(.int .i64 0), .nils, .nils, (.int .i64 0)])] u.n94 ⟨rfl, (ldV (ga hp)), rfl, ht0, htn, (hld (ga hq)), (ldV (ga hp)), rfl, ht0, htn, (hst1 (ga hq)), (ldV (gne hqp (ga hp))), hK0, (stK (hK.2 _ _ (gne hql gl))), (ldV (gset (hK.2 _ _ (gne hql gl)))), trivial⟩ : ∃ l, Cl Γ Mo.T 94 [.ptr p 0, .int .i64 t, bV rows2] H (errA 0, _, l))
   exact ⟨0, _, l, h, rfl, gne (Ne.symm hql) (hK.2 _ _ g2), ⟨by simp; omega, fun i x hi hx => gne (by have := glt hx; omega) (hK.2 _ _ (onto1.2 i x hi hx))⟩⟩
end
open Go
theorem cloneM64_cl {row : List Val} (hne : row ≠ []) (hl : row.length * 32 ≤ 140737488355328) (H : List Blk) : ∃ lo, Cl G8 Mo.T 64 [.ro (row.map vV) 3 false] H (bSl 3 (lsV row) (H.length + 1) false, ap (ap H []) (lsV row).flatten, lo) := by
 have hne2 : List.map vV row ≠ [] := fun h => hne (List.map_eq_nil_iff.1 h)
 have e : (ap H []).length = H.length + 1 := by simp
 rw [← e]
 exact clV 1 (af := a64) (r := (bSl 3 (lsV row) (List.length (ap H [])) false)) (h' := (ap (ap H []) (List.flatten (lsV row)))) [.q (.isNil 1 false (.c (.ro (row.map vV) 3 false))) false, .w (.buildSl [(.int .i64 0), (.int .i64 0), (.str [])] 0 []) (.sl H.length 3 0 0 0 true) (ap H []) none, .w (.append 3 32 (.c (.sl H.length 3 0 0 0 true)) (.c (.ro (row.map vV) 3 false))) (bSl 3 (lsV row) (List.length (ap H [])) false) (ap (ap H []) (List.flatten (lsV row))) none] [] (by kernel_rfl) ⟨(nn_ro hne2), rfl, (apRo hne2 (by simp) (flat_vs row) (by simpa using hl) (fun e he => (lsV_ok e he).2)), trivial⟩
open Classical in
noncomputable def g64m : GF := fun args h => if hx : ∃ row : List Val, row.length * 32 ≤ 140737488355328 ∧ args = [.ro (row.map vV) 3 false] then (if hx.choose = [] then some (.ro [] 3 true, h, none) else some (bSl 3 (lsV hx.choose) (h.length + 1) false, ap (ap h []) (lsV hx.choose).flatten, none)) else none
theorem cloneM64_ok : GOk Tryz.prog 64 g64m := by
 intro args h r h' lo hc
 have hB : Body Tryz.prog 64 := ⟨_, Tryz.func64, by kernel_rfl, by kernel_rfl⟩
 unfold g64m at hc
 split at hc
 ·rename_i hx
  obtain ⟨h1, h2⟩ := hx.choose_spec
  generalize hx.choose = y at hc h1 h2
  subst h2
  split at hc <;> cases hc
  ·rename_i h0
   subst h0
   exact ⟨Pre.refl _ _, .inl ⟨hB, clone64_nil.ams rfl rfl h⟩⟩
  ·rename_i h0
   obtain ⟨lo, hcl⟩ := cloneM64_cl h0 h1 h
   refine ⟨?_, .inl ⟨hB, Cl.ams K8 hcl (by kernel_rfl)⟩⟩
   have := Pre.append h [.cells [], .cells (lsV y).flatten] none
   simpa using this
 ·cases hc
theorem cloneM64_e {Γ : FuncId → Option GF} (hg : Γ 64 = some g64m) {row : List Val} (hne : row ≠ []) (hl : row.length * 32 ≤ 140737488355328) (H : List Blk) : Cl Γ Mo.T 64 [.ro (row.map vV) 3 false] H (bSl 3 (lsV row) (H.length + 1) false, ap (ap H []) (lsV row).flatten, none) := by
 refine Cl.known hg ?_
 have hx : ∃ y : List Val, y.length * 32 ≤ 140737488355328 ∧ [AV.ro (row.map vV) 3 false] = [.ro (y.map vV) 3 false] := ⟨row, hl, rfl⟩
 have he : hx.choose = row := by
  have := (List.cons.inj hx.choose_spec.2).1
  simp only [AV.ro.injEq] at this
  exact (map_inj vV_inj this.1).symm
 unfold g64m
 rw [dif_pos hx, he, if_neg hne]
theorem cloneM90_cl {x : List (List Val)} (hne : x ≠ []) (hl : x.length * 24 ≤ 140737488355328) (H : List Blk) : ∃ lo, Cl G8 Mo.T 90 [.ro (x.map rV) 1 false] H (bSl 1 (lsR x) (H.length + 1) false, ap (ap H []) (lsR x).flatten, lo) := by
 have hne2 : List.map rV x ≠ [] := fun h => hne (List.map_eq_nil_iff.1 h)
 have e : (ap H []).length = H.length + 1 := by simp
 rw [← e]
 exact clV 1 (af := a90) (r := (bSl 1 (lsR x) (List.length (ap H [])) false)) (h' := (ap (ap H []) (List.flatten (lsR x)))) [.q (.isNil 1 false (.c (.ro (x.map rV) 1 false))) false, .w (.buildSl [.nils] 0 []) (.sl H.length 1 0 0 0 true) (ap H []) none, .w (.append 1 24 (.c (.sl H.length 1 0 0 0 true)) (.c (.ro (x.map rV) 1 false))) (bSl 1 (lsR x) (List.length (ap H [])) false) (ap (ap H []) (List.flatten (lsR x))) none] [] (by kernel_rfl) ⟨(nn_ro hne2), rfl, (apRo hne2 (by simp) (flat_rs x) (by simpa using hl) (fun e he => (lsR_ok e he).2)), trivial⟩
open Classical in
noncomputable def g90m : GF := fun args h => if hx : ∃ x : List (List Val), x.length * 24 ≤ 140737488355328 ∧ args = [.ro (x.map rV) 1 false] then (if hx.choose = [] then some (.ro [] 1 true, h, none) else some (bSl 1 (lsR hx.choose) (h.length + 1) false, ap (ap h []) (lsR hx.choose).flatten, none)) else none
theorem cloneM90_ok : GOk Tryz.prog 90 g90m := by
 intro args h r h' lo hc
 have hB : Body Tryz.prog 90 := ⟨_, Tryz.func90, by kernel_rfl, by kernel_rfl⟩
 unfold g90m at hc
 split at hc
 ·rename_i hx
  obtain ⟨h1, h2⟩ := hx.choose_spec
  generalize hx.choose = y at hc h1 h2
  subst h2
  split at hc <;> cases hc
  ·rename_i h0
   subst h0
   exact ⟨Pre.refl _ _, .inl ⟨hB, clone90_nil.ams rfl rfl h⟩⟩
  ·rename_i h0
   obtain ⟨lo, hcl⟩ := cloneM90_cl h0 h1 h
   refine ⟨?_, .inl ⟨hB, Cl.ams K8 hcl (by kernel_rfl)⟩⟩
   have := Pre.append h [.cells [], .cells (lsR y).flatten] none
   simpa using this
 ·cases hc
theorem cloneM90_e {Γ : FuncId → Option GF} (hg : Γ 90 = some g90m) {x : List (List Val)} (hne : x ≠ []) (hl : x.length * 24 ≤ 140737488355328) (H : List Blk) : Cl Γ Mo.T 90 [.ro (x.map rV) 1 false] H (bSl 1 (lsR x) (H.length + 1) false, ap (ap H []) (lsR x).flatten, none) := by
 refine Cl.known hg ?_
 have hx : ∃ y : List (List Val), y.length * 24 ≤ 140737488355328 ∧ [AV.ro (x.map rV) 1 false] = [.ro (y.map rV) 1 false] := ⟨x, hl, rfl⟩
 have he : hx.choose = x := by
  have := (List.cons.inj hx.choose_spec.2).1
  simp only [AV.ro.injEq] at this
  exact (map_inj rV_inj this.1).symm
 unfold g90m
 rw [dif_pos hx, he, if_neg hne]
theorem cloneM90_0 {Γ : FuncId → Option GF} (hg : Γ 90 = some g90m) (H : List Blk) : Cl Γ Mo.T 90 [.ro [] 1 false] H (.ro [] 1 true, H, none) := by
 refine Cl.known hg ?_
 have hx : ∃ y : List (List Val), y.length * 24 ≤ 140737488355328 ∧ [AV.ro [] 1 false] = [.ro (y.map rV) 1 false] := ⟨[], by decide, rfl⟩
 have he : hx.choose = [] := by
  have := (List.cons.inj hx.choose_spec.2).1
  simp only [AV.ro.injEq] at this
  exact List.map_eq_nil_iff.1 this.1.symm
 unfold g90m
 rw [dif_pos hx, he, if_pos rfl]
theorem ap_e {G : List Blk} {vb : Nat} {x : AV} (hv : G[vb]? = some (.cells [x])) (h1 : x.one = true) : wOp evC G (.append 1 24 (.c (.ro [] 1 true)) (.c (.sl vb 1 0 1 1 true))) = some (.sl G.length 1 0 1 1 false, G ++ [.cells [x]], none) := by
 have hx : elems G 1 (.sl vb 1 0 1 1 true) = some [x] := sl_el hv (by simp)
 simp only [wOp, evC, lenOf, hx, Nat.one_ne_zero, if_false]
 rw [if_pos (by simp [h1])]
 rfl
theorem ins0_ams {row : List Val} {vb : Nat} {H : List Blk} (hv : H[vb]? = some (.cells [rV row])) : AMS Tryz.prog 95 [.ro [] 1 true, .int .i64 0, .sl vb 1 0 1 1 true] H (bV [row]) (H ++ [.gone]) := by
 have h1 : (rV row).one = true := rfl
 obtain ⟨x, hx⟩ : ∃ x, rV row = x := ⟨_, rfl⟩
 rw [hx] at hv h1
 obtain ⟨G, hG⟩ : ∃ G, H = G := ⟨_, rfl⟩
 rw [hG] at hv
 obtain ⟨lo, hc⟩ := (clV 1 (af := a95) (r := (.sl G.length 1 0 1 1 false)) (h' := (G ++ [(.cells [x])])) [.f (.slc 1 (.c (.ro [] 1 true)) (some (.c (.int .i64 0))) none none) (.ro [] 1 true), .g (.len 1 (.c (.sl vb 1 0 1 1 true))) (.int .i64 1), .b ((1 : Int) == 0) false, .g (.len 1 (.c (.ro [] 1 true))) (.int .i64 0), .b ((0 : Int) == 0) true, .w (.append 1 24 (.c (.ro [] 1 true)) (.c (.sl vb 1 0 1 1 true))) (.sl G.length 1 0 1 1 false) (G ++ [(.cells [x])]) none] [] (by kernel_rfl) ⟨rfl, rfl, rfl, rfl, rfl, (ap_e hv h1), trivial⟩ : ∃ lo, Cl GK Mo.T 95 [.ro [] 1 true, .int .i64 0, .sl vb 1 0 1 1 true] G (_, _, lo))
 have ha := Cl.ams KK hc (by kernel_rfl)
 rw [← hG] at ha
 have := ins_fin (H := H) (b := H.length) (xs := [row]) (zs := [x]) ha gl (by rw [← hx]; rfl) rfl (by omega) (by simp) (fun j bl hj h => ga h) (.inl rfl)
 rw [List.set_eq_of_length_le (Nat.le_refl _)] at this
 exact this
def II (args : List AV) (h : List Blk) (r : AV) (h' : List Blk) : Prop :=
 (∃ (rows : List (List Val)) (row : List Val) (i b vb : Nat), args = [.sl b 1 0 rows.length rows.length false, .int .i64 (i : Int), .sl vb 1 0 1 1 true] ∧ h[b]? = some (.cells (rows.map rV)) ∧ h[vb]? = some (.cells [rV row]) ∧ r = bV (insL rows i row) ∧ h' = h.set b .gone ++ [.gone]) ∨
 (∃ (row : List Val) (vb : Nat), args = [.ro [] 1 true, .int .i64 0, .sl vb 1 0 1 1 true] ∧ h[vb]? = some (.cells [rV row]) ∧ r = bV [row] ∧ h' = h ++ [.gone])
theorem row1_inj {a b : List Val} (h : (some (Blk.cells [rV a])) = some (.cells [rV b])) : a = b := by
 simp only [Option.some.injEq, Blk.cells.injEq, List.cons.injEq, and_true] at h
 exact rV_inj _ _ h
theorem ins_e {Γ : FuncId → Option GF} (hg : Γ 95 = some (anyG Tryz.prog 95 II)) {rows : List (List Val)} {row : List Val} {i b vb : Nat} {H : List Blk} (hb : H[b]? = some (.cells (rows.map rV))) (hv : H[vb]? = some (.cells [rV row])) (hne : vb ≠ b) (hn0 : 0 < rows.length) (hcl : rows.length ≤ 1000000) (hi : i ≤ rows.length) :
  ∃ lo, Cl Γ Mo.T 95 [.sl b 1 0 rows.length rows.length false, .int .i64 (i : Int), .sl vb 1 0 1 1 true] H (bV (insL rows i row), H.set b .gone ++ [.gone], lo) := by
 obtain ⟨r, h', lo, hI, hc⟩ := anyG_cl (Γ := Γ) (tbl := Mo.T) hg (.inl ⟨rows, row, i, b, vb, rfl, hb, hv, rfl, rfl⟩) (ins_ams hb hv hne hn0 hcl hi) (by simp)
 rcases hI with ⟨rows', row', i', b', vb', h1, h2, h3, rfl, rfl⟩ | ⟨row', vb', h1, _⟩
 ·simp only [List.cons.injEq, AV.sl.injEq, AV.int.injEq, true_and, and_true] at h1
  obtain ⟨⟨rfl, _⟩, h4, rfl⟩ := h1
  have h4 : i = i' := by omega
  subst h4
  rw [hb] at h2
  rw [hv] at h3
  have := row1_inj h3
  subst this
  simp only [Option.some.injEq, Blk.cells.injEq] at h2
  have := map_inj rV_inj h2
  subst this
  exact ⟨lo, hc⟩
 ·simp only [List.cons.injEq] at h1
  exact absurd h1.1 (by intro h; cases h)
theorem ins_e0 {Γ : FuncId → Option GF} (hg : Γ 95 = some (anyG Tryz.prog 95 II)) {row : List Val} {vb : Nat} {H : List Blk} (hv : H[vb]? = some (.cells [rV row])) :
  ∃ lo, Cl Γ Mo.T 95 [.ro [] 1 true, .int .i64 0, .sl vb 1 0 1 1 true] H (bV [row], H ++ [.gone], lo) := by
 obtain ⟨r, h', lo, hI, hc⟩ := anyG_cl (Γ := Γ) (tbl := Mo.T) hg (.inr ⟨row, vb, rfl, hv, rfl, rfl⟩) (ins0_ams hv) (by simp)
 rcases hI with ⟨rows', row', i', b', vb', h1, _⟩ | ⟨row', vb', h1, h2, rfl, rfl⟩
 ·simp only [List.cons.injEq] at h1
  exact absurd h1.1 (by intro h; cases h)
 ·simp only [List.cons.injEq, AV.sl.injEq, true_and, and_true] at h1
  subst h1
  rw [hv] at h2
  have := row1_inj h2
  subst this
  exact ⟨lo, hc⟩
structure UnFd (Γ : FuncId → Option GF) : Prop where
 n93 : Γ 93 = none
 e118 : Γ 118 = some (pureG g118)
structure UnS (Γ : FuncId → Option GF) : Prop extends UnQ Γ, UnFd Γ
section
variable {Γ : FuncId → Option GF} (u : UnFd Γ)
include u
omit u in
theorem ld_now {G : List Blk} {q : Nat} {now : Tabs} {t : Int} {rows : List (List Val)} (ht0 : 0 ≤ t) (hrows : now[t.toNat]? = some rows) (h : G[q]? = some (.cells (tsC now))) : pOp evC G (.load none (.c (.ptr q (0 + Int.toNat t * 1)))) = some (bV rows) := by
 have := ldX (k := t.toNat) h (show (tsC now)[t.toNat]? = some (bV rows) by simp [hrows])
 rw [show ((t.toNat : Nat) : Int) = t by omega] at this
 exact this
theorem find_cl {T : List (List Int)} {V : List Vw} {free : Bool} {p q n : Nat} {wv mv : AV} {now : Tabs} {t : Int} {rows : List (List Val)} {key : Val} {H : List Blk} (hp : H[p]? = some (.cells (dbC T V free q n wv mv))) (hq : H[q]? = some (.cells (tsC now))) (hn : now.length = n) (ht0 : 0 ≤ t) (hrows : now[t.toNat]? = some rows) (hok : okBs (rows, key)) :
  ∃ l, Cl Γ Mo.T 93 [.ptr p 0, .int .i64 t, vV key] H (.tup [.int .i64 ((bsK rows key).1 : Int), .bool (bsK rows key).2], ap H [(.int .i64 key.k), (.int .i64 key.n), (.str key.s)], l) := by
 have htl := (List.getElem?_eq_some_iff.1 hrows).1
 have htn : t < ((n : Nat) : Int) := by omega
 have hld : ∀ {G : List Blk}, G[q]? = some (.cells (tsC now)) → _ := fun {G} h => ld_now ht0 hrows h
 have hbs := bs_e u.e118 hok (ap H [(.int .i64 key.k), (.int .i64 key.n), (.str key.s)])
 generalize (bsK rows key).1 = ix at hbs
 generalize (bsK rows key).2 = bx at hbs
 exact clV 1 (af := a93) (r := (.tup [(.int .i64 (ix : Int)), (.bool bx)])) (h' := (ap H (enV key))) [.w (.box (.c (.agg (enV key)))) (.ptr H.length 0) (ap H (enV key)) none, .f (.load none (.c (.ptr p 3))) (.sl q 1 0 n n true), .p (1 = 1), .p ((0 : Int) ≤ t), .p ((t : Int) < ((n : Nat) : Int)), .f (.load none (.c (.ptr q (0 + (Int.toNat t) * 1)))) (.ro (rows.map rV) 1 false), .f (.load (some 3) (.c (.ptr H.length 0))) (.agg (enV key)), .r 118 [(.ro (rows.map rV) 1 false), (.agg (enV key)), (.fn (.func 119) [] [])] (.tup [(.int .i64 (ix : Int)), (.bool bx)]) (ap H (enV key)) none] [] u.n93 ⟨rfl, (ldV (ga hp)), rfl, ht0, htn, (hld (ga hq)), (ldV gl), hbs, trivial⟩
end
end Go.Proofs.YtenpjpldjmoefaaGreat.AM.Mo

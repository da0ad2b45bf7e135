/- A part of the proof of PolyReadsSaid: texts SxCmp3. -/
import Derived.Test.YtlnpmgmpakjhgaaGreatSxBM
set_option linter.all false
set_option maxRecDepth 100000
namespace Sx
open Go

theorem ltCmp_c (s t : LTm) : PureF Pg F.linear_Compare_1 (fun _ => [.agg s.L, .agg t.L]) (fun _ => .one (.int .i64 (cmpLT s t))) := by
  obtain ⟨a, b⟩ := s
  obtain ⟨c, d⟩ := t
  refine walkF mixed tau_ok At.linear_Compare_1 (fun CN DN q R hCN hDN hq hR => ?_)
  have fin : ∀ x : Int, x = or2 (cmpZ a c) (cmpZ b d) → R (.one (.int .i64 x)) := fun x hx => hR _ (by rw [hx]; exact .refl)
  clear hR
  (conv => cbv)
  refine Need.mk (by (exact ⟨by kernel_rfl, by kernel_rfl⟩)) ?_
  refine call_fd hq hDN (cmpZ_c a c) rfl ?_
  obtain ⟨c1, hc1⟩ : ∃ c1, c1 = cmpZ a c := ⟨_, rfl⟩
  rw [← hc1]
  (conv => cbv)
  refine call_fd hq hDN (cmpZ64_c b d) rfl ?_
  obtain ⟨c2, hc2⟩ : ∃ c2, c2 = cmpZ b d := ⟨_, rfl⟩
  rw [← hc2]
  (conv => cbv)
  refine call_fld hq hDN (or2_c c1 c2) rfl rfl ?_
  obtain ⟨e, he⟩ : ∃ e, e = or2 c1 c2 := ⟨_, rfl⟩
  rw [← he]
  (conv => cbv)
  exact fin _ (by rw [he, hc1, hc2])
theorem lnCmp_main (a b : Int) (n m : Nat) (hn : n ≤ lenB) (A0 A1 B0 B1 : Int → T) (C : Int → Int)
    (h : ∀ i : Nat, i < n → PureF Pg F.linear_Compare_1 (fun _ => [.agg [A0 i, A1 i], .agg [B0 i, B1 i]]) (fun _ => .one (.int .i64 (C i)))) :
    PureF Pg F.linear_Compare (fun q => [.agg [.int .i64 a, .sl 2 (q Int fun _ => (n : Int)) (fun i => [A0 i, A1 i])], .agg [.int .i64 b, .sl 2 (q Int fun _ => (m : Int)) (fun i => [B0 i, B1 i])]]) (fun _ => .one (.int .i64 (or2 (cmpZ n m) (or2 (lexI n C) (cmpZ a b))))) := by
  refine walkF mixed tau_ok At.linear_Compare (fun CN DN q R hCN hDN hq hR => ?_)
  have fin : ∀ x : Int, x = or2 (cmpZ n m) (or2 (lexI n C) (cmpZ a b)) → R (.one (.int .i64 x)) := fun x hx => hR _ (by rw [hx]; exact .refl)
  clear hR
  obtain ⟨nI, hnI⟩ : ∃ nI, nI = q Int fun _ => (n : Int) := ⟨_, rfl⟩
  obtain ⟨mI, hmI⟩ : ∃ mI, mI = q Int fun _ => (m : Int) := ⟨_, rfl⟩
  rw [← hnI, ← hmI]
  have hnI' : nI = n := by rw [hnI]; subst hq; rfl
  have hmI' : mI = m := by rw [hmI]; subst hq; rfl
  (conv => cbv)
  refine call_fn hq hCN (cmpZ_c nI mI) rfl ?_
  obtain ⟨c1, hc1⟩ : ∃ c1, c1 = cmpZ nI mI := ⟨_, rfl⟩
  rw [← hc1]
  rw [hnI', hmI'] at hc1
  rw [← hc1] at fin
  (conv => cbv)
  split
  · rename_i g0
    rw [hq] at g0
    ((try simp (disch := omega) only [q0, nc, w64_id, wu64_id, wu32_id, wu8_id, Int.tdiv_eq_ediv_of_nonneg, Int.tmod_eq_emod_of_nonneg, Int.ofNat_eq_natCast, Int.natAbs_natCast, decide_eq_true_eq, decide_eq_false_iff_not, Bool.not_eq_true', Bool.not_eq_false', bne_iff_ne, bne_eq_false_iff_eq, beq_iff_eq, beq_eq_false_iff_ne, ne_eq] at g0); (try replace g0 := of_decide_eq_true g0); (try replace g0 := of_decide_eq_false g0))
    exact fin _ (or2_ne g0 _).symm
  · rename_i g0
    rw [hq] at g0
    ((try simp (disch := omega) only [q0, nc, w64_id, wu64_id, wu32_id, wu8_id, Int.tdiv_eq_ediv_of_nonneg, Int.tmod_eq_emod_of_nonneg, Int.ofNat_eq_natCast, Int.natAbs_natCast, decide_eq_true_eq, decide_eq_false_iff_not, Bool.not_eq_true', Bool.not_eq_false', bne_iff_ne, bne_eq_false_iff_eq, beq_iff_eq, beq_eq_false_iff_ne, ne_eq] at g0); (try replace g0 := of_decide_eq_true g0); (try replace g0 := of_decide_eq_false g0))
    rw [g0] at hc1
    have hnm : m = n := by
      unfold cmpZ at hc1
      split at hc1
      · omega
      · split at hc1 <;> omega
    subst hnm
    rw [g0, or2_zero] at fin
    refine cf_lt hq hCN m hn F.linear_Compare_1 A0 A1 B0 B1 C hnI' hmI' h ?_
    obtain ⟨c2, hc2⟩ : ∃ c2, c2 = lexI m C := ⟨_, rfl⟩
    rw [← hc2] at fin ⊢
    (conv => cbv)
    refine call_fn hq hCN (cmpZ64_c a b) rfl ?_
    obtain ⟨c3, hc3⟩ : ∃ c3, c3 = cmpZ a b := ⟨_, rfl⟩
    rw [← hc3] at fin ⊢
    (conv => cbv)
    refine call_fl hq hCN (or2_c c2 c3) rfl rfl ?_
    obtain ⟨e, he⟩ : ∃ e, e = or2 c2 c3 := ⟨_, rfl⟩
    rw [← he]
    (conv => cbv)
    exact fin _ he
theorem lnCmp_c (l m : Ln) (hl : l.Ok) : PureF Pg F.linear_Compare (fun _ => [.agg l.L, .agg m.L]) (fun _ => .one (.int .i64 (cmpLn l m))) :=
  lnCmp_main l.const m.const l.n m.n hl (fun i => .int .i64 (l.tm i).var) (fun i => .int .i64 (l.tm i).coef) (fun i => .int .i64 (m.tm i).var) (fun i => .int .i64 (m.tm i).coef) (fun i => cmpLT (l.tm i) (m.tm i)) (fun i _ => ltCmp_c (l.tm i) (m.tm i))
theorem fcCmp_c (f g : Fct) (hf : f.ix.Ok) (hg : g.ix.Ok) : PureF Pg F.poly_Compare_1 (fun _ => [.agg f.L, .agg g.L]) (fun _ => .one (.int .i64 (cmpFct f g))) := by
  have hix := ixCmp_c f.ix hf g.ix hg
  obtain ⟨v, x⟩ := f
  obtain ⟨w, y⟩ := g
  refine walkF mixed tau_ok At.poly_Compare_1 (fun CN DN q R hCN hDN hq hR => ?_)
  have fin : ∀ z : Int, z = or2 (cmpZ v w) (cmpIx x y) → R (.one (.int .i64 z)) := fun z hz => hR _ (by rw [hz]; exact .refl)
  clear hR
  have ex : Fct.L ⟨v, x⟩ = [.int .i64 v, .int .i64 x.num, x.T] := rfl
  have ey : Fct.L ⟨w, y⟩ = [.int .i64 w, .int .i64 y.num, y.T] := rfl
  have ex2 : Ix.L x = [.int .i64 x.num, x.T] := rfl
  have ey2 : Ix.L y = [.int .i64 y.num, y.T] := rfl
  simp only [ex2, ey2] at hix
  rw [ex, ey]
  generalize x.num = xn at *
  generalize y.num = yn at *
  generalize x.T = xT at *
  generalize y.T = yT at *
  generalize cmpIx x y = ci at *
  (conv => cbv)
  refine Need.mk (by (exact ⟨by kernel_rfl, by kernel_rfl⟩)) ?_
  refine call_fd hq hDN (cmpZ_c v w) rfl ?_
  obtain ⟨c1, hc1⟩ : ∃ c1, c1 = cmpZ v w := ⟨_, rfl⟩
  rw [← hc1]
  (conv => cbv)
  refine call_fd hq hDN hix rfl ?_
  (conv => cbv)
  refine call_fld hq hDN (or2_c c1 ci) rfl rfl ?_
  obtain ⟨e, he⟩ : ∃ e, e = or2 c1 ci := ⟨_, rfl⟩
  rw [← he]
  (conv => cbv)
  exact fin _ (by rw [he, hc1])
theorem amCmp_c (f g : Atm) (hf : f.lin.Ok) : PureF Pg F.poly_Compare_2 (fun _ => [.agg f.L, .agg g.L]) (fun _ => .one (.int .i64 (cmpAtm f g))) := by
  have hix := lnCmp_c f.lin g.lin hf
  obtain ⟨l, v⟩ := f
  obtain ⟨m, w⟩ := g
  refine walkF mixed tau_ok At.poly_Compare_2 (fun CN DN q R hCN hDN hq hR => ?_)
  have fin : ∀ z : Int, z = or2 (cmpLn l m) (cmpZ v w) → R (.one (.int .i64 z)) := fun z hz => hR _ (by rw [hz]; exact .refl)
  clear hR
  have ex : Atm.L ⟨l, v⟩ = [.int .i64 l.const, .sl 2 l.n (fun i => (l.tm i).L), .int .i64 v] := rfl
  have ey : Atm.L ⟨m, w⟩ = [.int .i64 m.const, .sl 2 m.n (fun i => (m.tm i).L), .int .i64 w] := rfl
  have ex2 : Ln.L l = [.int .i64 l.const, .sl 2 l.n (fun i => (l.tm i).L)] := rfl
  have ey2 : Ln.L m = [.int .i64 m.const, .sl 2 m.n (fun i => (m.tm i).L)] := rfl
  simp only [ex2, ey2] at hix
  rw [ex, ey]
  generalize l.const = xn at *
  generalize m.const = yn at *
  generalize T.sl 2 l.n (fun i => (l.tm i).L) = xT at *
  generalize T.sl 2 m.n (fun i => (m.tm i).L) = yT at *
  generalize cmpLn l m = ci at *
  (conv => cbv)
  refine Need.mk (by (exact ⟨by kernel_rfl, by kernel_rfl⟩)) ?_
  refine call_fd hq hDN hix rfl ?_
  (conv => cbv)
  refine call_fd hq hDN (cmpZ_c v w) rfl ?_
  obtain ⟨c1, hc1⟩ : ∃ c1, c1 = cmpZ v w := ⟨_, rfl⟩
  rw [← hc1]
  (conv => cbv)
  refine call_fld hq hDN (or2_c ci c1) rfl rfl ?_
  obtain ⟨e, he⟩ : ∃ e, e = or2 ci c1 := ⟨_, rfl⟩
  rw [← he]
  (conv => cbv)
  exact fin _ (by rw [he, hc1])
theorem monCmp_main (n m n' m' : Nat) (hn : n ≤ lenB) (hm : m ≤ lenB) (A0 A1 A2 B0 B1 B2 A3 A4 A5 B3 B4 B5 : Int → T) (C D : Int → Int)
    (h : ∀ i : Nat, i < n → n = n' → PureF Pg F.poly_Compare_1 (fun _ => [.agg [A0 i, A1 i, A2 i], .agg [B0 i, B1 i, B2 i]]) (fun _ => .one (.int .i64 (C i))))
    (h' : ∀ i : Nat, i < m → PureF Pg F.poly_Compare_2 (fun _ => [.agg [A3 i, A4 i, A5 i], .agg [B3 i, B4 i, B5 i]]) (fun _ => .one (.int .i64 (D i)))) :
    PureF Pg F.poly_Compare (fun q => [.agg [.sl 3 (q Int fun _ => (n : Int)) (fun i => [A0 i, A1 i, A2 i]), .sl 3 (q Int fun _ => (m : Int)) (fun i => [A3 i, A4 i, A5 i])], .agg [.sl 3 (q Int fun _ => (n' : Int)) (fun i => [B0 i, B1 i, B2 i]), .sl 3 (q Int fun _ => (m' : Int)) (fun i => [B3 i, B4 i, B5 i])]]) (fun _ => .one (.int .i64 (or2 (cmpZ n n') (or2 (or2 (lexI n C) (cmpZ m m')) (lexI m D))))) := by
  refine walkF mixed tau_ok At.poly_Compare (fun CN DN q R hCN hDN hq hR => ?_)
  have fin : ∀ x : Int, x = or2 (cmpZ n n') (or2 (or2 (lexI n C) (cmpZ m m')) (lexI m D)) → R (.one (.int .i64 x)) := fun x hx => hR _ (by rw [hx]; exact .refl)
  clear hR
  obtain ⟨nI, hnI⟩ : ∃ nI, nI = q Int fun _ => (n : Int) := ⟨_, rfl⟩
  obtain ⟨mI, hmI⟩ : ∃ mI, mI = q Int fun _ => (m : Int) := ⟨_, rfl⟩
  obtain ⟨nJ, hnJ⟩ : ∃ nJ, nJ = q Int fun _ => (n' : Int) := ⟨_, rfl⟩
  obtain ⟨mJ, hmJ⟩ : ∃ mJ, mJ = q Int fun _ => (m' : Int) := ⟨_, rfl⟩
  rw [← hnI, ← hmI, ← hnJ, ← hmJ]
  have hnI' : nI = n := by rw [hnI]; subst hq; rfl
  have hmI' : mI = m := by rw [hmI]; subst hq; rfl
  have hnJ' : nJ = n' := by rw [hnJ]; subst hq; rfl
  have hmJ' : mJ = m' := by rw [hmJ]; subst hq; rfl
  (conv => cbv)
  refine call_fn hq hCN (cmpZ_c nI nJ) rfl ?_
  obtain ⟨c1, hc1⟩ : ∃ c1, c1 = cmpZ nI nJ := ⟨_, rfl⟩
  rw [← hc1]
  rw [hnI', hnJ'] at hc1
  rw [← hc1] at fin
  (conv => cbv)
  split
  · rename_i g0
    rw [hq] at g0
    ((try simp (disch := omega) only [q0, nc, w64_id, wu64_id, wu32_id, wu8_id, Int.tdiv_eq_ediv_of_nonneg, Int.tmod_eq_emod_of_nonneg, Int.ofNat_eq_natCast, Int.natAbs_natCast, decide_eq_true_eq, decide_eq_false_iff_not, Bool.not_eq_true', Bool.not_eq_false', bne_iff_ne, bne_eq_false_iff_eq, beq_iff_eq, beq_eq_false_iff_ne, ne_eq] at g0); (try replace g0 := of_decide_eq_true g0); (try replace g0 := of_decide_eq_false g0))
    exact fin _ (or2_ne g0 _).symm
  · rename_i g0
    rw [hq] at g0
    ((try simp (disch := omega) only [q0, nc, w64_id, wu64_id, wu32_id, wu8_id, Int.tdiv_eq_ediv_of_nonneg, Int.tmod_eq_emod_of_nonneg, Int.ofNat_eq_natCast, Int.natAbs_natCast, decide_eq_true_eq, decide_eq_false_iff_not, Bool.not_eq_true', Bool.not_eq_false', bne_iff_ne, bne_eq_false_iff_eq, beq_iff_eq, beq_eq_false_iff_ne, ne_eq] at g0); (try replace g0 := of_decide_eq_true g0); (try replace g0 := of_decide_eq_false g0))
    rw [g0] at hc1
    have hnm : n' = n := by
      unfold cmpZ at hc1
      split at hc1
      · omega
      · split at hc1 <;> omega
    subst hnm
    rw [g0, or2_zero] at fin
    refine cf_fc hq hCN n' hn F.poly_Compare_1 A0 A1 A2 B0 B1 B2 C hnI' hnJ' (fun i hi => h i hi rfl) ?_
    obtain ⟨c2, hc2⟩ : ∃ c2, c2 = lexI n' C := ⟨_, rfl⟩
    rw [← hc2] at fin ⊢
    (conv => cbv)
    have rest : cmpZ m m' = 0 → m' = m := fun h0 => by
      unfold cmpZ at h0
      split at h0
      · omega
      · split at h0 <;> omega
    split
    · rename_i g1
      rw [hq] at g1
      ((try simp (disch := omega) only [q0, nc, w64_id, wu64_id, wu32_id, wu8_id, Int.tdiv_eq_ediv_of_nonneg, Int.tmod_eq_emod_of_nonneg, Int.ofNat_eq_natCast, Int.natAbs_natCast, decide_eq_true_eq, decide_eq_false_iff_not, Bool.not_eq_true', Bool.not_eq_false', bne_iff_ne, bne_eq_false_iff_eq, beq_iff_eq, beq_eq_false_iff_ne, ne_eq] at g1); (try replace g1 := of_decide_eq_true g1); (try replace g1 := of_decide_eq_false g1))
      subst g1
      rw [or2_zero] at fin
      refine call_fn hq hCN (cmpZ_c mI mJ) rfl ?_
      obtain ⟨c3, hc3⟩ : ∃ c3, c3 = cmpZ mI mJ := ⟨_, rfl⟩
      rw [← hc3]
      rw [hmI', hmJ'] at hc3
      rw [← hc3] at fin rest
      (conv => cbv)
      split
      · rename_i g2
        rw [hq] at g2
        ((try simp (disch := omega) only [q0, nc, w64_id, wu64_id, wu32_id, wu8_id, Int.tdiv_eq_ediv_of_nonneg, Int.tmod_eq_emod_of_nonneg, Int.ofNat_eq_natCast, Int.natAbs_natCast, decide_eq_true_eq, decide_eq_false_iff_not, Bool.not_eq_true', Bool.not_eq_false', bne_iff_ne, bne_eq_false_iff_eq, beq_iff_eq, beq_eq_false_iff_ne, ne_eq] at g2); (try replace g2 := of_decide_eq_true g2); (try replace g2 := of_decide_eq_false g2))
        exact fin _ (or2_ne g2 _).symm
      · rename_i g2
        rw [hq] at g2
        ((try simp (disch := omega) only [q0, nc, w64_id, wu64_id, wu32_id, wu8_id, Int.tdiv_eq_ediv_of_nonneg, Int.tmod_eq_emod_of_nonneg, Int.ofNat_eq_natCast, Int.natAbs_natCast, decide_eq_true_eq, decide_eq_false_iff_not, Bool.not_eq_true', Bool.not_eq_false', bne_iff_ne, bne_eq_false_iff_eq, beq_iff_eq, beq_eq_false_iff_ne, ne_eq] at g2); (try replace g2 := of_decide_eq_true g2); (try replace g2 := of_decide_eq_false g2))
        have hmm := rest g2
        subst hmm
        rw [g2, or2_zero] at fin
        refine cf_am hq hCN m' hm F.poly_Compare_2 A3 A4 A5 B3 B4 B5 D hmI' hmJ' h' ?_
        obtain ⟨c4, hc4⟩ : ∃ c4, c4 = lexI m' D := ⟨_, rfl⟩
        rw [← hc4] at fin ⊢
        (conv => cbv)
        exact fin _ rfl
    · rename_i g1
      rw [hq] at g1
      ((try simp (disch := omega) only [q0, nc, w64_id, wu64_id, wu32_id, wu8_id, Int.tdiv_eq_ediv_of_nonneg, Int.tmod_eq_emod_of_nonneg, Int.ofNat_eq_natCast, Int.natAbs_natCast, decide_eq_true_eq, decide_eq_false_iff_not, Bool.not_eq_true', Bool.not_eq_false', bne_iff_ne, bne_eq_false_iff_eq, beq_iff_eq, beq_eq_false_iff_ne, ne_eq] at g1); (try replace g1 := of_decide_eq_true g1); (try replace g1 := of_decide_eq_false g1))
      dsimp only
      rw [or2_ne g1, or2_ne g1] at fin
      split
      · exact fin _ rfl
      · rename_i g2
        rw [hq] at g2
        ((try simp (disch := omega) only [q0, nc, w64_id, wu64_id, wu32_id, wu8_id, Int.tdiv_eq_ediv_of_nonneg, Int.tmod_eq_emod_of_nonneg, Int.ofNat_eq_natCast, Int.natAbs_natCast, decide_eq_true_eq, decide_eq_false_iff_not, Bool.not_eq_true', Bool.not_eq_false', bne_iff_ne, bne_eq_false_iff_eq, beq_iff_eq, beq_eq_false_iff_ne, ne_eq] at g2); (try replace g2 := of_decide_eq_true g2); (try replace g2 := of_decide_eq_false g2))
        exact absurd g2 g1
theorem monCmp_c (a b : Mon) (ha : a.Ok) (hb : b.Ok) : PureF Pg F.poly_Compare (fun _ => [.agg a.L, .agg b.L]) (fun _ => .one (.int .i64 (cmpMon a b))) :=
  monCmp_main a.nf a.na b.nf b.na ha.nf ha.na (fun i => .int .i64 (a.fc i).var) (fun i => .int .i64 (a.fc i).ix.num) (fun i => (a.fc i).ix.T) (fun i => .int .i64 (b.fc i).var) (fun i => .int .i64 (b.fc i).ix.num) (fun i => (b.fc i).ix.T)
    (fun i => .int .i64 (a.am i).lin.const) (fun i => .sl 2 (a.am i).lin.n (fun j => ((a.am i).lin.tm j).L)) (fun i => .int .i64 (a.am i).deg) (fun i => .int .i64 (b.am i).lin.const) (fun i => .sl 2 (b.am i).lin.n (fun j => ((b.am i).lin.tm j).L)) (fun i => .int .i64 (b.am i).deg)
    (fun i => cmpFct (a.fc i) (b.fc i)) (fun i => cmpAtm (a.am i) (b.am i)) (fun i hi hnn => fcCmp_c (a.fc i) (b.fc i) (ha.fc i hi) (hb.fc i (by omega))) (fun i hi => amCmp_c (a.am i) (b.am i) (ha.am i hi))
end Sx

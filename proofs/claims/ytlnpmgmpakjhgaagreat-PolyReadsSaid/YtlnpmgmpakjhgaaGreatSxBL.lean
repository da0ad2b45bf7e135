/- A part of the proof of PolyReadsSaid: texts SxCmp. -/
import Derived.Test.YtlnpmgmpakjhgaaGreatSxAX
import Derived.Test.YtlnpmgmpakjhgaaGreatSxBC
set_option linter.all false
set_option maxRecDepth 100000
namespace Sx
open Go

theorem nan_c (a : Int) : PureF Pg F.cmp_isNaN_int (fun _ => [.one (.int .i64 a)]) (fun _ => .one (.bool false)) := by
  refine walkF mixed tau_ok At.cmp_isNaN_int (fun CN DN q R hCN hDN hq hR => ?_)
  (conv => cbv)
  refine hR _ ?_
  have e : (q Bool fun _ => a != a) = false := by subst hq; simp [q0]
  rw [e]
  exact .refl
theorem nan64_c (a : Int) : PureF Pg F.cmp_isNaN_int64 (fun _ => [.one (.int .i64 a)]) (fun _ => .one (.bool false)) := by
  refine walkF mixed tau_ok At.cmp_isNaN_int64 (fun CN DN q R hCN hDN hq hR => ?_)
  (conv => cbv)
  refine hR _ ?_
  have e : (q Bool fun _ => a != a) = false := by subst hq; simp [q0]
  rw [e]
  exact .refl
theorem cmpZ_c (a b : Int) : PureF Pg F.cmp_Compare_int (fun _ => [.one (.int .i64 a), .one (.int .i64 b)]) (fun _ => .one (.int .i64 (cmpZ a b))) := by
  refine walkF mixed tau_ok At.cmp_Compare_int (fun CN DN q R hCN hDN hq hR => ?_)
  have fin : ∀ x : Int, x = cmpZ a b → R (.one (.int .i64 x)) := fun x hx => hR _ (by rw [hx]; exact .refl)
  (conv => cbv)
  refine call_fn hq hCN (nan_c a) rfl ?_
  (conv => cbv)
  refine call_fn hq hCN (nan_c b) rfl ?_
  (conv => cbv)
  split
  · rename_i g0
    rw [hq] at g0
    ((try simp (disch := omega) only [q0, nc, w64_id, wu64_id, wu32_id, wu8_id, Int.tdiv_eq_ediv_of_nonneg, Int.tmod_eq_emod_of_nonneg, Int.ofNat_eq_natCast, Int.natAbs_natCast, decide_eq_true_eq, decide_eq_false_iff_not, Bool.not_eq_true', Bool.not_eq_false', bne_iff_ne, bne_eq_false_iff_eq, beq_iff_eq, beq_eq_false_iff_ne, ne_eq] at g0); (try replace g0 := of_decide_eq_true g0); (try replace g0 := of_decide_eq_false g0))
    exact fin _ (by unfold cmpZ; rw [if_pos g0])
  · rename_i g0
    rw [hq] at g0
    ((try simp (disch := omega) only [q0, nc, w64_id, wu64_id, wu32_id, wu8_id, Int.tdiv_eq_ediv_of_nonneg, Int.tmod_eq_emod_of_nonneg, Int.ofNat_eq_natCast, Int.natAbs_natCast, decide_eq_true_eq, decide_eq_false_iff_not, Bool.not_eq_true', Bool.not_eq_false', bne_iff_ne, bne_eq_false_iff_eq, beq_iff_eq, beq_eq_false_iff_ne, ne_eq] at g0); (try replace g0 := of_decide_eq_true g0); (try replace g0 := of_decide_eq_false g0))
    split
    · rename_i g1
      rw [hq] at g1
      ((try simp (disch := omega) only [q0, nc, w64_id, wu64_id, wu32_id, wu8_id, Int.tdiv_eq_ediv_of_nonneg, Int.tmod_eq_emod_of_nonneg, Int.ofNat_eq_natCast, Int.natAbs_natCast, decide_eq_true_eq, decide_eq_false_iff_not, Bool.not_eq_true', Bool.not_eq_false', bne_iff_ne, bne_eq_false_iff_eq, beq_iff_eq, beq_eq_false_iff_ne, ne_eq] at g1); (try replace g1 := of_decide_eq_true g1); (try replace g1 := of_decide_eq_false g1))
      exact fin _ (by unfold cmpZ; rw [if_neg g0, if_pos g1])
    · rename_i g1
      rw [hq] at g1
      ((try simp (disch := omega) only [q0, nc, w64_id, wu64_id, wu32_id, wu8_id, Int.tdiv_eq_ediv_of_nonneg, Int.tmod_eq_emod_of_nonneg, Int.ofNat_eq_natCast, Int.natAbs_natCast, decide_eq_true_eq, decide_eq_false_iff_not, Bool.not_eq_true', Bool.not_eq_false', bne_iff_ne, bne_eq_false_iff_eq, beq_iff_eq, beq_eq_false_iff_ne, ne_eq] at g1); (try replace g1 := of_decide_eq_true g1); (try replace g1 := of_decide_eq_false g1))
      exact fin _ (by unfold cmpZ; rw [if_neg g0, if_neg g1])
theorem cmpZ64_c (a b : Int) : PureF Pg F.cmp_Compare_int64 (fun _ => [.one (.int .i64 a), .one (.int .i64 b)]) (fun _ => .one (.int .i64 (cmpZ a b))) := by
  refine walkF mixed tau_ok At.cmp_Compare_int64 (fun CN DN q R hCN hDN hq hR => ?_)
  have fin : ∀ x : Int, x = cmpZ a b → R (.one (.int .i64 x)) := fun x hx => hR _ (by rw [hx]; exact .refl)
  (conv => cbv)
  refine call_fn hq hCN (nan64_c a) rfl ?_
  (conv => cbv)
  refine call_fn hq hCN (nan64_c b) rfl ?_
  (conv => cbv)
  split
  · rename_i g0
    rw [hq] at g0
    ((try simp (disch := omega) only [q0, nc, w64_id, wu64_id, wu32_id, wu8_id, Int.tdiv_eq_ediv_of_nonneg, Int.tmod_eq_emod_of_nonneg, Int.ofNat_eq_natCast, Int.natAbs_natCast, decide_eq_true_eq, decide_eq_false_iff_not, Bool.not_eq_true', Bool.not_eq_false', bne_iff_ne, bne_eq_false_iff_eq, beq_iff_eq, beq_eq_false_iff_ne, ne_eq] at g0); (try replace g0 := of_decide_eq_true g0); (try replace g0 := of_decide_eq_false g0))
    exact fin _ (by unfold cmpZ; rw [if_pos g0])
  · rename_i g0
    rw [hq] at g0
    ((try simp (disch := omega) only [q0, nc, w64_id, wu64_id, wu32_id, wu8_id, Int.tdiv_eq_ediv_of_nonneg, Int.tmod_eq_emod_of_nonneg, Int.ofNat_eq_natCast, Int.natAbs_natCast, decide_eq_true_eq, decide_eq_false_iff_not, Bool.not_eq_true', Bool.not_eq_false', bne_iff_ne, bne_eq_false_iff_eq, beq_iff_eq, beq_eq_false_iff_ne, ne_eq] at g0); (try replace g0 := of_decide_eq_true g0); (try replace g0 := of_decide_eq_false g0))
    split
    · rename_i g1
      rw [hq] at g1
      ((try simp (disch := omega) only [q0, nc, w64_id, wu64_id, wu32_id, wu8_id, Int.tdiv_eq_ediv_of_nonneg, Int.tmod_eq_emod_of_nonneg, Int.ofNat_eq_natCast, Int.natAbs_natCast, decide_eq_true_eq, decide_eq_false_iff_not, Bool.not_eq_true', Bool.not_eq_false', bne_iff_ne, bne_eq_false_iff_eq, beq_iff_eq, beq_eq_false_iff_ne, ne_eq] at g1); (try replace g1 := of_decide_eq_true g1); (try replace g1 := of_decide_eq_false g1))
      exact fin _ (by unfold cmpZ; rw [if_neg g0, if_pos g1])
    · rename_i g1
      rw [hq] at g1
      ((try simp (disch := omega) only [q0, nc, w64_id, wu64_id, wu32_id, wu8_id, Int.tdiv_eq_ediv_of_nonneg, Int.tmod_eq_emod_of_nonneg, Int.ofNat_eq_natCast, Int.natAbs_natCast, decide_eq_true_eq, decide_eq_false_iff_not, Bool.not_eq_true', Bool.not_eq_false', bne_iff_ne, bne_eq_false_iff_eq, beq_iff_eq, beq_eq_false_iff_ne, ne_eq] at g1); (try replace g1 := of_decide_eq_true g1); (try replace g1 := of_decide_eq_false g1))
      exact fin _ (by unfold cmpZ; rw [if_neg g0, if_neg g1])
theorem or_n (n : Nat) (hn : n ≤ 1000000) (G : Int → Int) : PureF Pg F.cmp_Or_int (fun q => [.one (.sl 1 (q Int fun _ => (n : Int)) (fun i => [.int .i64 (G i)]))]) (fun _ => .one (.int .i64 (lexI n G))) := by
  refine walkF mixed tau_ok At.cmp_Or_int (fun CN DN q R hCN hDN hq hR => ?_)
  have fin : ∀ x : Int, x = lexI n G → R (.one (.int .i64 x)) := fun x hx => hR _ (by rw [hx]; exact .refl)
  (conv => cbv)
  refine LoopN.mk [3, 6, 7, 8] (fun d σ => ∃ k : Int, (0 ≤ k ∧ k ≤ n ∧ d = ((n : Int) - k).toNat ∧ lexI k.toNat G = 0) ∧
    σ = ⟨mkS [(3, .one (.t (.int .i64 0))), (6, .one (.t (.sl 1 (q Int fun _ => (n : Int)) (fun i => [.int .i64 (G i)])))), (7, .one (.t (.int .i64 (q Int fun _ => (n : Int))))), (8, .one (.t (.int .i64 k)))] 0 18, []⟩) ⟨n, 0, ⟨by omega, by omega, by omega, rfl⟩, ?_⟩ ?_
  · cbv
  · rintro d σ ⟨k, ⟨h1, h2, rfl, h3⟩, rfl⟩ K hK
    (conv => cbv)
    obtain ⟨k, rfl⟩ := Int.eq_ofNat_of_zero_le h1
    rw [Int.toNat_natCast] at h3
    split
    · rename_i g0
      rw [hq] at g0
      ((try simp (disch := omega) only [q0, nc, w64_id, wu64_id, wu32_id, wu8_id, Int.tdiv_eq_ediv_of_nonneg, Int.tmod_eq_emod_of_nonneg, Int.ofNat_eq_natCast, Int.natAbs_natCast, decide_eq_true_eq, decide_eq_false_iff_not, Bool.not_eq_true', Bool.not_eq_false', bne_iff_ne, bne_eq_false_iff_eq, beq_iff_eq, beq_eq_false_iff_ne, ne_eq] at g0); (try replace g0 := of_decide_eq_true g0); (try replace g0 := of_decide_eq_false g0))
      refine Need.mk (by subst hq; (try simp (disch := omega) only [q0, nc, w64_id, wu64_id, wu32_id, wu8_id, Int.tdiv_eq_ediv_of_nonneg, Int.tmod_eq_emod_of_nonneg, Int.ofNat_eq_natCast, Int.natAbs_natCast, decide_eq_true_eq, decide_eq_false_iff_not, Bool.not_eq_true', bne_iff_ne, beq_iff_eq, ne_eq]); omega) ?_
      split
      · rename_i g1
        rw [hq] at g1
        ((try simp (disch := omega) only [q0, nc, w64_id, wu64_id, wu32_id, wu8_id, Int.tdiv_eq_ediv_of_nonneg, Int.tmod_eq_emod_of_nonneg, Int.ofNat_eq_natCast, Int.natAbs_natCast, decide_eq_true_eq, decide_eq_false_iff_not, Bool.not_eq_true', Bool.not_eq_false', bne_iff_ne, bne_eq_false_iff_eq, beq_iff_eq, beq_eq_false_iff_ne, ne_eq] at g1); (try replace g1 := of_decide_eq_true g1); (try replace g1 := of_decide_eq_false g1))
        exact fin _ (lexI_at h3 g1 (by omega)).symm
      · rename_i g1
        rw [hq] at g1
        ((try simp (disch := omega) only [q0, nc, w64_id, wu64_id, wu32_id, wu8_id, Int.tdiv_eq_ediv_of_nonneg, Int.tmod_eq_emod_of_nonneg, Int.ofNat_eq_natCast, Int.natAbs_natCast, decide_eq_true_eq, decide_eq_false_iff_not, Bool.not_eq_true', Bool.not_eq_false', bne_iff_ne, bne_eq_false_iff_eq, beq_iff_eq, beq_eq_false_iff_ne, ne_eq] at g1); (try replace g1 := of_decide_eq_true g1); (try replace g1 := of_decide_eq_false g1))
        have ek : (q Int fun _ => IntKind.i64.wrap ((k : Int) + 1)) = k + 1 := by subst hq; (try simp (disch := omega) only [q0, nc, w64_id, wu64_id, wu32_id, wu8_id, Int.tdiv_eq_ediv_of_nonneg, Int.tmod_eq_emod_of_nonneg, Int.ofNat_eq_natCast, Int.natAbs_natCast, decide_eq_true_eq, decide_eq_false_iff_not, Bool.not_eq_true', bne_iff_ne, beq_iff_eq, ne_eq])
        rw [ek]
        refine hK _ ⟨_, ?_, (k : Int) + 1, ⟨by omega, by omega, rfl, ?_⟩, rfl⟩
        · omega
        · rw [show ((k : Int) + 1).toNat = k + 1 by omega, lexI, h3, or2_zero, g1]
    · rename_i g0
      rw [hq] at g0
      ((try simp (disch := omega) only [q0, nc, w64_id, wu64_id, wu32_id, wu8_id, Int.tdiv_eq_ediv_of_nonneg, Int.tmod_eq_emod_of_nonneg, Int.ofNat_eq_natCast, Int.natAbs_natCast, decide_eq_true_eq, decide_eq_false_iff_not, Bool.not_eq_true', Bool.not_eq_false', bne_iff_ne, bne_eq_false_iff_eq, beq_iff_eq, beq_eq_false_iff_ne, ne_eq] at g0); (try replace g0 := of_decide_eq_true g0); (try replace g0 := of_decide_eq_false g0))
      have hk : k = n := by omega
      subst hk
      exact fin _ h3.symm

theorem or2_c (a b : Int) : PureF Pg F.cmp_Or_int (fun _ => [.one (.sl 1 (Int.ofNat 2) (fun i => [[T.int .i64 a], [T.int .i64 b]].getD i.toNat []))]) (fun _ => .one (.int .i64 (or2 a b))) := by
  have h := or_n 2 (by decide) (fun i => if i = 0 then a else b)
  have e : lexI 2 (fun i : Int => if i = 0 then a else b) = or2 a b := by
    show or2 (or2 0 a) b = or2 a b
    rw [or2_zero]
  rw [e] at h
  refine PureC.args h rfl (fun j x y hx hy => ?_)
  rcases j with _ | j
  · simp at hx hy
    subst hx; subst hy
    refine .one (TE.ext rfl (fun i hi => ?_))
    have hi2 : (i : Int) < 2 := hi
    rcases i with _ | _ | i
    · rfl
    · rfl
    · omega
  · simp at hx

theorem ixCmp_main (a b : Int) (n m : Nat) (hn : n ≤ lenB) (hm : m ≤ lenB) (F1 F2 : Int → Int) (G1 G2 : Int → T) (C : Int → Int)
    (h : ∀ i : Nat, i < n → i < m → PureF Pg F.index_Compare (fun _ => [.agg [.int .i64 (F1 i), G1 i], .agg [.int .i64 (F2 i), G2 i]]) (fun _ => .one (.int .i64 (C i)))) :
    PureF Pg F.index_Compare (fun q => [.agg [.int .i64 a, .sl 2 (q Int fun _ => (n : Int)) (fun i => [.int .i64 (F1 i), G1 i])], .agg [.int .i64 b, .sl 2 (q Int fun _ => (m : Int)) (fun i => [.int .i64 (F2 i), G2 i])]]) (fun _ => .one (.int .i64 (or2 (or2 (cmpZ a b) (cmpZ n m)) (lexI n C)))) := by
  have hn2 : n ≤ 9223372036854775807 := hn
  have hm2 : m ≤ 9223372036854775807 := hm
  refine walkF mixed tau_ok At.index_Compare (fun CN DN q R hCN hDN hq hR => ?_)
  have fin : ∀ x : Int, x = or2 (or2 (cmpZ a b) (cmpZ n m)) (lexI n C) → R (.one (.int .i64 x)) := fun x hx => hR _ (by rw [hx]; exact .refl)
  obtain ⟨nI, hnI⟩ : ∃ nI, nI = q Int fun _ => (n : Int) := ⟨_, rfl⟩
  obtain ⟨mI, hmI⟩ : ∃ mI, mI = q Int fun _ => (m : Int) := ⟨_, rfl⟩
  rw [← hnI, ← hmI]
  have hnI' : nI = n := by rw [hnI]; subst hq; rfl
  have hmI' : mI = m := by rw [hmI]; subst hq; rfl
  (conv => cbv)
  refine Need.mk (by (exact ⟨by kernel_rfl, by kernel_rfl⟩)) ?_
  refine call_fd hq hDN (cmpZ_c a b) rfl ?_
  obtain ⟨c1, hc1⟩ : ∃ c1, c1 = cmpZ a b := ⟨_, rfl⟩
  rw [← hc1]
  (conv => cbv)
  refine call_fd hq hDN (cmpZ_c nI mI) rfl ?_
  obtain ⟨c2, hc2⟩ : ∃ c2, c2 = cmpZ nI mI := ⟨_, rfl⟩
  rw [← hc2]
  (conv => cbv)
  refine call_fld hq hDN (or2_c c1 c2) rfl rfl ?_
  obtain ⟨c, hc⟩ : ∃ c, c = or2 c1 c2 := ⟨_, rfl⟩
  rw [← hc]
  (conv => cbv)
  rw [hnI', hmI'] at hc2
  have hcmn : c = 0 → n = m := by
    intro h0
    rw [hc] at h0
    unfold or2 at h0
    split at h0
    · rename_i h1; exact absurd h0 h1
    · rw [hc2] at h0
      unfold cmpZ at h0
      split at h0
      · omega
      · split at h0 <;> omega
  rw [← hc1, ← hc2, ← hc] at fin
  refine LoopN.mk [2, 3, 5, 6] (fun d σ => ∃ k e : Int, (0 ≤ k ∧ k ≤ n ∧ d = ((n : Int) - k).toNat ∧ e = or2 c (lexI k.toNat C)) ∧
    σ = ⟨mkS [(2, .one (.bp 1 0)), (3, .one (.bp 0 0)), (5, .one (.t (.int .i64 e))), (6, .one (.t (.int .i64 k)))] 0 44,
      [.box 52 [.t (.int .i64 b), .t (.sl 2 mI (fun i => [.int .i64 (F2 i), G2 i]))], .box 52 [.t (.int .i64 a), .t (.sl 2 nI (fun i => [.int .i64 (F1 i), G1 i]))]]⟩) ⟨n, 0, c, ⟨by omega, by omega, by omega, ?_⟩, ?_⟩ ?_
  · show c = or2 c 0
    unfold or2
    split
    · rfl
    · omega
  · cbv
  · rintro d σ ⟨k, e, ⟨h1, h2, rfl, h3⟩, rfl⟩ K hK
    (conv => cbv)
    obtain ⟨k, rfl⟩ := Int.eq_ofNat_of_zero_le h1
    rw [Int.toNat_natCast] at h3
    split
    · rename_i g0
      rw [hq] at g0
      ((try simp (disch := omega) only [q0, nc, w64_id, wu64_id, wu32_id, wu8_id, Int.tdiv_eq_ediv_of_nonneg, Int.tmod_eq_emod_of_nonneg, Int.ofNat_eq_natCast, Int.natAbs_natCast, decide_eq_true_eq, decide_eq_false_iff_not, Bool.not_eq_true', Bool.not_eq_false', bne_iff_ne, bne_eq_false_iff_eq, beq_iff_eq, beq_eq_false_iff_ne, ne_eq] at g0); (try replace g0 := of_decide_eq_true g0); (try replace g0 := of_decide_eq_false g0))
      have hc0 : c = 0 := by
        rcases Int.lt_trichotomy c 0 with h0 | h0 | h0
        · rw [or2_ne (by omega)] at h3; omega
        · exact h0
        · rw [or2_ne (by omega)] at h3; omega
      have hlx : lexI k C = 0 := by rw [hc0, or2_zero] at h3; omega
      split
      · rename_i g1
        rw [hq] at g1
        ((try simp (disch := omega) only [q0, nc, w64_id, wu64_id, wu32_id, wu8_id, Int.tdiv_eq_ediv_of_nonneg, Int.tmod_eq_emod_of_nonneg, Int.ofNat_eq_natCast, Int.natAbs_natCast, decide_eq_true_eq, decide_eq_false_iff_not, Bool.not_eq_true', Bool.not_eq_false', bne_iff_ne, bne_eq_false_iff_eq, beq_iff_eq, beq_eq_false_iff_ne, ne_eq] at g1); (try replace g1 := of_decide_eq_true g1); (try replace g1 := of_decide_eq_false g1))
        refine Need.mk (by (exact ⟨by kernel_rfl, by kernel_rfl⟩)) (Need.mk (by omega) (Need.mk (by have := hcmn hc0; omega) ?_))
        refine call_fd hq hDN (h k (by omega) (by have := hcmn hc0; omega)) rfl ?_
        (conv => cbv)
        simp only [nc, Int.ofNat_eq_natCast]
        have ek : (q Int fun _ => IntKind.i64.wrap ((k : Int) + 1)) = k + 1 := by subst hq; (try simp (disch := omega) only [q0, nc, w64_id, wu64_id, wu32_id, wu8_id, Int.tdiv_eq_ediv_of_nonneg, Int.tmod_eq_emod_of_nonneg, Int.ofNat_eq_natCast, Int.natAbs_natCast, decide_eq_true_eq, decide_eq_false_iff_not, Bool.not_eq_true', bne_iff_ne, beq_iff_eq, ne_eq])
        rw [ek]
        refine hK _ ⟨_, ?_, (k : Int) + 1, C k, ⟨by omega, by omega, rfl, ?_⟩, rfl⟩
        · omega
        · rw [show ((k : Int) + 1).toNat = k + 1 by omega, lexI, hlx, hc0, or2_zero, or2_zero]
      · rename_i g1
        rw [hq] at g1
        ((try simp (disch := omega) only [q0, nc, w64_id, wu64_id, wu32_id, wu8_id, Int.tdiv_eq_ediv_of_nonneg, Int.tmod_eq_emod_of_nonneg, Int.ofNat_eq_natCast, Int.natAbs_natCast, decide_eq_true_eq, decide_eq_false_iff_not, Bool.not_eq_true', Bool.not_eq_false', bne_iff_ne, bne_eq_false_iff_eq, beq_iff_eq, beq_eq_false_iff_ne, ne_eq] at g1); (try replace g1 := of_decide_eq_true g1); (try replace g1 := of_decide_eq_false g1))
        have hk : k = n := by omega
        subst hk
        exact fin _ h3
    · rename_i g0
      rw [hq] at g0
      ((try simp (disch := omega) only [q0, nc, w64_id, wu64_id, wu32_id, wu8_id, Int.tdiv_eq_ediv_of_nonneg, Int.tmod_eq_emod_of_nonneg, Int.ofNat_eq_natCast, Int.natAbs_natCast, decide_eq_true_eq, decide_eq_false_iff_not, Bool.not_eq_true', Bool.not_eq_false', bne_iff_ne, bne_eq_false_iff_eq, beq_iff_eq, beq_eq_false_iff_ne, ne_eq] at g0); (try replace g0 := of_decide_eq_true g0); (try replace g0 := of_decide_eq_false g0))
      refine fin _ ?_
      by_cases hc0 : c = 0
      · rw [hc0, or2_zero] at h3 ⊢
        rw [lexI_stop (k := k) (n := n) (by rw [← h3]; exact g0) (by omega)]
        exact h3
      · rw [or2_ne hc0] at h3 ⊢
        exact h3
theorem ixCmp_c : ∀ (x : Ix), x.Ok → ∀ (y : Ix), y.Ok → PureF Pg F.index_Compare (fun _ => [.agg x.L, .agg y.L]) (fun _ => .one (.int .i64 (cmpIx x y))) := by
  intro x
  induction x with
  | leaf =>
    intro hx y hy
    obtain ⟨A, B, e, hAB⟩ := y.form
    rw [e]
    exact ixCmp_main 0 y.num 0 y.n (Nat.zero_le _) (Ix.ok hy).1 (fun _ => 0) A (fun _ => .bool false) B (fun _ => 0) (fun i hi hi' => absurd hi (Nat.not_lt_zero i))
  | mk a n k ih =>
    intro hx y hy
    obtain ⟨A, B, e, hAB⟩ := y.form
    rw [e]
    exact ixCmp_main a y.num n y.n hx.1 (Ix.ok hy).1 (fun i => (k i).num) A (fun i => (k i).T) B (fun i => cmpIx (k i) (y.kid i)) (fun i hi hi' => by
      rw [(hAB i hi').1, (hAB i hi').2]
      exact ih i (hx.2 i hi) (y.kid i) ((Ix.ok hy).2 i hi'))
end Sx

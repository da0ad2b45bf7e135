/- A part of the proof of PolyReadsSaid: texts SxRef7. -/
import Derived.Test.YtlnpmgmpakjhgaaGreatSxBL
set_option linter.all false
set_option maxRecDepth 100000
namespace Sx
open Go
theorem or2_assoc (a b c : Int) : or2 (or2 a b) c = or2 a (or2 b c) := by
  by_cases h : a = 0
  · rw [h, or2_zero, or2_zero]
  · rw [or2_ne h, or2_ne h, or2_ne h]
theorem cmpZ_self (a : Int) : cmpZ a a = 0 := by unfold cmpZ; rw [if_neg (by omega), if_neg (by omega)]
theorem cmpZ_zero {a b : Int} (h : cmpZ a b = 0) : a = b := by
  unfold cmpZ at h
  split at h
  · omega
  · split at h <;> omega
theorem cmpZ_ne {a b : Int} (h : a ≠ b) : cmpZ a b ≠ 0 := fun h' => h (cmpZ_zero h')
def ordB (b : Bool) : Int := if b = true then -1 else 1
theorem ordB_cmp {q : Qt} (hq : q = q0) {a b : Int} (h : a ≠ b) : ordB (q Bool fun _ => decide (a < b)) = cmpZ a b := by
  subst hq
  unfold ordB cmpZ
  simp only [q0, decide_eq_true_eq]
  split
  · rfl
  · rw [if_pos (by omega)]
theorem order15_c (b : Bool) : PureF Pg F.amortcostref15_order (fun _ => [.one (.bool b)]) (fun _ => .one (.int .i64 (ordB b))) := by
  refine walkF mixed tau_ok At.amortcostref15_order (fun CN DN q R hCN hDN hq hR => ?_)
  cases b
  · (conv => cbv)
    exact hR _ .refl
  · (conv => cbv)
    exact hR _ .refl
theorem order19_c (b : Bool) : PureF Pg F.amortcostref19_order (fun _ => [.one (.bool b)]) (fun _ => .one (.int .i64 (ordB b))) := by
  refine walkF mixed tau_ok At.amortcostref19_order (fun CN DN q R hCN hDN hq hR => ?_)
  cases b
  · (conv => cbv)
    exact hR _ .refl
  · (conv => cbv)
    exact hR _ .refl
theorem order20_c (b : Bool) : PureF Pg F.amortcostref20_order (fun _ => [.one (.bool b)]) (fun _ => .one (.int .i64 (ordB b))) := by
  refine walkF mixed tau_ok At.amortcostref20_order (fun CN DN q R hCN hDN hq hR => ?_)
  cases b
  · (conv => cbv)
    exact hR _ .refl
  · (conv => cbv)
    exact hR _ .refl

theorem call_ord {k : Nat} {CN : CNt} {q : Qt} (hq : q = q0) (hCN : CN = CallN Pg) {a b : Int} (hab : a ≠ b) (hc : ∀ b, PureF Pg k (fun _ => [.one (.bool b)]) (fun _ => .one (.int .i64 (ordB b)))) {args : List AV} {H : List Blk} {K : AV → List Blk → Prop}
    (ht : tos H args = some [.one (.bool (q Bool fun _ => decide (a < b)))]) (hK : K (.one (.t (.int .i64 (cmpZ a b)))) H) : CN k args H K := by
  refine call_fn hq hCN (hc (q Bool fun _ => decide (a < b))) ht ?_
  rw [ordB_cmp hq hab]
  exact hK
theorem call_ordd {k : Nat} {DN : CNt} {q : Qt} (hq : q = q0) (hDN : DN = CallD Pg) {a b : Int} (hab : a ≠ b) (hc : ∀ b, PureF Pg k (fun _ => [.one (.bool b)]) (fun _ => .one (.int .i64 (ordB b)))) {args : List AV} {H : List Blk} {K : AV → List Blk → Prop}
    (ht : tos H args = some [.one (.bool (q Bool fun _ => decide (a < b)))]) (hK : K (.one (.t (.int .i64 (cmpZ a b)))) H) : DN k args H K := by
  refine call_fd hq hDN (hc (q Bool fun _ => decide (a < b))) ht ?_
  rw [ordB_cmp hq hab]
  exact hK

theorem all_main (n m : Nat) (hn : n ≤ lenB) (F1 F2 : Int → Int) (G1 G2 : Int → T) (C : Int → Int)
    (h : ∀ i : Nat, i < n → n = m → PureF Pg F.amortcostref15_Compare (fun _ => [.agg [.int .i64 (F1 i), G1 i], .agg [.int .i64 (F2 i), G2 i]]) (fun _ => .one (.int .i64 (C i)))) :
    PureF Pg F.amortcostref15_CompareAll (fun q => [.one (.sl 2 (q Int fun _ => (n : Int)) (fun i => [.int .i64 (F1 i), G1 i])), .one (.sl 2 (q Int fun _ => (m : Int)) (fun i => [.int .i64 (F2 i), G2 i]))]) (fun _ => .one (.int .i64 (or2 (cmpZ n m) (lexI n C)))) := by
  have hn2 : n ≤ 9223372036854775807 := hn
  refine walkF mixed tau_ok At.amortcostref15_CompareAll (fun CN DN q R hCN hDN hq hR => ?_)
  have fin : ∀ x : Int, x = or2 (cmpZ n m) (lexI n C) → R (.one (.int .i64 x)) := fun x hx => hR _ (by rw [hx]; exact .refl)
  clear hR
  obtain ⟨nI, hnI⟩ : ∃ nI, nI = q Int fun _ => (n : Int) := ⟨_, rfl⟩
  obtain ⟨mI, hmI⟩ : ∃ mI, mI = q Int fun _ => (m : Int) := ⟨_, rfl⟩
  rw [← hnI, ← hmI]
  have hnI' : nI = n := by rw [hnI]; subst hq; rfl
  have hmI' : mI = m := by rw [hmI]; subst hq; rfl
  (conv => cbv)
  split
  · rename_i g0
    rw [hq] at g0
    ((try simp (disch := omega) only [q0, nc, w64_id, wu64_id, wu32_id, wu8_id, Int.tdiv_eq_ediv_of_nonneg, Int.tmod_eq_emod_of_nonneg, Int.ofNat_eq_natCast, Int.natAbs_natCast, decide_eq_true_eq, decide_eq_false_iff_not, Bool.not_eq_true', Bool.not_eq_false', bne_iff_ne, bne_eq_false_iff_eq, beq_iff_eq, beq_eq_false_iff_ne, ne_eq] at g0); (try replace g0 := of_decide_eq_true g0); (try replace g0 := of_decide_eq_false g0))
    refine call_ord hq hCN g0 order15_c rfl ?_
    obtain ⟨c, hc⟩ : ∃ c, c = cmpZ nI mI := ⟨_, rfl⟩
    rw [← hc]
    (conv => cbv)
    refine fin _ ?_
    rw [hnI', hmI'] at hc
    rw [hc, or2_ne (cmpZ_ne (by omega))]
  · rename_i g0
    rw [hq] at g0
    ((try simp (disch := omega) only [q0, nc, w64_id, wu64_id, wu32_id, wu8_id, Int.tdiv_eq_ediv_of_nonneg, Int.tmod_eq_emod_of_nonneg, Int.ofNat_eq_natCast, Int.natAbs_natCast, decide_eq_true_eq, decide_eq_false_iff_not, Bool.not_eq_true', Bool.not_eq_false', bne_iff_ne, bne_eq_false_iff_eq, beq_iff_eq, beq_eq_false_iff_ne, ne_eq] at g0); (try replace g0 := of_decide_eq_true g0); (try replace g0 := of_decide_eq_false g0))
    have hnm : n = m := by omega
    subst hnm
    rw [cmpZ_self, or2_zero] at fin
    refine LoopN.mk [0, 1, 19, 20] (fun d σ => ∃ k : Int, (0 ≤ k ∧ k ≤ n ∧ d = ((n : Int) - k).toNat ∧ lexI k.toNat C = 0) ∧
      σ = ⟨mkS [(0, .one (.t (.sl 2 nI (fun i => [.int .i64 (F1 i), G1 i])))), (1, .one (.t (.sl 2 mI (fun i => [.int .i64 (F2 i), G2 i])))), (19, .one (.t (.int .i64 nI))), (20, .one (.t (.int .i64 k)))] 0 36, []⟩) ⟨n, 0, ⟨by omega, by omega, by omega, rfl⟩, ?_⟩ ?_
    · cbv
    · rintro d σ ⟨k, ⟨h1, h2, rfl, h3⟩, rfl⟩ K' hK'
      (conv => cbv)
      obtain ⟨k, rfl⟩ := Int.eq_ofNat_of_zero_le h1
      rw [Int.toNat_natCast] at h3
      split
      · rename_i g0
        rw [hq] at g0
        ((try simp (disch := omega) only [q0, nc, w64_id, wu64_id, wu32_id, wu8_id, Int.tdiv_eq_ediv_of_nonneg, Int.tmod_eq_emod_of_nonneg, Int.ofNat_eq_natCast, Int.natAbs_natCast, decide_eq_true_eq, decide_eq_false_iff_not, Bool.not_eq_true', Bool.not_eq_false', bne_iff_ne, bne_eq_false_iff_eq, beq_iff_eq, beq_eq_false_iff_ne, ne_eq] at g0); (try replace g0 := of_decide_eq_true g0); (try replace g0 := of_decide_eq_false g0))
        refine Need.mk (by (exact ⟨by kernel_rfl, by kernel_rfl⟩)) (Need.mk (by omega) (Need.mk (by omega) ?_))
        refine call_fd hq hDN (h k (by omega) rfl) rfl ?_
        (conv => cbv)
        split
        · rename_i g2
          rw [hq] at g2
          ((try simp (disch := omega) only [q0, nc, w64_id, wu64_id, wu32_id, wu8_id, Int.tdiv_eq_ediv_of_nonneg, Int.tmod_eq_emod_of_nonneg, Int.ofNat_eq_natCast, Int.natAbs_natCast, decide_eq_true_eq, decide_eq_false_iff_not, Bool.not_eq_true', Bool.not_eq_false', bne_iff_ne, bne_eq_false_iff_eq, beq_iff_eq, beq_eq_false_iff_ne, ne_eq] at g2); (try replace g2 := of_decide_eq_true g2); (try replace g2 := of_decide_eq_false g2))
          exact fin _ (lexI_at h3 g2 (by omega)).symm
        · rename_i g2
          rw [hq] at g2
          ((try simp (disch := omega) only [q0, nc, w64_id, wu64_id, wu32_id, wu8_id, Int.tdiv_eq_ediv_of_nonneg, Int.tmod_eq_emod_of_nonneg, Int.ofNat_eq_natCast, Int.natAbs_natCast, decide_eq_true_eq, decide_eq_false_iff_not, Bool.not_eq_true', Bool.not_eq_false', bne_iff_ne, bne_eq_false_iff_eq, beq_iff_eq, beq_eq_false_iff_ne, ne_eq] at g2); (try replace g2 := of_decide_eq_true g2); (try replace g2 := of_decide_eq_false g2))
          try simp only [nc, Int.ofNat_eq_natCast]
          have ek : (q Int fun _ => IntKind.i64.wrap ((k : Int) + 1)) = k + 1 := by subst hq; (try simp (disch := omega) only [q0, nc, w64_id, wu64_id, wu32_id, wu8_id, Int.tdiv_eq_ediv_of_nonneg, Int.tmod_eq_emod_of_nonneg, Int.ofNat_eq_natCast, Int.natAbs_natCast, decide_eq_true_eq, decide_eq_false_iff_not, Bool.not_eq_true', bne_iff_ne, beq_iff_eq, ne_eq])
          rw [ek]
          refine hK' _ ⟨_, ?_, (k : Int) + 1, ⟨by omega, by omega, rfl, ?_⟩, rfl⟩
          · omega
          · rw [show ((k : Int) + 1).toNat = k + 1 by omega, lexI, h3, or2_zero, g2]
      · rename_i g0
        rw [hq] at g0
        ((try simp (disch := omega) only [q0, nc, w64_id, wu64_id, wu32_id, wu8_id, Int.tdiv_eq_ediv_of_nonneg, Int.tmod_eq_emod_of_nonneg, Int.ofNat_eq_natCast, Int.natAbs_natCast, decide_eq_true_eq, decide_eq_false_iff_not, Bool.not_eq_true', Bool.not_eq_false', bne_iff_ne, bne_eq_false_iff_eq, beq_iff_eq, beq_eq_false_iff_ne, ne_eq] at g0); (try replace g0 := of_decide_eq_true g0); (try replace g0 := of_decide_eq_false g0))
        have hk : k = n := by omega
        subst hk
        exact fin _ h3.symm
theorem refIx_main (a b : Int) (S1 S2 : T) (c : Int) (h : PureF Pg F.amortcostref15_CompareAll (fun _ => [.one S1, .one S2]) (fun _ => .one (.int .i64 c))) :
    PureF Pg F.amortcostref15_Compare (fun _ => [.agg [.int .i64 a, S1], .agg [.int .i64 b, S2]]) (fun _ => .one (.int .i64 (or2 (cmpZ a b) c))) := by
  refine walkF mixed tau_ok At.amortcostref15_Compare (fun CN DN q R hCN hDN hq hR => ?_)
  have fin : ∀ x : Int, x = or2 (cmpZ a b) c → R (.one (.int .i64 x)) := fun x hx => hR _ (by rw [hx]; exact .refl)
  clear hR
  (conv => cbv)
  split
  · rename_i g0
    rw [hq] at g0
    ((try simp (disch := omega) only [q0, nc, w64_id, wu64_id, wu32_id, wu8_id, Int.tdiv_eq_ediv_of_nonneg, Int.tmod_eq_emod_of_nonneg, Int.ofNat_eq_natCast, Int.natAbs_natCast, decide_eq_true_eq, decide_eq_false_iff_not, Bool.not_eq_true', Bool.not_eq_false', bne_iff_ne, bne_eq_false_iff_eq, beq_iff_eq, beq_eq_false_iff_ne, ne_eq] at g0); (try replace g0 := of_decide_eq_true g0); (try replace g0 := of_decide_eq_false g0))
    refine call_ord hq hCN g0 order15_c rfl ?_
    obtain ⟨e, he⟩ : ∃ e, e = cmpZ a b := ⟨_, rfl⟩
    rw [← he]
    (conv => cbv)
    exact fin _ (by rw [he, or2_ne (cmpZ_ne g0)])
  · rename_i g0
    rw [hq] at g0
    ((try simp (disch := omega) only [q0, nc, w64_id, wu64_id, wu32_id, wu8_id, Int.tdiv_eq_ediv_of_nonneg, Int.tmod_eq_emod_of_nonneg, Int.ofNat_eq_natCast, Int.natAbs_natCast, decide_eq_true_eq, decide_eq_false_iff_not, Bool.not_eq_true', Bool.not_eq_false', bne_iff_ne, bne_eq_false_iff_eq, beq_iff_eq, beq_eq_false_iff_ne, ne_eq] at g0); (try replace g0 := of_decide_eq_true g0); (try replace g0 := of_decide_eq_false g0))
    subst g0
    rw [cmpZ_self, or2_zero] at fin
    refine call_fn hq hCN h rfl ?_
    (conv => cbv)
    exact fin _ rfl
theorem refIx_c : ∀ (x : Ix), x.Ok → ∀ (y : Ix), y.Ok → PureF Pg F.amortcostref15_Compare (fun _ => [.agg x.L, .agg y.L]) (fun _ => .one (.int .i64 (cmpIx x y))) := by
  intro x
  induction x with
  | leaf =>
    intro hx y hy
    obtain ⟨A, B, e, hAB⟩ := y.form
    rw [e]
    have h := refIx_main 0 y.num _ _ _ (all_main 0 y.n (Nat.zero_le _) (fun _ => 0) A (fun _ => .bool false) B (fun _ => 0) (fun i hi hi' => absurd hi (Nat.not_lt_zero i)))
    rw [← or2_assoc] at h
    exact h
  | mk a n k ih =>
    intro hx y hy
    obtain ⟨A, B, e, hAB⟩ := y.form
    rw [e]
    have h := refIx_main a y.num _ _ _ (all_main n y.n hx.1 (fun i => (k i).num) A (fun i => (k i).T) B (fun i => cmpIx (k i) (y.kid i)) (fun i hi hi' => by
      have hi2 : i < y.n := by omega
      rw [(hAB i hi2).1, (hAB i hi2).2]
      exact ih i (hx.2 i hi) (y.kid i) ((Ix.ok hy).2 i hi2)))
    rw [← or2_assoc] at h
    exact h

theorem refLn_main (a b : Int) (n m : Nat) (hn : n ≤ lenB) (V1 V2 W1 W2 : Int → Int) :
    PureF Pg F.amortcostref19_Compare (fun q => [.agg [.int .i64 a, .sl 2 (q Int fun _ => (n : Int)) (fun i => [.int .i64 (V1 i), .int .i64 (V2 i)])], .agg [.int .i64 b, .sl 2 (q Int fun _ => (m : Int)) (fun i => [.int .i64 (W1 i), .int .i64 (W2 i)])]]) (fun _ => .one (.int .i64 (or2 (cmpZ n m) (or2 (lexI n (fun i => or2 (cmpZ (V1 i) (W1 i)) (cmpZ (V2 i) (W2 i)))) (cmpZ a b))))) := by
  have hn2 : n ≤ 9223372036854775807 := hn
  refine walkF mixed tau_ok At.amortcostref19_Compare (fun CN DN q R hCN hDN hq hR => ?_)
  obtain ⟨C, hC⟩ : ∃ C : Int → Int, C = (fun i => or2 (cmpZ (V1 i) (W1 i)) (cmpZ (V2 i) (W2 i))) := ⟨_, rfl⟩
  have hC' : ∀ i, C i = or2 (cmpZ (V1 i) (W1 i)) (cmpZ (V2 i) (W2 i)) := fun i => by rw [hC]
  rw [← hC] at hR
  clear hC
  have fin : ∀ x : Int, x = or2 (cmpZ n m) (or2 (lexI n C) (cmpZ a b)) → R (.one (.int .i64 x)) := fun x hx => hR _ (by rw [hx]; exact .refl)
  clear hR
  obtain ⟨nI, hnI⟩ : ∃ nI, nI = q Int fun _ => (n : Int) := ⟨_, rfl⟩
  obtain ⟨mI, hmI⟩ : ∃ mI, mI = q Int fun _ => (m : Int) := ⟨_, rfl⟩
  rw [← hnI, ← hmI]
  have hnI' : nI = n := by rw [hnI]; subst hq; rfl
  have hmI' : mI = m := by rw [hmI]; subst hq; rfl
  (conv => cbv)
  split
  · rename_i g0
    rw [hq] at g0
    ((try simp (disch := omega) only [q0, nc, w64_id, wu64_id, wu32_id, wu8_id, Int.tdiv_eq_ediv_of_nonneg, Int.tmod_eq_emod_of_nonneg, Int.ofNat_eq_natCast, Int.natAbs_natCast, decide_eq_true_eq, decide_eq_false_iff_not, Bool.not_eq_true', Bool.not_eq_false', bne_iff_ne, bne_eq_false_iff_eq, beq_iff_eq, beq_eq_false_iff_ne, ne_eq] at g0); (try replace g0 := of_decide_eq_true g0); (try replace g0 := of_decide_eq_false g0))
    refine call_ord hq hCN g0 order19_c rfl ?_
    obtain ⟨c, hc⟩ : ∃ c, c = cmpZ nI mI := ⟨_, rfl⟩
    rw [← hc]
    (conv => cbv)
    refine fin _ ?_
    rw [hnI', hmI'] at hc
    rw [hc, or2_ne (cmpZ_ne (by omega))]
  · rename_i g0
    rw [hq] at g0
    ((try simp (disch := omega) only [q0, nc, w64_id, wu64_id, wu32_id, wu8_id, Int.tdiv_eq_ediv_of_nonneg, Int.tmod_eq_emod_of_nonneg, Int.ofNat_eq_natCast, Int.natAbs_natCast, decide_eq_true_eq, decide_eq_false_iff_not, Bool.not_eq_true', Bool.not_eq_false', bne_iff_ne, bne_eq_false_iff_eq, beq_iff_eq, beq_eq_false_iff_ne, ne_eq] at g0); (try replace g0 := of_decide_eq_true g0); (try replace g0 := of_decide_eq_false g0))
    have hnm : n = m := by omega
    subst hnm
    rw [cmpZ_self, or2_zero] at fin
    refine LoopN.mk [2, 3, 23, 24] (fun d σ => ∃ k : Int, (0 ≤ k ∧ k ≤ n ∧ d = ((n : Int) - k).toNat ∧ lexI k.toNat C = 0) ∧
      σ = ⟨mkS [(2, .one (.bp 1 0)), (3, .one (.bp 0 0)), (23, .one (.t (.int .i64 nI))), (24, .one (.t (.int .i64 k)))] 0 93, [.box 55 [.t (.int .i64 b), .t (.sl 2 mI (fun i => [.int .i64 (W1 i), .int .i64 (W2 i)]))], .box 55 [.t (.int .i64 a), .t (.sl 2 nI (fun i => [.int .i64 (V1 i), .int .i64 (V2 i)]))]]⟩) ⟨n, 0, ⟨by omega, by omega, by omega, rfl⟩, ?_⟩ ?_
    · cbv
    · rintro d σ ⟨k, ⟨h1, h2, rfl, h3⟩, rfl⟩ K' hK'
      (conv => cbv)
      obtain ⟨k, rfl⟩ := Int.eq_ofNat_of_zero_le h1
      rw [Int.toNat_natCast] at h3
      have brk : ∀ x : Int, x ≠ 0 → x = C k → (k : Int) < n → R (.one (.int .i64 x)) := fun x hx hxC hk => by
        refine fin _ ?_
        rw [lexI_at h3 (by rw [← hxC]; exact hx) (by omega), ← hxC, or2_ne hx]
      split
      · rename_i g1
        rw [hq] at g1
        ((try simp (disch := omega) only [q0, nc, w64_id, wu64_id, wu32_id, wu8_id, Int.tdiv_eq_ediv_of_nonneg, Int.tmod_eq_emod_of_nonneg, Int.ofNat_eq_natCast, Int.natAbs_natCast, decide_eq_true_eq, decide_eq_false_iff_not, Bool.not_eq_true', Bool.not_eq_false', bne_iff_ne, bne_eq_false_iff_eq, beq_iff_eq, beq_eq_false_iff_ne, ne_eq] at g1); (try replace g1 := of_decide_eq_true g1); (try replace g1 := of_decide_eq_false g1))
        refine Need.mk (by (exact ⟨by kernel_rfl, by kernel_rfl⟩)) (Need.mk (by omega) (Need.mk (by omega) ?_))
        split
        · rename_i g2
          rw [hq] at g2
          ((try simp (disch := omega) only [q0, nc, w64_id, wu64_id, wu32_id, wu8_id, Int.tdiv_eq_ediv_of_nonneg, Int.tmod_eq_emod_of_nonneg, Int.ofNat_eq_natCast, Int.natAbs_natCast, decide_eq_true_eq, decide_eq_false_iff_not, Bool.not_eq_true', Bool.not_eq_false', bne_iff_ne, bne_eq_false_iff_eq, beq_iff_eq, beq_eq_false_iff_ne, ne_eq] at g2); (try replace g2 := of_decide_eq_true g2); (try replace g2 := of_decide_eq_false g2))
          refine Need.mk (by (exact ⟨by kernel_rfl, by kernel_rfl⟩)) (Need.mk (by omega) (Need.mk (by omega) ?_))
          refine call_ordd hq hDN g2 order19_c rfl ?_
          obtain ⟨e, he⟩ : ∃ e, e = cmpZ (V1 k) (W1 k) := ⟨_, rfl⟩
          rw [← he]
          (conv => cbv)
          exact brk _ (by rw [he]; exact cmpZ_ne g2) (by rw [hC', or2_ne (cmpZ_ne g2), he]) (by omega)
        · rename_i g2
          rw [hq] at g2
          ((try simp (disch := omega) only [q0, nc, w64_id, wu64_id, wu32_id, wu8_id, Int.tdiv_eq_ediv_of_nonneg, Int.tmod_eq_emod_of_nonneg, Int.ofNat_eq_natCast, Int.natAbs_natCast, decide_eq_true_eq, decide_eq_false_iff_not, Bool.not_eq_true', Bool.not_eq_false', bne_iff_ne, bne_eq_false_iff_eq, beq_iff_eq, beq_eq_false_iff_ne, ne_eq] at g2); (try replace g2 := of_decide_eq_true g2); (try replace g2 := of_decide_eq_false g2))
          refine Need.mk (by (exact ⟨by kernel_rfl, by kernel_rfl⟩)) (Need.mk (by omega) (Need.mk (by omega) ?_))
          have hCk : C k = cmpZ (V2 k) (W2 k) := by rw [hC', g2, cmpZ_self, or2_zero]
          split
          · rename_i g3
            rw [hq] at g3
            ((try simp (disch := omega) only [q0, nc, w64_id, wu64_id, wu32_id, wu8_id, Int.tdiv_eq_ediv_of_nonneg, Int.tmod_eq_emod_of_nonneg, Int.ofNat_eq_natCast, Int.natAbs_natCast, decide_eq_true_eq, decide_eq_false_iff_not, Bool.not_eq_true', Bool.not_eq_false', bne_iff_ne, bne_eq_false_iff_eq, beq_iff_eq, beq_eq_false_iff_ne, ne_eq] at g3); (try replace g3 := of_decide_eq_true g3); (try replace g3 := of_decide_eq_false g3))
            refine Need.mk (by (exact ⟨by kernel_rfl, by kernel_rfl⟩)) (Need.mk (by omega) (Need.mk (by omega) ?_))
            refine call_ordd hq hDN g3 order19_c rfl ?_
            obtain ⟨e, he⟩ : ∃ e, e = cmpZ (V2 k) (W2 k) := ⟨_, rfl⟩
            rw [← he]
            (conv => cbv)
            exact brk _ (by rw [he]; exact cmpZ_ne g3) (by rw [hCk, he]) (by omega)
          · rename_i g3
            rw [hq] at g3
            ((try simp (disch := omega) only [q0, nc, w64_id, wu64_id, wu32_id, wu8_id, Int.tdiv_eq_ediv_of_nonneg, Int.tmod_eq_emod_of_nonneg, Int.ofNat_eq_natCast, Int.natAbs_natCast, decide_eq_true_eq, decide_eq_false_iff_not, Bool.not_eq_true', Bool.not_eq_false', bne_iff_ne, bne_eq_false_iff_eq, beq_iff_eq, beq_eq_false_iff_ne, ne_eq] at g3); (try replace g3 := of_decide_eq_true g3); (try replace g3 := of_decide_eq_false g3))
            try simp only [nc, Int.ofNat_eq_natCast]
            have ek : (q Int fun _ => IntKind.i64.wrap ((k : Int) + 1)) = k + 1 := by subst hq; (try simp (disch := omega) only [q0, nc, w64_id, wu64_id, wu32_id, wu8_id, Int.tdiv_eq_ediv_of_nonneg, Int.tmod_eq_emod_of_nonneg, Int.ofNat_eq_natCast, Int.natAbs_natCast, decide_eq_true_eq, decide_eq_false_iff_not, Bool.not_eq_true', bne_iff_ne, beq_iff_eq, ne_eq])
            rw [ek]
            refine hK' _ ⟨_, ?_, (k : Int) + 1, ⟨by omega, by omega, rfl, ?_⟩, rfl⟩
            · omega
            · rw [show ((k : Int) + 1).toNat = k + 1 by omega, lexI, h3, or2_zero, hCk, g3, cmpZ_self]
      · rename_i g1
        rw [hq] at g1
        ((try simp (disch := omega) only [q0, nc, w64_id, wu64_id, wu32_id, wu8_id, Int.tdiv_eq_ediv_of_nonneg, Int.tmod_eq_emod_of_nonneg, Int.ofNat_eq_natCast, Int.natAbs_natCast, decide_eq_true_eq, decide_eq_false_iff_not, Bool.not_eq_true', Bool.not_eq_false', bne_iff_ne, bne_eq_false_iff_eq, beq_iff_eq, beq_eq_false_iff_ne, ne_eq] at g1); (try replace g1 := of_decide_eq_true g1); (try replace g1 := of_decide_eq_false g1))
        have hk : k = n := by omega
        subst hk
        rw [h3, or2_zero] at fin
        split
        · rename_i g2
          rw [hq] at g2
          ((try simp (disch := omega) only [q0, nc, w64_id, wu64_id, wu32_id, wu8_id, Int.tdiv_eq_ediv_of_nonneg, Int.tmod_eq_emod_of_nonneg, Int.ofNat_eq_natCast, Int.natAbs_natCast, decide_eq_true_eq, decide_eq_false_iff_not, Bool.not_eq_true', Bool.not_eq_false', bne_iff_ne, bne_eq_false_iff_eq, beq_iff_eq, beq_eq_false_iff_ne, ne_eq] at g2); (try replace g2 := of_decide_eq_true g2); (try replace g2 := of_decide_eq_false g2))
          refine call_ord hq hCN g2 order19_c rfl ?_
          obtain ⟨e, he⟩ : ∃ e, e = cmpZ a b := ⟨_, rfl⟩
          rw [← he]
          (conv => cbv)
          exact fin _ he
        · rename_i g2
          rw [hq] at g2
          ((try simp (disch := omega) only [q0, nc, w64_id, wu64_id, wu32_id, wu8_id, Int.tdiv_eq_ediv_of_nonneg, Int.tmod_eq_emod_of_nonneg, Int.ofNat_eq_natCast, Int.natAbs_natCast, decide_eq_true_eq, decide_eq_false_iff_not, Bool.not_eq_true', Bool.not_eq_false', bne_iff_ne, bne_eq_false_iff_eq, beq_iff_eq, beq_eq_false_iff_ne, ne_eq] at g2); (try replace g2 := of_decide_eq_true g2); (try replace g2 := of_decide_eq_false g2))
          exact fin _ (by rw [g2, cmpZ_self])
theorem refLn_c (l m : Ln) (hl : l.Ok) : PureF Pg F.amortcostref19_Compare (fun _ => [.agg l.L, .agg m.L]) (fun _ => .one (.int .i64 (cmpLn l m))) :=
  refLn_main l.const m.const l.n m.n hl (fun i => (l.tm i).var) (fun i => (l.tm i).coef) (fun i => (m.tm i).var) (fun i => (m.tm i).coef)

set_option maxHeartbeats 4000000 in
theorem refMon_main (n m n' m' : Nat) (hn : n ≤ lenB) (hm : m ≤ lenB) (V1 V2 W1 W2 : Int → Int) (A1 A2 B1 B2 A3 A4 B3 B4 : Int → T) (C0 D0 : Int → Int)
    (h : ∀ i : Nat, i < n → n = n' → PureF Pg F.amortcostref15_Compare (fun _ => [.agg [A1 i, A2 i], .agg [B1 i, B2 i]]) (fun _ => .one (.int .i64 (C0 i))))
    (h' : ∀ i : Nat, i < m → PureF Pg F.amortcostref19_Compare (fun _ => [.agg [A3 i, A4 i], .agg [B3 i, B4 i]]) (fun _ => .one (.int .i64 (D0 i)))) :
    PureF Pg F.amortcostref20_Compare (fun q => [.agg [.sl 3 (q Int fun _ => (n : Int)) (fun i => [.int .i64 (V1 i), A1 i, A2 i]), .sl 3 (q Int fun _ => (m : Int)) (fun i => [A3 i, A4 i, .int .i64 (V2 i)])], .agg [.sl 3 (q Int fun _ => (n' : Int)) (fun i => [.int .i64 (W1 i), B1 i, B2 i]), .sl 3 (q Int fun _ => (m' : Int)) (fun i => [B3 i, B4 i, .int .i64 (W2 i)])]]) (fun _ => .one (.int .i64 (or2 (cmpZ n n') (or2 (or2 (lexI n (fun i => or2 (cmpZ (V1 i) (W1 i)) (C0 i))) (cmpZ m m')) (lexI m (fun i => or2 (D0 i) (cmpZ (V2 i) (W2 i)))))))) := by
  have hn2 : n ≤ 9223372036854775807 := hn
  have hm2 : m ≤ 9223372036854775807 := hm
  refine walkF mixed tau_ok At.amortcostref20_Compare (fun CN DN q R hCN hDN hq hR => ?_)
  obtain ⟨C, hC⟩ : ∃ C : Int → Int, C = (fun i => or2 (cmpZ (V1 i) (W1 i)) (C0 i)) := ⟨_, rfl⟩
  have hC' : ∀ i, C i = or2 (cmpZ (V1 i) (W1 i)) (C0 i) := fun i => by rw [hC]
  obtain ⟨D, hD⟩ : ∃ D : Int → Int, D = (fun i => or2 (D0 i) (cmpZ (V2 i) (W2 i))) := ⟨_, rfl⟩
  have hD' : ∀ i, D i = or2 (D0 i) (cmpZ (V2 i) (W2 i)) := fun i => by rw [hD]
  rw [← hC, ← hD] at hR
  clear hC hD
  have fin : ∀ x : Int, x = or2 (cmpZ n n') (or2 (or2 (lexI n C) (cmpZ m m')) (lexI m D)) → R (.one (.int .i64 x)) := fun x hx => hR _ (by rw [hx]; exact .refl)
  clear hR
  obtain ⟨nI, hnI⟩ : ∃ nI, nI = q Int fun _ => (n : Int) := ⟨_, rfl⟩
  obtain ⟨mI, hmI⟩ : ∃ mI, mI = q Int fun _ => (m : Int) := ⟨_, rfl⟩
  obtain ⟨nJ, hnJ⟩ : ∃ nJ, nJ = q Int fun _ => (n' : Int) := ⟨_, rfl⟩
  obtain ⟨mJ, hmJ⟩ : ∃ mJ, mJ = q Int fun _ => (m' : Int) := ⟨_, rfl⟩
  rw [← hnI, ← hmI, ← hnJ, ← hmJ]
  have hnI' : nI = n := by rw [hnI]; subst hq; rfl
  have hmI' : mI = m := by rw [hmI]; subst hq; rfl
  have hnJ' : nJ = n' := by rw [hnJ]; subst hq; rfl
  have hmJ' : mJ = m' := by rw [hmJ]; subst hq; rfl
  (conv => cbv)
  split
  · rename_i g0
    rw [hq] at g0
    ((try simp (disch := omega) only [q0, nc, w64_id, wu64_id, wu32_id, wu8_id, Int.tdiv_eq_ediv_of_nonneg, Int.tmod_eq_emod_of_nonneg, Int.ofNat_eq_natCast, Int.natAbs_natCast, decide_eq_true_eq, decide_eq_false_iff_not, Bool.not_eq_true', Bool.not_eq_false', bne_iff_ne, bne_eq_false_iff_eq, beq_iff_eq, beq_eq_false_iff_ne, ne_eq] at g0); (try replace g0 := of_decide_eq_true g0); (try replace g0 := of_decide_eq_false g0))
    refine call_ord hq hCN g0 order20_c rfl ?_
    obtain ⟨c, hc⟩ : ∃ c, c = cmpZ nI nJ := ⟨_, rfl⟩
    rw [← hc]
    (conv => cbv)
    refine fin _ ?_
    rw [hnI', hnJ'] at hc
    rw [hc, or2_ne (cmpZ_ne (by omega))]
  · rename_i g0
    rw [hq] at g0
    ((try simp (disch := omega) only [q0, nc, w64_id, wu64_id, wu32_id, wu8_id, Int.tdiv_eq_ediv_of_nonneg, Int.tmod_eq_emod_of_nonneg, Int.ofNat_eq_natCast, Int.natAbs_natCast, decide_eq_true_eq, decide_eq_false_iff_not, Bool.not_eq_true', Bool.not_eq_false', bne_iff_ne, bne_eq_false_iff_eq, beq_iff_eq, beq_eq_false_iff_ne, ne_eq] at g0); (try replace g0 := of_decide_eq_true g0); (try replace g0 := of_decide_eq_false g0))
    have hnm : n = n' := by omega
    subst hnm
    rw [cmpZ_self, or2_zero] at fin
    generalize hQ : blockK 0 (seqK _ _) = Q1
    have hret : ∀ σ, finK q tau [.tmp 4] R .ret σ → Q1 .ret σ := fun σ hσ => by rw [← hQ]; exact hσ
    have hrest : lexI n C = 0 → Q1 (.exit 0) ⟨mkS [(2, .one (.bp 1 0)), (3, .one (.bp 0 0)), (26, .one (.t (.int .i64 nI))), (27, .one (.t (.int .i64 nI)))] 0 139, [.box 85 [.t (.sl 3 nJ (fun i => [.int .i64 (W1 i), B1 i, B2 i])), .t (.sl 3 mJ (fun i => [B3 i, B4 i, .int .i64 (W2 i)]))], .box 85 [.t (.sl 3 nI (fun i => [.int .i64 (V1 i), A1 i, A2 i])), .t (.sl 3 mI (fun i => [A3 i, A4 i, .int .i64 (V2 i)]))]]⟩ := by
      intro hl
      rw [hl, or2_zero] at fin
      rw [← hQ]
      clear hQ
      (conv => cbv)
      split
      · rename_i g1
        rw [hq] at g1
        ((try simp (disch := omega) only [q0, nc, w64_id, wu64_id, wu32_id, wu8_id, Int.tdiv_eq_ediv_of_nonneg, Int.tmod_eq_emod_of_nonneg, Int.ofNat_eq_natCast, Int.natAbs_natCast, decide_eq_true_eq, decide_eq_false_iff_not, Bool.not_eq_true', Bool.not_eq_false', bne_iff_ne, bne_eq_false_iff_eq, beq_iff_eq, beq_eq_false_iff_ne, ne_eq] at g1); (try replace g1 := of_decide_eq_true g1); (try replace g1 := of_decide_eq_false g1))
        refine call_ord hq hCN g1 order20_c rfl ?_
        obtain ⟨c, hc⟩ : ∃ c, c = cmpZ mI mJ := ⟨_, rfl⟩
        rw [← hc]
        (conv => cbv)
        refine fin _ ?_
        rw [hmI', hmJ'] at hc
        rw [hc, or2_ne (cmpZ_ne (by omega))]
      · rename_i g1
        rw [hq] at g1
        ((try simp (disch := omega) only [q0, nc, w64_id, wu64_id, wu32_id, wu8_id, Int.tdiv_eq_ediv_of_nonneg, Int.tmod_eq_emod_of_nonneg, Int.ofNat_eq_natCast, Int.natAbs_natCast, decide_eq_true_eq, decide_eq_false_iff_not, Bool.not_eq_true', Bool.not_eq_false', bne_iff_ne, bne_eq_false_iff_eq, beq_iff_eq, beq_eq_false_iff_ne, ne_eq] at g1); (try replace g1 := of_decide_eq_true g1); (try replace g1 := of_decide_eq_false g1))
        have hmm : m = m' := by omega
        subst hmm
        rw [cmpZ_self, or2_zero] at fin
        refine LoopN.mk [2, 3, 91, 92] (fun d σ => ∃ k : Int, (0 ≤ k ∧ k ≤ m ∧ d = ((m : Int) - k).toNat ∧ lexI k.toNat D = 0) ∧
          σ = ⟨mkS [(2, .one (.bp 1 0)), (3, .one (.bp 0 0)), (91, .one (.t (.int .i64 mI))), (92, .one (.t (.int .i64 k)))] 0 139, [.box 85 [.t (.sl 3 nJ (fun i => [.int .i64 (W1 i), B1 i, B2 i])), .t (.sl 3 mJ (fun i => [B3 i, B4 i, .int .i64 (W2 i)]))], .box 85 [.t (.sl 3 nI (fun i => [.int .i64 (V1 i), A1 i, A2 i])), .t (.sl 3 mI (fun i => [A3 i, A4 i, .int .i64 (V2 i)]))]]⟩) ⟨m, 0, ⟨by omega, by omega, by omega, rfl⟩, ?_⟩ ?_
        · cbv
        · rintro d σ ⟨k, ⟨h1, h2, rfl, h3⟩, rfl⟩ K' hK'
          (conv => cbv)
          obtain ⟨k, rfl⟩ := Int.eq_ofNat_of_zero_le h1
          rw [Int.toNat_natCast] at h3
          have brk : ∀ x : Int, x ≠ 0 → x = D k → (k : Int) < m → R (.one (.int .i64 x)) := fun x hx hxC hk => by
            refine fin _ ?_
            rw [lexI_at h3 (by rw [← hxC]; exact hx) (by omega), ← hxC]
          split
          · rename_i g2
            rw [hq] at g2
            ((try simp (disch := omega) only [q0, nc, w64_id, wu64_id, wu32_id, wu8_id, Int.tdiv_eq_ediv_of_nonneg, Int.tmod_eq_emod_of_nonneg, Int.ofNat_eq_natCast, Int.natAbs_natCast, decide_eq_true_eq, decide_eq_false_iff_not, Bool.not_eq_true', Bool.not_eq_false', bne_iff_ne, bne_eq_false_iff_eq, beq_iff_eq, beq_eq_false_iff_ne, ne_eq] at g2); (try replace g2 := of_decide_eq_true g2); (try replace g2 := of_decide_eq_false g2))
            refine Need.mk (by (exact ⟨by kernel_rfl, by kernel_rfl⟩)) (Need.mk (by omega) (Need.mk (by omega) ?_))
            refine call_fd hq hDN (h' k (by omega)) rfl ?_
            (conv => cbv)
            try simp only [nc, Int.ofNat_eq_natCast]
            split
            · rename_i g3
              rw [hq] at g3
              ((try simp (disch := omega) only [q0, nc, w64_id, wu64_id, wu32_id, wu8_id, Int.tdiv_eq_ediv_of_nonneg, Int.tmod_eq_emod_of_nonneg, Int.ofNat_eq_natCast, Int.natAbs_natCast, decide_eq_true_eq, decide_eq_false_iff_not, Bool.not_eq_true', Bool.not_eq_false', bne_iff_ne, bne_eq_false_iff_eq, beq_iff_eq, beq_eq_false_iff_ne, ne_eq] at g3); (try replace g3 := of_decide_eq_true g3); (try replace g3 := of_decide_eq_false g3))
              exact brk _ g3 (by rw [hD', or2_ne g3]) (by omega)
            · rename_i g3
              rw [hq] at g3
              ((try simp (disch := omega) only [q0, nc, w64_id, wu64_id, wu32_id, wu8_id, Int.tdiv_eq_ediv_of_nonneg, Int.tmod_eq_emod_of_nonneg, Int.ofNat_eq_natCast, Int.natAbs_natCast, decide_eq_true_eq, decide_eq_false_iff_not, Bool.not_eq_true', Bool.not_eq_false', bne_iff_ne, bne_eq_false_iff_eq, beq_iff_eq, beq_eq_false_iff_ne, ne_eq] at g3); (try replace g3 := of_decide_eq_true g3); (try replace g3 := of_decide_eq_false g3))
              have hDk : D k = cmpZ (V2 k) (W2 k) := by rw [hD', g3, or2_zero]
              refine Need.mk (by (exact ⟨by kernel_rfl, by kernel_rfl⟩)) (Need.mk (by omega) (Need.mk (by omega) ?_))
              split
              · rename_i g4
                rw [hq] at g4
                ((try simp (disch := omega) only [q0, nc, w64_id, wu64_id, wu32_id, wu8_id, Int.tdiv_eq_ediv_of_nonneg, Int.tmod_eq_emod_of_nonneg, Int.ofNat_eq_natCast, Int.natAbs_natCast, decide_eq_true_eq, decide_eq_false_iff_not, Bool.not_eq_true', Bool.not_eq_false', bne_iff_ne, bne_eq_false_iff_eq, beq_iff_eq, beq_eq_false_iff_ne, ne_eq] at g4); (try replace g4 := of_decide_eq_true g4); (try replace g4 := of_decide_eq_false g4))
                refine Need.mk (by (exact ⟨by kernel_rfl, by kernel_rfl⟩)) (Need.mk (by omega) (Need.mk (by omega) ?_))
                refine call_ordd hq hDN g4 order20_c rfl ?_
                obtain ⟨e, he⟩ : ∃ e, e = cmpZ (V2 k) (W2 k) := ⟨_, rfl⟩
                rw [← he]
                (conv => cbv)
                exact brk _ (by rw [he]; exact cmpZ_ne g4) (by rw [hDk, he]) (by omega)
              · rename_i g4
                rw [hq] at g4
                ((try simp (disch := omega) only [q0, nc, w64_id, wu64_id, wu32_id, wu8_id, Int.tdiv_eq_ediv_of_nonneg, Int.tmod_eq_emod_of_nonneg, Int.ofNat_eq_natCast, Int.natAbs_natCast, decide_eq_true_eq, decide_eq_false_iff_not, Bool.not_eq_true', Bool.not_eq_false', bne_iff_ne, bne_eq_false_iff_eq, beq_iff_eq, beq_eq_false_iff_ne, ne_eq] at g4); (try replace g4 := of_decide_eq_true g4); (try replace g4 := of_decide_eq_false g4))
                try simp only [nc, Int.ofNat_eq_natCast]
                have ek : (q Int fun _ => IntKind.i64.wrap ((k : Int) + 1)) = k + 1 := by subst hq; (try simp (disch := omega) only [q0, nc, w64_id, wu64_id, wu32_id, wu8_id, Int.tdiv_eq_ediv_of_nonneg, Int.tmod_eq_emod_of_nonneg, Int.ofNat_eq_natCast, Int.natAbs_natCast, decide_eq_true_eq, decide_eq_false_iff_not, Bool.not_eq_true', bne_iff_ne, beq_iff_eq, ne_eq])
                rw [ek]
                refine hK' _ ⟨_, ?_, (k : Int) + 1, ⟨by omega, by omega, rfl, ?_⟩, rfl⟩
                · omega
                · rw [show ((k : Int) + 1).toNat = k + 1 by omega, lexI, h3, or2_zero, hDk, g4, cmpZ_self]
          · rename_i g2
            rw [hq] at g2
            ((try simp (disch := omega) only [q0, nc, w64_id, wu64_id, wu32_id, wu8_id, Int.tdiv_eq_ediv_of_nonneg, Int.tmod_eq_emod_of_nonneg, Int.ofNat_eq_natCast, Int.natAbs_natCast, decide_eq_true_eq, decide_eq_false_iff_not, Bool.not_eq_true', Bool.not_eq_false', bne_iff_ne, bne_eq_false_iff_eq, beq_iff_eq, beq_eq_false_iff_ne, ne_eq] at g2); (try replace g2 := of_decide_eq_true g2); (try replace g2 := of_decide_eq_false g2))
            have hk : k = m := by omega
            subst hk
            exact fin _ h3.symm
    clear hQ
    refine LoopN.mk [2, 3, 26, 27] (fun d σ => ∃ k : Int, (0 ≤ k ∧ k ≤ n ∧ d = ((n : Int) - k).toNat ∧ lexI k.toNat C = 0) ∧
      σ = ⟨mkS [(2, .one (.bp 1 0)), (3, .one (.bp 0 0)), (26, .one (.t (.int .i64 nI))), (27, .one (.t (.int .i64 k)))] 0 139, [.box 85 [.t (.sl 3 nJ (fun i => [.int .i64 (W1 i), B1 i, B2 i])), .t (.sl 3 mJ (fun i => [B3 i, B4 i, .int .i64 (W2 i)]))], .box 85 [.t (.sl 3 nI (fun i => [.int .i64 (V1 i), A1 i, A2 i])), .t (.sl 3 mI (fun i => [A3 i, A4 i, .int .i64 (V2 i)]))]]⟩) ⟨n, 0, ⟨by omega, by omega, by omega, rfl⟩, ?_⟩ ?_
    · cbv
    · rintro d σ ⟨k, ⟨h1, h2, rfl, h3⟩, rfl⟩ K' hK'
      (conv => cbv)
      obtain ⟨k, rfl⟩ := Int.eq_ofNat_of_zero_le h1
      rw [Int.toNat_natCast] at h3
      have brk : ∀ x : Int, x ≠ 0 → x = C k → (k : Int) < n → R (.one (.int .i64 x)) := fun x hx hxC hk => by
        refine fin _ ?_
        rw [lexI_at h3 (by rw [← hxC]; exact hx) (by omega), ← hxC, or2_ne hx, or2_ne hx]
      split
      · rename_i g1
        rw [hq] at g1
        ((try simp (disch := omega) only [q0, nc, w64_id, wu64_id, wu32_id, wu8_id, Int.tdiv_eq_ediv_of_nonneg, Int.tmod_eq_emod_of_nonneg, Int.ofNat_eq_natCast, Int.natAbs_natCast, decide_eq_true_eq, decide_eq_false_iff_not, Bool.not_eq_true', Bool.not_eq_false', bne_iff_ne, bne_eq_false_iff_eq, beq_iff_eq, beq_eq_false_iff_ne, ne_eq] at g1); (try replace g1 := of_decide_eq_true g1); (try replace g1 := of_decide_eq_false g1))
        refine Need.mk (by (exact ⟨by kernel_rfl, by kernel_rfl⟩)) (Need.mk (by omega) (Need.mk (by omega) ?_))
        split
        · rename_i g2
          rw [hq] at g2
          ((try simp (disch := omega) only [q0, nc, w64_id, wu64_id, wu32_id, wu8_id, Int.tdiv_eq_ediv_of_nonneg, Int.tmod_eq_emod_of_nonneg, Int.ofNat_eq_natCast, Int.natAbs_natCast, decide_eq_true_eq, decide_eq_false_iff_not, Bool.not_eq_true', Bool.not_eq_false', bne_iff_ne, bne_eq_false_iff_eq, beq_iff_eq, beq_eq_false_iff_ne, ne_eq] at g2); (try replace g2 := of_decide_eq_true g2); (try replace g2 := of_decide_eq_false g2))
          refine Need.mk (by (exact ⟨by kernel_rfl, by kernel_rfl⟩)) (Need.mk (by omega) (Need.mk (by omega) ?_))
          refine call_ordd hq hDN g2 order20_c rfl ?_
          obtain ⟨e, he⟩ : ∃ e, e = cmpZ (V1 k) (W1 k) := ⟨_, rfl⟩
          rw [← he]
          (conv => cbv)
          refine hret _ ?_
          (conv => cbv)
          exact brk _ (by rw [he]; exact cmpZ_ne g2) (by rw [hC', or2_ne (cmpZ_ne g2), he]) (by omega)
        · rename_i g2
          rw [hq] at g2
          ((try simp (disch := omega) only [q0, nc, w64_id, wu64_id, wu32_id, wu8_id, Int.tdiv_eq_ediv_of_nonneg, Int.tmod_eq_emod_of_nonneg, Int.ofNat_eq_natCast, Int.natAbs_natCast, decide_eq_true_eq, decide_eq_false_iff_not, Bool.not_eq_true', Bool.not_eq_false', bne_iff_ne, bne_eq_false_iff_eq, beq_iff_eq, beq_eq_false_iff_ne, ne_eq] at g2); (try replace g2 := of_decide_eq_true g2); (try replace g2 := of_decide_eq_false g2))
          have hCk : C k = C0 k := by rw [hC', g2, cmpZ_self, or2_zero]
          refine Need.mk (by (exact ⟨by kernel_rfl, by kernel_rfl⟩)) (Need.mk (by omega) (Need.mk (by omega) ?_))
          refine call_fd hq hDN (h k (by omega) rfl) rfl ?_
          (conv => cbv)
          try simp only [nc, Int.ofNat_eq_natCast]
          split
          · rename_i g3
            rw [hq] at g3
            ((try simp (disch := omega) only [q0, nc, w64_id, wu64_id, wu32_id, wu8_id, Int.tdiv_eq_ediv_of_nonneg, Int.tmod_eq_emod_of_nonneg, Int.ofNat_eq_natCast, Int.natAbs_natCast, decide_eq_true_eq, decide_eq_false_iff_not, Bool.not_eq_true', Bool.not_eq_false', bne_iff_ne, bne_eq_false_iff_eq, beq_iff_eq, beq_eq_false_iff_ne, ne_eq] at g3); (try replace g3 := of_decide_eq_true g3); (try replace g3 := of_decide_eq_false g3))
            refine hret _ ?_
            (conv => cbv)
            exact brk _ g3 hCk.symm (by omega)
          · rename_i g3
            rw [hq] at g3
            ((try simp (disch := omega) only [q0, nc, w64_id, wu64_id, wu32_id, wu8_id, Int.tdiv_eq_ediv_of_nonneg, Int.tmod_eq_emod_of_nonneg, Int.ofNat_eq_natCast, Int.natAbs_natCast, decide_eq_true_eq, decide_eq_false_iff_not, Bool.not_eq_true', Bool.not_eq_false', bne_iff_ne, bne_eq_false_iff_eq, beq_iff_eq, beq_eq_false_iff_ne, ne_eq] at g3); (try replace g3 := of_decide_eq_true g3); (try replace g3 := of_decide_eq_false g3))
            try simp only [nc, Int.ofNat_eq_natCast]
            have ek : (q Int fun _ => IntKind.i64.wrap ((k : Int) + 1)) = k + 1 := by subst hq; (try simp (disch := omega) only [q0, nc, w64_id, wu64_id, wu32_id, wu8_id, Int.tdiv_eq_ediv_of_nonneg, Int.tmod_eq_emod_of_nonneg, Int.ofNat_eq_natCast, Int.natAbs_natCast, decide_eq_true_eq, decide_eq_false_iff_not, Bool.not_eq_true', bne_iff_ne, beq_iff_eq, ne_eq])
            rw [ek]
            refine hK' _ ⟨_, ?_, (k : Int) + 1, ⟨by omega, by omega, rfl, ?_⟩, rfl⟩
            · omega
            · rw [show ((k : Int) + 1).toNat = k + 1 by omega, lexI, h3, or2_zero, hCk, g3]
      · rename_i g1
        rw [hq] at g1
        ((try simp (disch := omega) only [q0, nc, w64_id, wu64_id, wu32_id, wu8_id, Int.tdiv_eq_ediv_of_nonneg, Int.tmod_eq_emod_of_nonneg, Int.ofNat_eq_natCast, Int.natAbs_natCast, decide_eq_true_eq, decide_eq_false_iff_not, Bool.not_eq_true', Bool.not_eq_false', bne_iff_ne, bne_eq_false_iff_eq, beq_iff_eq, beq_eq_false_iff_ne, ne_eq] at g1); (try replace g1 := of_decide_eq_true g1); (try replace g1 := of_decide_eq_false g1))
        have hk : (k : Int) = nI := by omega
        rw [hk]
        exact hrest (by rw [show n = k by omega]; exact h3)
theorem refMon_c (a b : Mon) (ha : a.Ok) (hb : b.Ok) : PureF Pg F.amortcostref20_Compare (fun _ => [.agg a.L, .agg b.L]) (fun _ => .one (.int .i64 (cmpMon a b))) :=
  refMon_main a.nf a.na b.nf b.na ha.nf ha.na (fun i => (a.fc i).var) (fun i => (a.am i).deg) (fun i => (b.fc i).var) (fun i => (b.am i).deg) (fun i => .int .i64 (a.fc i).ix.num) (fun i => (a.fc i).ix.T) (fun i => .int .i64 (b.fc i).ix.num) (fun i => (b.fc i).ix.T)
    (fun i => .int .i64 (a.am i).lin.const) (fun i => .sl 2 (a.am i).lin.n (fun j => ((a.am i).lin.tm j).L)) (fun i => .int .i64 (b.am i).lin.const) (fun i => .sl 2 (b.am i).lin.n (fun j => ((b.am i).lin.tm j).L))
    (fun i => cmpIx (a.fc i).ix (b.fc i).ix) (fun i => cmpLn (a.am i).lin (b.am i).lin) (fun i hi hnn => refIx_c _ (ha.fc i hi) _ (hb.fc i (by omega))) (fun i hi => refLn_c _ _ (ha.am i hi))
end Sx

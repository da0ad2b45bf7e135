/- A part of the proof of PolyReadsSaid: texts SxCmp2. -/
import Derived.Test.YtlnpmgmpakjhgaaGreatSxBL
import Derived.Test.YtlnpmgmpakjhgaaGreatSxAV
set_option linter.all false
set_option maxRecDepth 100000
namespace Sx
open Go

theorem cf_lt {CN : CNt} {q : Qt} (hq : q = q0) (hCN : CN = CallN Pg) (n : Nat) (hn : n ≤ lenB) (clo : Nat) (A0 A1 B0 B1 : Int → T) (C : Int → Int) {nI mI : Int} (hnI : nI = n) (hmI : mI = n) {ta tb : Nat} {a1 a2 b1 b2 : T}
    (h : ∀ i : Nat, i < n → PureF Pg clo (fun _ => [.agg [A0 i, A1 i], .agg [B0 i, B1 i]]) (fun _ => .one (.int .i64 (C i)))) {K : AV → List Blk → Prop} (hK : K (.one (.t (.int .i64 (lexI n C)))) [.box ta [.t a1, .t a2], .box tb [.t b1, .t b2]]) :
    CN F.slices_CompareFunc_api_LinTerm_api_LinTerm_api_LinTerm_api_LinTerm [.one (.t (.sl 2 nI (fun i => [A0 i, A1 i]))), .one (.t (.sl 2 mI (fun i => [B0 i, B1 i]))), .one (.fn clo [])] [.box ta [.t a1, .t a2], .box tb [.t b1, .t b2]] K := by
  have hn2 : n ≤ 9223372036854775807 := hn
  have fin : ∀ x : Int, x = lexI n C → K (.one (.t (.int .i64 x))) [.box ta [.t a1, .t a2], .box tb [.t b1, .t b2]] := fun x hx => by rw [hx]; exact hK
  refine call_ing mixed tau_ok At.slices_CompareFunc_api_LinTerm_api_LinTerm_api_LinTerm_api_LinTerm hq hCN rfl (fun DN hDN => ?_)
  (conv => cbv)
  refine LoopN.mk [0, 1, 2, 11, 12, 13] (fun d σ => ∃ k : Int, (0 ≤ k ∧ k ≤ n ∧ d = ((n : Int) - k).toNat ∧ lexI k.toNat C = 0) ∧
    σ = ⟨mkS [(0, .one (.t (.sl 2 nI (fun i => [A0 i, A1 i])))), (1, .one (.t (.sl 2 mI (fun i => [B0 i, B1 i])))), (2, .one (.fn clo [])), (11, .one (.t (.sl 2 nI (fun i => [A0 i, A1 i])))), (12, .one (.t (.int .i64 nI))), (13, .one (.t (.int .i64 k)))] 0 39, [.box ta [.t a1, .t a2], .box tb [.t b1, .t b2]]⟩) ⟨n, 0, ⟨by omega, by omega, by omega, rfl⟩, ?_⟩ ?_
  · cbv
  · rintro d σ ⟨k, ⟨h1, h2, rfl, h3⟩, rfl⟩ K' hK'
    (conv => cbv)
    obtain ⟨k, rfl⟩ := Int.eq_ofNat_of_zero_le h1
    rw [Int.toNat_natCast] at h3
    split
    · rename_i g0
      rw [hq] at g0
      ((try simp (disch := omega) only [q0, nc, w64_id, wu64_id, wu32_id, wu8_id, Int.tdiv_eq_ediv_of_nonneg, Int.tmod_eq_emod_of_nonneg, Int.ofNat_eq_natCast, Int.natAbs_natCast, decide_eq_true_eq, decide_eq_false_iff_not, Bool.not_eq_true', Bool.not_eq_false', bne_iff_ne, bne_eq_false_iff_eq, beq_iff_eq, beq_eq_false_iff_ne, ne_eq] at g0); (try replace g0 := of_decide_eq_true g0); (try replace g0 := of_decide_eq_false g0))
      refine Need.mk (by omega) ?_
      split
      · rename_i g1
        rw [hq] at g1
        ((try simp (disch := omega) only [q0, nc, w64_id, wu64_id, wu32_id, wu8_id, Int.tdiv_eq_ediv_of_nonneg, Int.tmod_eq_emod_of_nonneg, Int.ofNat_eq_natCast, Int.natAbs_natCast, decide_eq_true_eq, decide_eq_false_iff_not, Bool.not_eq_true', Bool.not_eq_false', bne_iff_ne, bne_eq_false_iff_eq, beq_iff_eq, beq_eq_false_iff_ne, ne_eq] at g1); (try replace g1 := of_decide_eq_true g1); (try replace g1 := of_decide_eq_false g1))
        omega
      · rename_i g1
        refine Need.mk (by omega) ?_
        refine call_fn hq hCN (h k (by omega)) rfl ?_
        (conv => cbv)
        split
        · rename_i g2
          rw [hq] at g2
          ((try simp (disch := omega) only [q0, nc, w64_id, wu64_id, wu32_id, wu8_id, Int.tdiv_eq_ediv_of_nonneg, Int.tmod_eq_emod_of_nonneg, Int.ofNat_eq_natCast, Int.natAbs_natCast, decide_eq_true_eq, decide_eq_false_iff_not, Bool.not_eq_true', Bool.not_eq_false', bne_iff_ne, bne_eq_false_iff_eq, beq_iff_eq, beq_eq_false_iff_ne, ne_eq] at g2); (try replace g2 := of_decide_eq_true g2); (try replace g2 := of_decide_eq_false g2))
          exact fin _ (lexI_at h3 g2 (by omega)).symm
        · rename_i g2
          rw [hq] at g2
          ((try simp (disch := omega) only [q0, nc, w64_id, wu64_id, wu32_id, wu8_id, Int.tdiv_eq_ediv_of_nonneg, Int.tmod_eq_emod_of_nonneg, Int.ofNat_eq_natCast, Int.natAbs_natCast, decide_eq_true_eq, decide_eq_false_iff_not, Bool.not_eq_true', Bool.not_eq_false', bne_iff_ne, bne_eq_false_iff_eq, beq_iff_eq, beq_eq_false_iff_ne, ne_eq] at g2); (try replace g2 := of_decide_eq_true g2); (try replace g2 := of_decide_eq_false g2))
          simp only [nc, Int.ofNat_eq_natCast]
          have ek : (q Int fun _ => IntKind.i64.wrap ((k : Int) + 1)) = k + 1 := by subst hq; (try simp (disch := omega) only [q0, nc, w64_id, wu64_id, wu32_id, wu8_id, Int.tdiv_eq_ediv_of_nonneg, Int.tmod_eq_emod_of_nonneg, Int.ofNat_eq_natCast, Int.natAbs_natCast, decide_eq_true_eq, decide_eq_false_iff_not, Bool.not_eq_true', bne_iff_ne, beq_iff_eq, ne_eq])
          rw [ek]
          refine hK' _ ⟨_, ?_, (k : Int) + 1, ⟨by omega, by omega, rfl, ?_⟩, rfl⟩
          · omega
          · rw [show ((k : Int) + 1).toNat = k + 1 by omega, lexI, h3, or2_zero, g2]
    · rename_i g0
      rw [hq] at g0
      ((try simp (disch := omega) only [q0, nc, w64_id, wu64_id, wu32_id, wu8_id, Int.tdiv_eq_ediv_of_nonneg, Int.tmod_eq_emod_of_nonneg, Int.ofNat_eq_natCast, Int.natAbs_natCast, decide_eq_true_eq, decide_eq_false_iff_not, Bool.not_eq_true', Bool.not_eq_false', bne_iff_ne, bne_eq_false_iff_eq, beq_iff_eq, beq_eq_false_iff_ne, ne_eq] at g0); (try replace g0 := of_decide_eq_true g0); (try replace g0 := of_decide_eq_false g0))
      have hk : k = n := by omega
      subst hk
      split
      · rename_i g1
        rw [hq] at g1
        ((try simp (disch := omega) only [q0, nc, w64_id, wu64_id, wu32_id, wu8_id, Int.tdiv_eq_ediv_of_nonneg, Int.tmod_eq_emod_of_nonneg, Int.ofNat_eq_natCast, Int.natAbs_natCast, decide_eq_true_eq, decide_eq_false_iff_not, Bool.not_eq_true', Bool.not_eq_false', bne_iff_ne, bne_eq_false_iff_eq, beq_iff_eq, beq_eq_false_iff_ne, ne_eq] at g1); (try replace g1 := of_decide_eq_true g1); (try replace g1 := of_decide_eq_false g1))
        omega
      · exact fin _ h3.symm

theorem cf_fc {CN : CNt} {q : Qt} (hq : q = q0) (hCN : CN = CallN Pg) (n : Nat) (hn : n ≤ lenB) (clo : Nat) (A0 A1 A2 B0 B1 B2 : Int → T) (C : Int → Int) {nI mI : Int} (hnI : nI = n) (hmI : mI = n) {ta tb : Nat} {a1 a2 b1 b2 : T}
    (h : ∀ i : Nat, i < n → PureF Pg clo (fun _ => [.agg [A0 i, A1 i, A2 i], .agg [B0 i, B1 i, B2 i]]) (fun _ => .one (.int .i64 (C i)))) {K : AV → List Blk → Prop} (hK : K (.one (.t (.int .i64 (lexI n C)))) [.box ta [.t a1, .t a2], .box tb [.t b1, .t b2]]) :
    CN F.slices_CompareFunc_api_Factor_api_Factor_api_Factor_api_Factor [.one (.t (.sl 3 nI (fun i => [A0 i, A1 i, A2 i]))), .one (.t (.sl 3 mI (fun i => [B0 i, B1 i, B2 i]))), .one (.fn clo [])] [.box ta [.t a1, .t a2], .box tb [.t b1, .t b2]] K := by
  have hn2 : n ≤ 9223372036854775807 := hn
  have fin : ∀ x : Int, x = lexI n C → K (.one (.t (.int .i64 x))) [.box ta [.t a1, .t a2], .box tb [.t b1, .t b2]] := fun x hx => by rw [hx]; exact hK
  refine call_ing mixed tau_ok At.slices_CompareFunc_api_Factor_api_Factor_api_Factor_api_Factor hq hCN rfl (fun DN hDN => ?_)
  (conv => cbv)
  refine LoopN.mk [0, 1, 2, 11, 12, 13] (fun d σ => ∃ k : Int, (0 ≤ k ∧ k ≤ n ∧ d = ((n : Int) - k).toNat ∧ lexI k.toNat C = 0) ∧
    σ = ⟨mkS [(0, .one (.t (.sl 3 nI (fun i => [A0 i, A1 i, A2 i])))), (1, .one (.t (.sl 3 mI (fun i => [B0 i, B1 i, B2 i])))), (2, .one (.fn clo [])), (11, .one (.t (.sl 3 nI (fun i => [A0 i, A1 i, A2 i])))), (12, .one (.t (.int .i64 nI))), (13, .one (.t (.int .i64 k)))] 0 39, [.box ta [.t a1, .t a2], .box tb [.t b1, .t b2]]⟩) ⟨n, 0, ⟨by omega, by omega, by omega, rfl⟩, ?_⟩ ?_
  · cbv
  · rintro d σ ⟨k, ⟨h1, h2, rfl, h3⟩, rfl⟩ K' hK'
    (conv => cbv)
    obtain ⟨k, rfl⟩ := Int.eq_ofNat_of_zero_le h1
    rw [Int.toNat_natCast] at h3
    split
    · rename_i g0
      rw [hq] at g0
      ((try simp (disch := omega) only [q0, nc, w64_id, wu64_id, wu32_id, wu8_id, Int.tdiv_eq_ediv_of_nonneg, Int.tmod_eq_emod_of_nonneg, Int.ofNat_eq_natCast, Int.natAbs_natCast, decide_eq_true_eq, decide_eq_false_iff_not, Bool.not_eq_true', Bool.not_eq_false', bne_iff_ne, bne_eq_false_iff_eq, beq_iff_eq, beq_eq_false_iff_ne, ne_eq] at g0); (try replace g0 := of_decide_eq_true g0); (try replace g0 := of_decide_eq_false g0))
      refine Need.mk (by omega) ?_
      split
      · rename_i g1
        rw [hq] at g1
        ((try simp (disch := omega) only [q0, nc, w64_id, wu64_id, wu32_id, wu8_id, Int.tdiv_eq_ediv_of_nonneg, Int.tmod_eq_emod_of_nonneg, Int.ofNat_eq_natCast, Int.natAbs_natCast, decide_eq_true_eq, decide_eq_false_iff_not, Bool.not_eq_true', Bool.not_eq_false', bne_iff_ne, bne_eq_false_iff_eq, beq_iff_eq, beq_eq_false_iff_ne, ne_eq] at g1); (try replace g1 := of_decide_eq_true g1); (try replace g1 := of_decide_eq_false g1))
        omega
      · rename_i g1
        refine Need.mk (by omega) ?_
        refine call_fn hq hCN (h k (by omega)) rfl ?_
        (conv => cbv)
        split
        · rename_i g2
          rw [hq] at g2
          ((try simp (disch := omega) only [q0, nc, w64_id, wu64_id, wu32_id, wu8_id, Int.tdiv_eq_ediv_of_nonneg, Int.tmod_eq_emod_of_nonneg, Int.ofNat_eq_natCast, Int.natAbs_natCast, decide_eq_true_eq, decide_eq_false_iff_not, Bool.not_eq_true', Bool.not_eq_false', bne_iff_ne, bne_eq_false_iff_eq, beq_iff_eq, beq_eq_false_iff_ne, ne_eq] at g2); (try replace g2 := of_decide_eq_true g2); (try replace g2 := of_decide_eq_false g2))
          exact fin _ (lexI_at h3 g2 (by omega)).symm
        · rename_i g2
          rw [hq] at g2
          ((try simp (disch := omega) only [q0, nc, w64_id, wu64_id, wu32_id, wu8_id, Int.tdiv_eq_ediv_of_nonneg, Int.tmod_eq_emod_of_nonneg, Int.ofNat_eq_natCast, Int.natAbs_natCast, decide_eq_true_eq, decide_eq_false_iff_not, Bool.not_eq_true', Bool.not_eq_false', bne_iff_ne, bne_eq_false_iff_eq, beq_iff_eq, beq_eq_false_iff_ne, ne_eq] at g2); (try replace g2 := of_decide_eq_true g2); (try replace g2 := of_decide_eq_false g2))
          simp only [nc, Int.ofNat_eq_natCast]
          have ek : (q Int fun _ => IntKind.i64.wrap ((k : Int) + 1)) = k + 1 := by subst hq; (try simp (disch := omega) only [q0, nc, w64_id, wu64_id, wu32_id, wu8_id, Int.tdiv_eq_ediv_of_nonneg, Int.tmod_eq_emod_of_nonneg, Int.ofNat_eq_natCast, Int.natAbs_natCast, decide_eq_true_eq, decide_eq_false_iff_not, Bool.not_eq_true', bne_iff_ne, beq_iff_eq, ne_eq])
          rw [ek]
          refine hK' _ ⟨_, ?_, (k : Int) + 1, ⟨by omega, by omega, rfl, ?_⟩, rfl⟩
          · omega
          · rw [show ((k : Int) + 1).toNat = k + 1 by omega, lexI, h3, or2_zero, g2]
    · rename_i g0
      rw [hq] at g0
      ((try simp (disch := omega) only [q0, nc, w64_id, wu64_id, wu32_id, wu8_id, Int.tdiv_eq_ediv_of_nonneg, Int.tmod_eq_emod_of_nonneg, Int.ofNat_eq_natCast, Int.natAbs_natCast, decide_eq_true_eq, decide_eq_false_iff_not, Bool.not_eq_true', Bool.not_eq_false', bne_iff_ne, bne_eq_false_iff_eq, beq_iff_eq, beq_eq_false_iff_ne, ne_eq] at g0); (try replace g0 := of_decide_eq_true g0); (try replace g0 := of_decide_eq_false g0))
      have hk : k = n := by omega
      subst hk
      split
      · rename_i g1
        rw [hq] at g1
        ((try simp (disch := omega) only [q0, nc, w64_id, wu64_id, wu32_id, wu8_id, Int.tdiv_eq_ediv_of_nonneg, Int.tmod_eq_emod_of_nonneg, Int.ofNat_eq_natCast, Int.natAbs_natCast, decide_eq_true_eq, decide_eq_false_iff_not, Bool.not_eq_true', Bool.not_eq_false', bne_iff_ne, bne_eq_false_iff_eq, beq_iff_eq, beq_eq_false_iff_ne, ne_eq] at g1); (try replace g1 := of_decide_eq_true g1); (try replace g1 := of_decide_eq_false g1))
        omega
      · exact fin _ h3.symm

theorem cf_am {CN : CNt} {q : Qt} (hq : q = q0) (hCN : CN = CallN Pg) (n : Nat) (hn : n ≤ lenB) (clo : Nat) (A0 A1 A2 B0 B1 B2 : Int → T) (C : Int → Int) {nI mI : Int} (hnI : nI = n) (hmI : mI = n) {ta tb : Nat} {a1 a2 b1 b2 : T}
    (h : ∀ i : Nat, i < n → PureF Pg clo (fun _ => [.agg [A0 i, A1 i, A2 i], .agg [B0 i, B1 i, B2 i]]) (fun _ => .one (.int .i64 (C i)))) {K : AV → List Blk → Prop} (hK : K (.one (.t (.int .i64 (lexI n C)))) [.box ta [.t a1, .t a2], .box tb [.t b1, .t b2]]) :
    CN F.slices_CompareFunc_api_Atom_api_Atom_api_Atom_api_Atom [.one (.t (.sl 3 nI (fun i => [A0 i, A1 i, A2 i]))), .one (.t (.sl 3 mI (fun i => [B0 i, B1 i, B2 i]))), .one (.fn clo [])] [.box ta [.t a1, .t a2], .box tb [.t b1, .t b2]] K := by
  have hn2 : n ≤ 9223372036854775807 := hn
  have fin : ∀ x : Int, x = lexI n C → K (.one (.t (.int .i64 x))) [.box ta [.t a1, .t a2], .box tb [.t b1, .t b2]] := fun x hx => by rw [hx]; exact hK
  refine call_ing mixed tau_ok At.slices_CompareFunc_api_Atom_api_Atom_api_Atom_api_Atom hq hCN rfl (fun DN hDN => ?_)
  (conv => cbv)
  refine LoopN.mk [0, 1, 2, 11, 12, 13] (fun d σ => ∃ k : Int, (0 ≤ k ∧ k ≤ n ∧ d = ((n : Int) - k).toNat ∧ lexI k.toNat C = 0) ∧
    σ = ⟨mkS [(0, .one (.t (.sl 3 nI (fun i => [A0 i, A1 i, A2 i])))), (1, .one (.t (.sl 3 mI (fun i => [B0 i, B1 i, B2 i])))), (2, .one (.fn clo [])), (11, .one (.t (.sl 3 nI (fun i => [A0 i, A1 i, A2 i])))), (12, .one (.t (.int .i64 nI))), (13, .one (.t (.int .i64 k)))] 0 39, [.box ta [.t a1, .t a2], .box tb [.t b1, .t b2]]⟩) ⟨n, 0, ⟨by omega, by omega, by omega, rfl⟩, ?_⟩ ?_
  · cbv
  · rintro d σ ⟨k, ⟨h1, h2, rfl, h3⟩, rfl⟩ K' hK'
    (conv => cbv)
    obtain ⟨k, rfl⟩ := Int.eq_ofNat_of_zero_le h1
    rw [Int.toNat_natCast] at h3
    split
    · rename_i g0
      rw [hq] at g0
      ((try simp (disch := omega) only [q0, nc, w64_id, wu64_id, wu32_id, wu8_id, Int.tdiv_eq_ediv_of_nonneg, Int.tmod_eq_emod_of_nonneg, Int.ofNat_eq_natCast, Int.natAbs_natCast, decide_eq_true_eq, decide_eq_false_iff_not, Bool.not_eq_true', Bool.not_eq_false', bne_iff_ne, bne_eq_false_iff_eq, beq_iff_eq, beq_eq_false_iff_ne, ne_eq] at g0); (try replace g0 := of_decide_eq_true g0); (try replace g0 := of_decide_eq_false g0))
      refine Need.mk (by omega) ?_
      split
      · rename_i g1
        rw [hq] at g1
        ((try simp (disch := omega) only [q0, nc, w64_id, wu64_id, wu32_id, wu8_id, Int.tdiv_eq_ediv_of_nonneg, Int.tmod_eq_emod_of_nonneg, Int.ofNat_eq_natCast, Int.natAbs_natCast, decide_eq_true_eq, decide_eq_false_iff_not, Bool.not_eq_true', Bool.not_eq_false', bne_iff_ne, bne_eq_false_iff_eq, beq_iff_eq, beq_eq_false_iff_ne, ne_eq] at g1); (try replace g1 := of_decide_eq_true g1); (try replace g1 := of_decide_eq_false g1))
        omega
      · rename_i g1
        refine Need.mk (by omega) ?_
        refine call_fn hq hCN (h k (by omega)) rfl ?_
        (conv => cbv)
        split
        · rename_i g2
          rw [hq] at g2
          ((try simp (disch := omega) only [q0, nc, w64_id, wu64_id, wu32_id, wu8_id, Int.tdiv_eq_ediv_of_nonneg, Int.tmod_eq_emod_of_nonneg, Int.ofNat_eq_natCast, Int.natAbs_natCast, decide_eq_true_eq, decide_eq_false_iff_not, Bool.not_eq_true', Bool.not_eq_false', bne_iff_ne, bne_eq_false_iff_eq, beq_iff_eq, beq_eq_false_iff_ne, ne_eq] at g2); (try replace g2 := of_decide_eq_true g2); (try replace g2 := of_decide_eq_false g2))
          exact fin _ (lexI_at h3 g2 (by omega)).symm
        · rename_i g2
          rw [hq] at g2
          ((try simp (disch := omega) only [q0, nc, w64_id, wu64_id, wu32_id, wu8_id, Int.tdiv_eq_ediv_of_nonneg, Int.tmod_eq_emod_of_nonneg, Int.ofNat_eq_natCast, Int.natAbs_natCast, decide_eq_true_eq, decide_eq_false_iff_not, Bool.not_eq_true', Bool.not_eq_false', bne_iff_ne, bne_eq_false_iff_eq, beq_iff_eq, beq_eq_false_iff_ne, ne_eq] at g2); (try replace g2 := of_decide_eq_true g2); (try replace g2 := of_decide_eq_false g2))
          simp only [nc, Int.ofNat_eq_natCast]
          have ek : (q Int fun _ => IntKind.i64.wrap ((k : Int) + 1)) = k + 1 := by subst hq; (try simp (disch := omega) only [q0, nc, w64_id, wu64_id, wu32_id, wu8_id, Int.tdiv_eq_ediv_of_nonneg, Int.tmod_eq_emod_of_nonneg, Int.ofNat_eq_natCast, Int.natAbs_natCast, decide_eq_true_eq, decide_eq_false_iff_not, Bool.not_eq_true', bne_iff_ne, beq_iff_eq, ne_eq])
          rw [ek]
          refine hK' _ ⟨_, ?_, (k : Int) + 1, ⟨by omega, by omega, rfl, ?_⟩, rfl⟩
          · omega
          · rw [show ((k : Int) + 1).toNat = k + 1 by omega, lexI, h3, or2_zero, g2]
    · rename_i g0
      rw [hq] at g0
      ((try simp (disch := omega) only [q0, nc, w64_id, wu64_id, wu32_id, wu8_id, Int.tdiv_eq_ediv_of_nonneg, Int.tmod_eq_emod_of_nonneg, Int.ofNat_eq_natCast, Int.natAbs_natCast, decide_eq_true_eq, decide_eq_false_iff_not, Bool.not_eq_true', Bool.not_eq_false', bne_iff_ne, bne_eq_false_iff_eq, beq_iff_eq, beq_eq_false_iff_ne, ne_eq] at g0); (try replace g0 := of_decide_eq_true g0); (try replace g0 := of_decide_eq_false g0))
      have hk : k = n := by omega
      subst hk
      split
      · rename_i g1
        rw [hq] at g1
        ((try simp (disch := omega) only [q0, nc, w64_id, wu64_id, wu32_id, wu8_id, Int.tdiv_eq_ediv_of_nonneg, Int.tmod_eq_emod_of_nonneg, Int.ofNat_eq_natCast, Int.natAbs_natCast, decide_eq_true_eq, decide_eq_false_iff_not, Bool.not_eq_true', Bool.not_eq_false', bne_iff_ne, bne_eq_false_iff_eq, beq_iff_eq, beq_eq_false_iff_ne, ne_eq] at g1); (try replace g1 := of_decide_eq_true g1); (try replace g1 := of_decide_eq_false g1))
        omega
      · exact fin _ h3.symm
end Sx

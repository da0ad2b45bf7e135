/- A part of the proof of PolyReadsSaid: texts SxReads2. -/
import Derived.Test.YtlnpmgmpakjhgaaGreatSxBU
import Derived.Test.YtlnpmgmpakjhgaaGreatSxAV
set_option linter.all false
set_option maxRecDepth 100000
namespace Sx
open Go

def anyB (b : Int → Bool) : Nat → Bool
  | 0 => false
  | k + 1 => anyB b k || b k
theorem anyB_hit {b : Int → Bool} {k : Nat} (h : b k = true) : ∀ {n : Nat}, k < n → anyB b n = true
  | 0, hk => absurd hk (by omega)
  | n + 1, hk => by
    rw [anyB]
    by_cases e : k = n
    · subst e; rw [h, Bool.or_true]
    · rw [anyB_hit h (by omega), Bool.true_or]
theorem anyB_congr {b c : Int → Bool} : ∀ {n : Nat}, (∀ i : Nat, i < n → b i = c i) → anyB b n = anyB c n
  | 0, _ => rfl
  | n + 1, h => by rw [anyB, anyB, anyB_congr (fun i hi => h i (by omega)), h n (by omega)]

theorem any_nn {CN : CNt} {q : Qt} (hq : q = q0) (hCN : CN = CallN Pg) (n : Nat) (hn : n ≤ lenB) (clo : Nat) (A0 A1 A2 A3 A4 : Int → T) (b : Int → Bool) {nI : Int} (hnI : nI = n)
    (h : ∀ i : Nat, i < n → ∀ K' : AV → List Blk → Prop, K' (.one (.t (.bool (b i)))) [] → CN clo [.agg [.t (A0 i), .t (A1 i), .t (A2 i), .t (A3 i), .t (A4 i)]] [] K')
    {K : AV → List Blk → Prop} (hK : ∀ x : Bool, x = anyB b n → K (.one (.t (.bool x))) []) :
    CN F.slices_ContainsFunc_api_Term_api_Term [.one (.t (.sl 5 nI (fun i => [A0 i, A1 i, A2 i, A3 i, A4 i]))), .one (.fn clo [])] [] K := by
  have hn2 : n ≤ 9223372036854775807 := hn
  refine call_ing mixed tau_ok At.slices_ContainsFunc_api_Term_api_Term hq hCN rfl (fun DN hDN => ?_)
  (conv => cbv)
  refine call_ing mixed tau_ok At.slices_IndexFunc_api_Term_api_Term hq hCN rfl (fun DN hDN => ?_)
  (conv => cbv)
  refine LoopN.mk [0, 1, 6, 7, 8] (fun d σ => ∃ k : Int, (0 ≤ k ∧ k ≤ n ∧ d = ((n : Int) - k).toNat ∧ anyB b k.toNat = false) ∧
    σ = ⟨mkS [(0, .one (.t (.sl 5 nI (fun i => [A0 i, A1 i, A2 i, A3 i, A4 i])))), (1, .one (.fn clo [])), (6, .one (.t (.sl 5 nI (fun i => [A0 i, A1 i, A2 i, A3 i, A4 i])))), (7, .one (.t (.int .i64 nI))), (8, .one (.t (.int .i64 k)))] 0 19, []⟩) ⟨n, 0, ⟨by omega, by omega, by omega, rfl⟩, ?_⟩ ?_
  · cbv
  · rintro d σ ⟨k, ⟨h1, h2, rfl, h3⟩, rfl⟩ K' hK'
    (conv => cbv)
    obtain ⟨k, rfl⟩ := Int.eq_ofNat_of_zero_le h1
    rw [Int.toNat_natCast] at h3
    split
    · rename_i g0
      rw [hq] at g0
      ((try simp (disch := omega) only [q0, nc, w64_id, wu64_id, wu32_id, wu8_id, Int.tdiv_eq_ediv_of_nonneg, Int.tmod_eq_emod_of_nonneg, Int.ofNat_eq_natCast, Int.natAbs_natCast, decide_eq_true_eq, decide_eq_false_iff_not, Bool.not_eq_true', Bool.not_eq_false', bne_iff_ne, bne_eq_false_iff_eq, beq_iff_eq, beq_eq_false_iff_ne, ne_eq] at g0); (try replace g0 := of_decide_eq_true g0); (try replace g0 := of_decide_eq_false g0))
      refine Need.mk (by omega) ?_
      refine h k (by omega) _ ?_
      (conv => cbv)
      try simp only [nc, Int.ofNat_eq_natCast]
      split
      · rename_i g1
        refine hK _ ?_
        rw [anyB_hit g1 (by omega)]
        subst hq
        simp only [q0, decide_eq_true_eq]
        omega
      · rename_i g1
        have ek : (q Int fun _ => IntKind.i64.wrap ((k : Int) + 1)) = k + 1 := by subst hq; (try simp (disch := omega) only [q0, nc, w64_id, wu64_id, wu32_id, wu8_id, Int.tdiv_eq_ediv_of_nonneg, Int.tmod_eq_emod_of_nonneg, Int.ofNat_eq_natCast, Int.natAbs_natCast, decide_eq_true_eq, decide_eq_false_iff_not, Bool.not_eq_true', bne_iff_ne, beq_iff_eq, ne_eq])
        rw [ek]
        refine hK' _ ⟨_, ?_, (k : Int) + 1, ⟨by omega, by omega, rfl, ?_⟩, rfl⟩
        · omega
        · rw [show ((k : Int) + 1).toNat = k + 1 by omega, anyB, h3, g1]
          rfl
    · rename_i g0
      rw [hq] at g0
      ((try simp (disch := omega) only [q0, nc, w64_id, wu64_id, wu32_id, wu8_id, Int.tdiv_eq_ediv_of_nonneg, Int.tmod_eq_emod_of_nonneg, Int.ofNat_eq_natCast, Int.natAbs_natCast, decide_eq_true_eq, decide_eq_false_iff_not, Bool.not_eq_true', Bool.not_eq_false', bne_iff_ne, bne_eq_false_iff_eq, beq_iff_eq, beq_eq_false_iff_ne, ne_eq] at g0); (try replace g0 := of_decide_eq_true g0); (try replace g0 := of_decide_eq_false g0))
      have hk : k = n := by omega
      subst hk
      refine hK _ ?_
      rw [h3]
      subst hq
      rfl

theorem any_tm {CN : CNt} {q : Qt} (hq : q = q0) (hCN : CN = CallN Pg) (n : Nat) (hn : n ≤ lenB) (clo : Nat) (A0 A1 A2 A3 A4 : Int → T) (b : Int → Bool) {nI : Int} (hnI : nI = n) {v : Int}
    (h : ∀ i : Nat, i < n → ∀ K' : AV → List Blk → Prop, K' (.one (.t (.bool (b i)))) [.box 3 [.t (.int .i64 v)]] → CN clo [.agg [.t (A0 i), .t (A1 i), .t (A2 i), .t (A3 i), .t (A4 i)], .one (.bp 0 0)] [.box 3 [.t (.int .i64 v)]] K')
    {K : AV → List Blk → Prop} (hK : ∀ x : Bool, x = anyB b n → K (.one (.t (.bool x))) [.box 3 [.t (.int .i64 v)]]) :
    CN F.slices_ContainsFunc_api_Term_api_Term [.one (.t (.sl 5 nI (fun i => [A0 i, A1 i, A2 i, A3 i, A4 i]))), .one (.fn clo [.bp 0 0])] [.box 3 [.t (.int .i64 v)]] K := by
  have hn2 : n ≤ 9223372036854775807 := hn
  refine call_ing mixed tau_ok At.slices_ContainsFunc_api_Term_api_Term hq hCN rfl (fun DN hDN => ?_)
  (conv => cbv)
  refine call_ing mixed tau_ok At.slices_IndexFunc_api_Term_api_Term hq hCN rfl (fun DN hDN => ?_)
  (conv => cbv)
  refine LoopN.mk [0, 1, 6, 7, 8] (fun d σ => ∃ k : Int, (0 ≤ k ∧ k ≤ n ∧ d = ((n : Int) - k).toNat ∧ anyB b k.toNat = false) ∧
    σ = ⟨mkS [(0, .one (.t (.sl 5 nI (fun i => [A0 i, A1 i, A2 i, A3 i, A4 i])))), (1, .one (.fn clo [.bp 0 0])), (6, .one (.t (.sl 5 nI (fun i => [A0 i, A1 i, A2 i, A3 i, A4 i])))), (7, .one (.t (.int .i64 nI))), (8, .one (.t (.int .i64 k)))] 0 19, [.box 3 [.t (.int .i64 v)]]⟩) ⟨n, 0, ⟨by omega, by omega, by omega, rfl⟩, ?_⟩ ?_
  · cbv
  · rintro d σ ⟨k, ⟨h1, h2, rfl, h3⟩, rfl⟩ K' hK'
    (conv => cbv)
    obtain ⟨k, rfl⟩ := Int.eq_ofNat_of_zero_le h1
    rw [Int.toNat_natCast] at h3
    split
    · rename_i g0
      rw [hq] at g0
      ((try simp (disch := omega) only [q0, nc, w64_id, wu64_id, wu32_id, wu8_id, Int.tdiv_eq_ediv_of_nonneg, Int.tmod_eq_emod_of_nonneg, Int.ofNat_eq_natCast, Int.natAbs_natCast, decide_eq_true_eq, decide_eq_false_iff_not, Bool.not_eq_true', Bool.not_eq_false', bne_iff_ne, bne_eq_false_iff_eq, beq_iff_eq, beq_eq_false_iff_ne, ne_eq] at g0); (try replace g0 := of_decide_eq_true g0); (try replace g0 := of_decide_eq_false g0))
      refine Need.mk (by omega) ?_
      refine h k (by omega) _ ?_
      (conv => cbv)
      try simp only [nc, Int.ofNat_eq_natCast]
      split
      · rename_i g1
        refine hK _ ?_
        rw [anyB_hit g1 (by omega)]
        subst hq
        simp only [q0, decide_eq_true_eq]
        omega
      · rename_i g1
        have ek : (q Int fun _ => IntKind.i64.wrap ((k : Int) + 1)) = k + 1 := by subst hq; (try simp (disch := omega) only [q0, nc, w64_id, wu64_id, wu32_id, wu8_id, Int.tdiv_eq_ediv_of_nonneg, Int.tmod_eq_emod_of_nonneg, Int.ofNat_eq_natCast, Int.natAbs_natCast, decide_eq_true_eq, decide_eq_false_iff_not, Bool.not_eq_true', bne_iff_ne, beq_iff_eq, ne_eq])
        rw [ek]
        refine hK' _ ⟨_, ?_, (k : Int) + 1, ⟨by omega, by omega, rfl, ?_⟩, rfl⟩
        · omega
        · rw [show ((k : Int) + 1).toNat = k + 1 by omega, anyB, h3, g1]
          rfl
    · rename_i g0
      rw [hq] at g0
      ((try simp (disch := omega) only [q0, nc, w64_id, wu64_id, wu32_id, wu8_id, Int.tdiv_eq_ediv_of_nonneg, Int.tmod_eq_emod_of_nonneg, Int.ofNat_eq_natCast, Int.natAbs_natCast, decide_eq_true_eq, decide_eq_false_iff_not, Bool.not_eq_true', Bool.not_eq_false', bne_iff_ne, bne_eq_false_iff_eq, beq_iff_eq, beq_eq_false_iff_ne, ne_eq] at g0); (try replace g0 := of_decide_eq_true g0); (try replace g0 := of_decide_eq_false g0))
      have hk : k = n := by omega
      subst hk
      refine hK _ ?_
      rw [h3]
      subst hq
      rfl

theorem any_fc {CN : CNt} {q : Qt} (hq : q = q0) (hCN : CN = CallN Pg) (n : Nat) (hn : n ≤ lenB) (clo : Nat) (A0 A1 A2 : Int → T) (b : Int → Bool) {nI : Int} (hnI : nI = n) {v : Int} {c0 c1 c2 c3 c4 : T}
    (h : ∀ i : Nat, i < n → ∀ K' : AV → List Blk → Prop, K' (.one (.t (.bool (b i)))) [.box 3 [.t (.int .i64 v)], .box 96 [.t c0, .t c1, .t c2, .t c3, .t c4]] → CN clo [.agg [.t (A0 i), .t (A1 i), .t (A2 i)], .one (.bp 0 0)] [.box 3 [.t (.int .i64 v)], .box 96 [.t c0, .t c1, .t c2, .t c3, .t c4]] K')
    {K : AV → List Blk → Prop} (hK : ∀ x : Bool, x = anyB b n → K (.one (.t (.bool x))) [.box 3 [.t (.int .i64 v)], .box 96 [.t c0, .t c1, .t c2, .t c3, .t c4]]) :
    CN F.slices_ContainsFunc_api_Factor_api_Factor [.one (.t (.sl 3 nI (fun i => [A0 i, A1 i, A2 i]))), .one (.fn clo [.bp 0 0])] [.box 3 [.t (.int .i64 v)], .box 96 [.t c0, .t c1, .t c2, .t c3, .t c4]] K := by
  have hn2 : n ≤ 9223372036854775807 := hn
  refine call_ing mixed tau_ok At.slices_ContainsFunc_api_Factor_api_Factor hq hCN rfl (fun DN hDN => ?_)
  (conv => cbv)
  refine call_ing mixed tau_ok At.slices_IndexFunc_api_Factor_api_Factor hq hCN rfl (fun DN hDN => ?_)
  (conv => cbv)
  refine LoopN.mk [0, 1, 6, 7, 8] (fun d σ => ∃ k : Int, (0 ≤ k ∧ k ≤ n ∧ d = ((n : Int) - k).toNat ∧ anyB b k.toNat = false) ∧
    σ = ⟨mkS [(0, .one (.t (.sl 3 nI (fun i => [A0 i, A1 i, A2 i])))), (1, .one (.fn clo [.bp 0 0])), (6, .one (.t (.sl 3 nI (fun i => [A0 i, A1 i, A2 i])))), (7, .one (.t (.int .i64 nI))), (8, .one (.t (.int .i64 k)))] 0 19, [.box 3 [.t (.int .i64 v)], .box 96 [.t c0, .t c1, .t c2, .t c3, .t c4]]⟩) ⟨n, 0, ⟨by omega, by omega, by omega, rfl⟩, ?_⟩ ?_
  · cbv
  · rintro d σ ⟨k, ⟨h1, h2, rfl, h3⟩, rfl⟩ K' hK'
    (conv => cbv)
    obtain ⟨k, rfl⟩ := Int.eq_ofNat_of_zero_le h1
    rw [Int.toNat_natCast] at h3
    split
    · rename_i g0
      rw [hq] at g0
      ((try simp (disch := omega) only [q0, nc, w64_id, wu64_id, wu32_id, wu8_id, Int.tdiv_eq_ediv_of_nonneg, Int.tmod_eq_emod_of_nonneg, Int.ofNat_eq_natCast, Int.natAbs_natCast, decide_eq_true_eq, decide_eq_false_iff_not, Bool.not_eq_true', Bool.not_eq_false', bne_iff_ne, bne_eq_false_iff_eq, beq_iff_eq, beq_eq_false_iff_ne, ne_eq] at g0); (try replace g0 := of_decide_eq_true g0); (try replace g0 := of_decide_eq_false g0))
      refine Need.mk (by omega) ?_
      refine h k (by omega) _ ?_
      (conv => cbv)
      try simp only [nc, Int.ofNat_eq_natCast]
      split
      · rename_i g1
        refine hK _ ?_
        rw [anyB_hit g1 (by omega)]
        subst hq
        simp only [q0, decide_eq_true_eq]
        omega
      · rename_i g1
        have ek : (q Int fun _ => IntKind.i64.wrap ((k : Int) + 1)) = k + 1 := by subst hq; (try simp (disch := omega) only [q0, nc, w64_id, wu64_id, wu32_id, wu8_id, Int.tdiv_eq_ediv_of_nonneg, Int.tmod_eq_emod_of_nonneg, Int.ofNat_eq_natCast, Int.natAbs_natCast, decide_eq_true_eq, decide_eq_false_iff_not, Bool.not_eq_true', bne_iff_ne, beq_iff_eq, ne_eq])
        rw [ek]
        refine hK' _ ⟨_, ?_, (k : Int) + 1, ⟨by omega, by omega, rfl, ?_⟩, rfl⟩
        · omega
        · rw [show ((k : Int) + 1).toNat = k + 1 by omega, anyB, h3, g1]
          rfl
    · rename_i g0
      rw [hq] at g0
      ((try simp (disch := omega) only [q0, nc, w64_id, wu64_id, wu32_id, wu8_id, Int.tdiv_eq_ediv_of_nonneg, Int.tmod_eq_emod_of_nonneg, Int.ofNat_eq_natCast, Int.natAbs_natCast, decide_eq_true_eq, decide_eq_false_iff_not, Bool.not_eq_true', Bool.not_eq_false', bne_iff_ne, bne_eq_false_iff_eq, beq_iff_eq, beq_eq_false_iff_ne, ne_eq] at g0); (try replace g0 := of_decide_eq_true g0); (try replace g0 := of_decide_eq_false g0))
      have hk : k = n := by omega
      subst hk
      refine hK _ ?_
      rw [h3]
      subst hq
      rfl

theorem any_am {CN : CNt} {q : Qt} (hq : q = q0) (hCN : CN = CallN Pg) (n : Nat) (hn : n ≤ lenB) (clo : Nat) (A0 A1 A2 : Int → T) (b : Int → Bool) {nI : Int} (hnI : nI = n) {v : Int} {c0 c1 c2 c3 c4 : T}
    (h : ∀ i : Nat, i < n → ∀ K' : AV → List Blk → Prop, K' (.one (.t (.bool (b i)))) [.box 3 [.t (.int .i64 v)], .box 96 [.t c0, .t c1, .t c2, .t c3, .t c4]] → CN clo [.agg [.t (A0 i), .t (A1 i), .t (A2 i)], .one (.bp 0 0)] [.box 3 [.t (.int .i64 v)], .box 96 [.t c0, .t c1, .t c2, .t c3, .t c4]] K')
    {K : AV → List Blk → Prop} (hK : ∀ x : Bool, x = anyB b n → K (.one (.t (.bool x))) [.box 3 [.t (.int .i64 v)], .box 96 [.t c0, .t c1, .t c2, .t c3, .t c4]]) :
    CN F.slices_ContainsFunc_api_Atom_api_Atom [.one (.t (.sl 3 nI (fun i => [A0 i, A1 i, A2 i]))), .one (.fn clo [.bp 0 0])] [.box 3 [.t (.int .i64 v)], .box 96 [.t c0, .t c1, .t c2, .t c3, .t c4]] K := by
  have hn2 : n ≤ 9223372036854775807 := hn
  refine call_ing mixed tau_ok At.slices_ContainsFunc_api_Atom_api_Atom hq hCN rfl (fun DN hDN => ?_)
  (conv => cbv)
  refine call_ing mixed tau_ok At.slices_IndexFunc_api_Atom_api_Atom hq hCN rfl (fun DN hDN => ?_)
  (conv => cbv)
  refine LoopN.mk [0, 1, 6, 7, 8] (fun d σ => ∃ k : Int, (0 ≤ k ∧ k ≤ n ∧ d = ((n : Int) - k).toNat ∧ anyB b k.toNat = false) ∧
    σ = ⟨mkS [(0, .one (.t (.sl 3 nI (fun i => [A0 i, A1 i, A2 i])))), (1, .one (.fn clo [.bp 0 0])), (6, .one (.t (.sl 3 nI (fun i => [A0 i, A1 i, A2 i])))), (7, .one (.t (.int .i64 nI))), (8, .one (.t (.int .i64 k)))] 0 19, [.box 3 [.t (.int .i64 v)], .box 96 [.t c0, .t c1, .t c2, .t c3, .t c4]]⟩) ⟨n, 0, ⟨by omega, by omega, by omega, rfl⟩, ?_⟩ ?_
  · cbv
  · rintro d σ ⟨k, ⟨h1, h2, rfl, h3⟩, rfl⟩ K' hK'
    (conv => cbv)
    obtain ⟨k, rfl⟩ := Int.eq_ofNat_of_zero_le h1
    rw [Int.toNat_natCast] at h3
    split
    · rename_i g0
      rw [hq] at g0
      ((try simp (disch := omega) only [q0, nc, w64_id, wu64_id, wu32_id, wu8_id, Int.tdiv_eq_ediv_of_nonneg, Int.tmod_eq_emod_of_nonneg, Int.ofNat_eq_natCast, Int.natAbs_natCast, decide_eq_true_eq, decide_eq_false_iff_not, Bool.not_eq_true', Bool.not_eq_false', bne_iff_ne, bne_eq_false_iff_eq, beq_iff_eq, beq_eq_false_iff_ne, ne_eq] at g0); (try replace g0 := of_decide_eq_true g0); (try replace g0 := of_decide_eq_false g0))
      refine Need.mk (by omega) ?_
      refine h k (by omega) _ ?_
      (conv => cbv)
      try simp only [nc, Int.ofNat_eq_natCast]
      split
      · rename_i g1
        refine hK _ ?_
        rw [anyB_hit g1 (by omega)]
        subst hq
        simp only [q0, decide_eq_true_eq]
        omega
      · rename_i g1
        have ek : (q Int fun _ => IntKind.i64.wrap ((k : Int) + 1)) = k + 1 := by subst hq; (try simp (disch := omega) only [q0, nc, w64_id, wu64_id, wu32_id, wu8_id, Int.tdiv_eq_ediv_of_nonneg, Int.tmod_eq_emod_of_nonneg, Int.ofNat_eq_natCast, Int.natAbs_natCast, decide_eq_true_eq, decide_eq_false_iff_not, Bool.not_eq_true', bne_iff_ne, beq_iff_eq, ne_eq])
        rw [ek]
        refine hK' _ ⟨_, ?_, (k : Int) + 1, ⟨by omega, by omega, rfl, ?_⟩, rfl⟩
        · omega
        · rw [show ((k : Int) + 1).toNat = k + 1 by omega, anyB, h3, g1]
          rfl
    · rename_i g0
      rw [hq] at g0
      ((try simp (disch := omega) only [q0, nc, w64_id, wu64_id, wu32_id, wu8_id, Int.tdiv_eq_ediv_of_nonneg, Int.tmod_eq_emod_of_nonneg, Int.ofNat_eq_natCast, Int.natAbs_natCast, decide_eq_true_eq, decide_eq_false_iff_not, Bool.not_eq_true', Bool.not_eq_false', bne_iff_ne, bne_eq_false_iff_eq, beq_iff_eq, beq_eq_false_iff_ne, ne_eq] at g0); (try replace g0 := of_decide_eq_true g0); (try replace g0 := of_decide_eq_false g0))
      have hk : k = n := by omega
      subst hk
      refine hK _ ?_
      rw [h3]
      subst hq
      rfl

theorem any_lt {CN : CNt} {q : Qt} (hq : q = q0) (hCN : CN = CallN Pg) (n : Nat) (hn : n ≤ lenB) (clo : Nat) (A0 A1 : Int → T) (b : Int → Bool) {nI : Int} (hnI : nI = n) {v : Int} {c0 c1 c2 c3 c4 d0 d1 d2 : T}
    (h : ∀ i : Nat, i < n → ∀ K' : AV → List Blk → Prop, K' (.one (.t (.bool (b i)))) [.box 3 [.t (.int .i64 v)], .box 96 [.t c0, .t c1, .t c2, .t c3, .t c4], .box 177 [.t d0, .t d1, .t d2]] → CN clo [.agg [.t (A0 i), .t (A1 i)], .one (.bp 0 0)] [.box 3 [.t (.int .i64 v)], .box 96 [.t c0, .t c1, .t c2, .t c3, .t c4], .box 177 [.t d0, .t d1, .t d2]] K')
    {K : AV → List Blk → Prop} (hK : ∀ x : Bool, x = anyB b n → K (.one (.t (.bool x))) [.box 3 [.t (.int .i64 v)], .box 96 [.t c0, .t c1, .t c2, .t c3, .t c4], .box 177 [.t d0, .t d1, .t d2]]) :
    CN F.slices_ContainsFunc_api_LinTerm_api_LinTerm [.one (.t (.sl 2 nI (fun i => [A0 i, A1 i]))), .one (.fn clo [.bp 0 0])] [.box 3 [.t (.int .i64 v)], .box 96 [.t c0, .t c1, .t c2, .t c3, .t c4], .box 177 [.t d0, .t d1, .t d2]] K := by
  have hn2 : n ≤ 9223372036854775807 := hn
  refine call_ing mixed tau_ok At.slices_ContainsFunc_api_LinTerm_api_LinTerm hq hCN rfl (fun DN hDN => ?_)
  (conv => cbv)
  refine call_ing mixed tau_ok At.slices_IndexFunc_api_LinTerm_api_LinTerm hq hCN rfl (fun DN hDN => ?_)
  (conv => cbv)
  refine LoopN.mk [0, 1, 6, 7, 8] (fun d σ => ∃ k : Int, (0 ≤ k ∧ k ≤ n ∧ d = ((n : Int) - k).toNat ∧ anyB b k.toNat = false) ∧
    σ = ⟨mkS [(0, .one (.t (.sl 2 nI (fun i => [A0 i, A1 i])))), (1, .one (.fn clo [.bp 0 0])), (6, .one (.t (.sl 2 nI (fun i => [A0 i, A1 i])))), (7, .one (.t (.int .i64 nI))), (8, .one (.t (.int .i64 k)))] 0 19, [.box 3 [.t (.int .i64 v)], .box 96 [.t c0, .t c1, .t c2, .t c3, .t c4], .box 177 [.t d0, .t d1, .t d2]]⟩) ⟨n, 0, ⟨by omega, by omega, by omega, rfl⟩, ?_⟩ ?_
  · cbv
  · rintro d σ ⟨k, ⟨h1, h2, rfl, h3⟩, rfl⟩ K' hK'
    (conv => cbv)
    obtain ⟨k, rfl⟩ := Int.eq_ofNat_of_zero_le h1
    rw [Int.toNat_natCast] at h3
    split
    · rename_i g0
      rw [hq] at g0
      ((try simp (disch := omega) only [q0, nc, w64_id, wu64_id, wu32_id, wu8_id, Int.tdiv_eq_ediv_of_nonneg, Int.tmod_eq_emod_of_nonneg, Int.ofNat_eq_natCast, Int.natAbs_natCast, decide_eq_true_eq, decide_eq_false_iff_not, Bool.not_eq_true', Bool.not_eq_false', bne_iff_ne, bne_eq_false_iff_eq, beq_iff_eq, beq_eq_false_iff_ne, ne_eq] at g0); (try replace g0 := of_decide_eq_true g0); (try replace g0 := of_decide_eq_false g0))
      refine Need.mk (by omega) ?_
      refine h k (by omega) _ ?_
      (conv => cbv)
      try simp only [nc, Int.ofNat_eq_natCast]
      split
      · rename_i g1
        refine hK _ ?_
        rw [anyB_hit g1 (by omega)]
        subst hq
        simp only [q0, decide_eq_true_eq]
        omega
      · rename_i g1
        have ek : (q Int fun _ => IntKind.i64.wrap ((k : Int) + 1)) = k + 1 := by subst hq; (try simp (disch := omega) only [q0, nc, w64_id, wu64_id, wu32_id, wu8_id, Int.tdiv_eq_ediv_of_nonneg, Int.tmod_eq_emod_of_nonneg, Int.ofNat_eq_natCast, Int.natAbs_natCast, decide_eq_true_eq, decide_eq_false_iff_not, Bool.not_eq_true', bne_iff_ne, beq_iff_eq, ne_eq])
        rw [ek]
        refine hK' _ ⟨_, ?_, (k : Int) + 1, ⟨by omega, by omega, rfl, ?_⟩, rfl⟩
        · omega
        · rw [show ((k : Int) + 1).toNat = k + 1 by omega, anyB, h3, g1]
          rfl
    · rename_i g0
      rw [hq] at g0
      ((try simp (disch := omega) only [q0, nc, w64_id, wu64_id, wu32_id, wu8_id, Int.tdiv_eq_ediv_of_nonneg, Int.tmod_eq_emod_of_nonneg, Int.ofNat_eq_natCast, Int.natAbs_natCast, decide_eq_true_eq, decide_eq_false_iff_not, Bool.not_eq_true', Bool.not_eq_false', bne_iff_ne, bne_eq_false_iff_eq, beq_iff_eq, beq_eq_false_iff_ne, ne_eq] at g0); (try replace g0 := of_decide_eq_true g0); (try replace g0 := of_decide_eq_false g0))
      have hk : k = n := by omega
      subst hk
      refine hK _ ?_
      rw [h3]
      subst hq
      rfl

theorem nn1_main (ng : Bool) (N D X Y : T) (s : Int) (h : PureF Pg F.rational_Sign (fun _ => [.agg [.bool ng, N, D]]) (fun _ => .one (.int .i64 s))) :
    PureF Pg F.poly_NonNegative_1 (fun _ => [.agg [.bool ng, N, D, X, Y]]) (fun _ => .one (.bool (decide (s < 0)))) := by
  refine walkF mixed tau_ok At.poly_NonNegative_1 (fun CN DN q R hCN hDN hq hR => ?_)
  obtain ⟨b, hb⟩ : ∃ b, b = decide (s < 0) := ⟨_, rfl⟩
  rw [← hb] at hR
  (conv => cbv)
  refine call_fn hq hCN h rfl ?_
  (conv => cbv)
  refine hR _ ?_
  rw [hb]
  subst hq
  exact .refl
theorem nn_main (n : Nat) (hn : n ≤ lenB) (ng : Int → Bool) (N D X Y : Int → T) (s : Int → Int) (h : ∀ i : Nat, i < n → PureF Pg F.rational_Sign (fun _ => [.agg [.bool (ng i), N i, D i]]) (fun _ => .one (.int .i64 (s i)))) :
    PureF Pg F.poly_NonNegative (fun q => [.one (.sl 5 (q Int fun _ => (n : Int)) (fun i => [.bool (ng i), N i, D i, X i, Y i]))]) (fun _ => .one (.bool (!anyB (fun i => decide (s i < 0)) n))) := by
  refine walkF mixed tau_ok At.poly_NonNegative (fun CN DN q R hCN hDN hq hR => ?_)
  obtain ⟨b, hb⟩ : ∃ b : Int → Bool, b = fun i => decide (s i < 0) := ⟨_, rfl⟩
  rw [← hb] at hR
  have hb' : ∀ i, b i = decide (s i < 0) := fun i => by rw [hb]
  clear hb
  obtain ⟨nI, hnI⟩ : ∃ nI, nI = q Int fun _ => (n : Int) := ⟨_, rfl⟩
  rw [← hnI]
  have hnI' : nI = n := by rw [hnI]; subst hq; rfl
  (conv => cbv)
  refine any_nn hq hCN n hn F.poly_NonNegative_1 (fun i => .bool (ng i)) N D X Y b hnI' (fun i hi K' hK' => ?_) (fun x hx => ?_)
  · refine call_fn hq hCN (nn1_main (ng i) (N i) (D i) (X i) (Y i) (s i) (h i hi)) rfl ?_
    rw [← hb']
    exact hK'
  · (conv => cbv)
    refine hR _ ?_
    rw [hx]
    subst hq
    exact .refl
theorem refNn_main (n : Nat) (hn : n ≤ lenB) (ng : Int → Bool) (N D X Y : Int → T) (s : Int → Int) (h : ∀ i : Nat, i < n → PureF Pg F.amortcostref1_Sign (fun _ => [.agg [.bool (ng i), N i, D i]]) (fun _ => .one (.int .i64 (s i)))) :
    PureF Pg F.amortcostref20_NonNegative (fun q => [.one (.sl 5 (q Int fun _ => (n : Int)) (fun i => [.bool (ng i), N i, D i, X i, Y i]))]) (fun _ => .one (.bool (!anyB (fun i => decide (s i < 0)) n))) := by
  have hn2 : n ≤ 9223372036854775807 := hn
  refine walkF mixed tau_ok At.amortcostref20_NonNegative (fun CN DN q R hCN hDN hq hR => ?_)
  obtain ⟨b, hb⟩ : ∃ b : Int → Bool, b = fun i => decide (s i < 0) := ⟨_, rfl⟩
  rw [← hb] at hR
  have hb' : ∀ i, b i = decide (s i < 0) := fun i => by rw [hb]
  clear hb
  have fin : ∀ x : Bool, x = !anyB b n → R (.one (.bool x)) := fun x hx => hR _ (by rw [hx]; exact .refl)
  clear hR
  obtain ⟨nI, hnI⟩ : ∃ nI, nI = q Int fun _ => (n : Int) := ⟨_, rfl⟩
  rw [← hnI]
  have hnI' : nI = n := by rw [hnI]; subst hq; rfl
  (conv => cbv)
  refine LoopN.mk [5, 6, 7] (fun d σ => ∃ k : Int, (0 ≤ k ∧ k ≤ n ∧ d = ((n : Int) - k).toNat ∧ anyB b k.toNat = false) ∧
    σ = ⟨mkS [(5, .one (.t (.sl 5 nI (fun i => [.bool (ng i), N i, D i, X i, Y i])))), (6, .one (.t (.int .i64 nI))), (7, .one (.t (.int .i64 k)))] 0 16, []⟩) ⟨n, 0, ⟨by omega, by omega, by omega, rfl⟩, ?_⟩ ?_
  · cbv
  · rintro d σ ⟨k, ⟨h1, h2, rfl, h3⟩, rfl⟩ K' hK'
    (conv => cbv)
    obtain ⟨k, rfl⟩ := Int.eq_ofNat_of_zero_le h1
    rw [Int.toNat_natCast] at h3
    split
    · rename_i g0
      rw [hq] at g0
      ((try simp (disch := omega) only [q0, nc, w64_id, wu64_id, wu32_id, wu8_id, Int.tdiv_eq_ediv_of_nonneg, Int.tmod_eq_emod_of_nonneg, Int.ofNat_eq_natCast, Int.natAbs_natCast, decide_eq_true_eq, decide_eq_false_iff_not, Bool.not_eq_true', Bool.not_eq_false', bne_iff_ne, bne_eq_false_iff_eq, beq_iff_eq, beq_eq_false_iff_ne, ne_eq] at g0); (try replace g0 := of_decide_eq_true g0); (try replace g0 := of_decide_eq_false g0))
      refine Need.mk (by omega) ?_
      refine call_fn hq hCN (h k (by omega)) rfl ?_
      (conv => cbv)
      try simp only [nc, Int.ofNat_eq_natCast]
      split
      · rename_i g1
        rw [hq] at g1
        ((try simp (disch := omega) only [q0, nc, w64_id, wu64_id, wu32_id, wu8_id, Int.tdiv_eq_ediv_of_nonneg, Int.tmod_eq_emod_of_nonneg, Int.ofNat_eq_natCast, Int.natAbs_natCast, decide_eq_true_eq, decide_eq_false_iff_not, Bool.not_eq_true', Bool.not_eq_false', bne_iff_ne, bne_eq_false_iff_eq, beq_iff_eq, beq_eq_false_iff_ne, ne_eq] at g1); (try replace g1 := of_decide_eq_true g1); (try replace g1 := of_decide_eq_false g1))
        refine fin _ ?_
        rw [anyB_hit (by rw [hb']; exact decide_eq_true g1) (by omega)]
        rfl
      · rename_i g1
        rw [hq] at g1
        ((try simp (disch := omega) only [q0, nc, w64_id, wu64_id, wu32_id, wu8_id, Int.tdiv_eq_ediv_of_nonneg, Int.tmod_eq_emod_of_nonneg, Int.ofNat_eq_natCast, Int.natAbs_natCast, decide_eq_true_eq, decide_eq_false_iff_not, Bool.not_eq_true', Bool.not_eq_false', bne_iff_ne, bne_eq_false_iff_eq, beq_iff_eq, beq_eq_false_iff_ne, ne_eq] at g1); (try replace g1 := of_decide_eq_true g1); (try replace g1 := of_decide_eq_false g1))
        have ek : (q Int fun _ => IntKind.i64.wrap ((k : Int) + 1)) = k + 1 := by subst hq; (try simp (disch := omega) only [q0, nc, w64_id, wu64_id, wu32_id, wu8_id, Int.tdiv_eq_ediv_of_nonneg, Int.tmod_eq_emod_of_nonneg, Int.ofNat_eq_natCast, Int.natAbs_natCast, decide_eq_true_eq, decide_eq_false_iff_not, Bool.not_eq_true', bne_iff_ne, beq_iff_eq, ne_eq])
        rw [ek]
        refine hK' _ ⟨_, ?_, (k : Int) + 1, ⟨by omega, by omega, rfl, ?_⟩, rfl⟩
        · omega
        · rw [show ((k : Int) + 1).toNat = k + 1 by omega, anyB, h3, hb', decide_eq_false g1]
          rfl
    · rename_i g0
      rw [hq] at g0
      ((try simp (disch := omega) only [q0, nc, w64_id, wu64_id, wu32_id, wu8_id, Int.tdiv_eq_ediv_of_nonneg, Int.tmod_eq_emod_of_nonneg, Int.ofNat_eq_natCast, Int.natAbs_natCast, decide_eq_true_eq, decide_eq_false_iff_not, Bool.not_eq_true', Bool.not_eq_false', bne_iff_ne, bne_eq_false_iff_eq, beq_iff_eq, beq_eq_false_iff_ne, ne_eq] at g0); (try replace g0 := of_decide_eq_true g0); (try replace g0 := of_decide_eq_false g0))
      have hk : k = n := by omega
      subst hk
      exact fin _ (by rw [h3]; rfl)
end Sx

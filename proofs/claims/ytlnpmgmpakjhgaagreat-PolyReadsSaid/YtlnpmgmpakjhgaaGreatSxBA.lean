/- A part of the proof of PolyReadsSaid: texts SxRat9. -/
import Derived.Test.YtlnpmgmpakjhgaaGreatSxAZ
set_option linter.all false
set_option maxRecDepth 100000
namespace Sx
open Go

set_option maxHeartbeats 8000000 in
theorem step_call {CN : CNt} {q : Qt} (hq : q = q0) (hCN : CN = CallN Pg) {jI kI vI mI nI : Int} {n j m : Nat} {U V : Int → Int} {Q : Int → List T} (hj : jI = j) (hk : kI = n + 1) (hv : vI = n) (hmI : mI = m) (hjm : j + n + 1 ≤ m) (hn2 : 2 ≤ n) (hmb : m ≤ 1000000000)
    (hU : ∀ i : Nat, i < m → 0 ≤ U i ∧ U i < 1000000000) (hV : ∀ i : Nat, i < n → 0 ≤ V i ∧ V i < 1000000000) (hV1 : 500000000 ≤ V ((n : Int) - 1)) (hlt : valN (fun i => U (j + i)) (n + 1) < valN V n * Bs)
    {K : AV → List Blk → Prop}
    (hK : ∀ U' : Int → Int, (∀ i : Nat, i < m → 0 ≤ U' i ∧ U' i < 1000000000) → (∀ i : Nat, i < j ∨ j + n < i → U' i = U i) → valN (fun i => U' (j + i)) (n + 1) = valN (fun i => U (j + i)) (n + 1) % valN V n →
      K (.one (.t (.int .u32 ((valN (fun i => U (j + i)) (n + 1) / valN V n : Nat) : Int)))) [.sl Ty.«uint32» 1 mI (fun i => [.int .u32 (U' i)]), .sl Ty.«uint32» 1 nI Q]) :
    CN F.rational_step [.one (.sub 0 jI kI), .one (.t (.sl 1 vI (fun i => [.int .u32 (V i)])))] [.sl Ty.«uint32» 1 mI (fun i => [.int .u32 (U i)]), .sl Ty.«uint32» 1 nI Q] K := by
  refine call_in mixed tau_ok At.rational_step hq hCN rfl (fun DN hDN => ?_)
  (conv => cbv)
  obtain ⟨p, rfl⟩ : ∃ p, n = p + 2 := ⟨n - 2, by omega⟩
  have hv1 := hV (p + 1) (by omega)
  have hv1' : 500000000 ≤ V ((p + 1 : Nat) : Int) := by
    have e : (((p + 2 : Nat) : Int) - 1) = ((p + 1 : Nat) : Int) := by omega
    rw [← e]; exact hV1
  have hun := hU (j + (p + 2)) (by omega)
  have hun1 := hU (j + (p + 1)) (by omega)
  have hun2 := hU (j + p) (by omega)
  have hv2 := hV p (by omega)
  have i1 : vI - 1 = ((p + 1 : Nat) : Int) := by omega
  have i2 : vI - 2 = (p : Int) := by omega
  have i3 : jI + vI = ((j + (p + 2) : Nat) : Int) := by omega
  have i4 : jI + ((p + 1 : Nat) : Int) = ((j + (p + 1) : Nat) : Int) := by omega
  have i5 : jI + (p : Int) = ((j + p : Nat) : Int) := by omega
  generalize hhd : U ((j + (p + 2) : Nat) : Int) * 1000000000 + U ((j + (p + 1) : Nat) : Int) = head
  have e7 : (q Int fun _ => IntKind.u64.wrap (V (q Int fun _ => IntKind.i64.wrap (vI - 1)))) = V ((p + 1 : Nat) : Int) := by
    subst hq; simp (disch := omega) only [q0, w64_id, i1, wu64_id]
  have e5 : (q Int fun _ => IntKind.u64.wrap ((q Int fun _ => IntKind.u64.wrap ((q Int fun _ => IntKind.u64.wrap (U (q Int fun _ => jI + vI))) * 1000000000)) + q Int fun _ => IntKind.u64.wrap (U (q Int fun _ => jI + q Int fun _ => IntKind.i64.wrap (vI - 1))))) = head := by
    subst hq; simp (disch := omega) only [q0, w64_id, i1, i3, i4, wu64_id]; exact hhd
  have hhb : 0 ≤ head ∧ head < 18446744073709551616 := by omega
  have hdq : 0 ≤ head / V ((p + 1 : Nat) : Int) := Int.ediv_nonneg (by omega) (by omega)
  have hdm := Int.emod_nonneg head (show V ((p + 1 : Nat) : Int) ≠ 0 by omega)
  have hdl := Int.emod_lt_of_pos head (show 0 < V ((p + 1 : Nat) : Int) by omega)
  have hde := Int.ediv_mul_add_emod head (V ((p + 1 : Nat) : Int))
  have hdqs : head / V ((p + 1 : Nat) : Int) < 18446744073709551616 := by
    have := Int.ediv_le_self (V ((p + 1 : Nat) : Int)) hhb.1
    omega
  have g0 : (q Int fun _ => IntKind.u64.wrap (head.tdiv (V ((p + 1 : Nat) : Int)))) = head / V ((p + 1 : Nat) : Int) := by
    subst hq; simp (disch := omega) only [q0, Int.tdiv_eq_ediv_of_nonneg, wu64_id]
  have r0 : (q Int fun _ => head.tmod (V ((p + 1 : Nat) : Int))) = head % V ((p + 1 : Nat) : Int) := by
    subst hq; simp (disch := omega) only [q0, Int.tmod_eq_emod_of_nonneg]
  refine Need.mk (by (exact ⟨by kernel_rfl, by kernel_rfl⟩)) (Need.mk (by omega) (Need.mk (by subst hq; (try simp (disch := omega) only [q0, nc, w64_id, wu64_id, wu32_id, wu8_id, Int.tdiv_eq_ediv_of_nonneg, Int.tmod_eq_emod_of_nonneg, Int.ofNat_eq_natCast, Int.natAbs_natCast, decide_eq_true_eq, decide_eq_false_iff_not, Bool.not_eq_true', bne_iff_ne, beq_iff_eq, ne_eq]); omega) (Need.mk (by (exact ⟨by kernel_rfl, by kernel_rfl⟩)) (Need.mk (by subst hq; (try simp (disch := omega) only [q0, nc, w64_id, wu64_id, wu32_id, wu8_id, Int.tdiv_eq_ediv_of_nonneg, Int.tmod_eq_emod_of_nonneg, Int.ofNat_eq_natCast, Int.natAbs_natCast, decide_eq_true_eq, decide_eq_false_iff_not, Bool.not_eq_true', bne_iff_ne, beq_iff_eq, ne_eq]); omega) (Need.mk (by rw [e7]; omega) (Need.mk (by subst hq; (try simp (disch := omega) only [q0, nc, w64_id, wu64_id, wu32_id, wu8_id, Int.tdiv_eq_ediv_of_nonneg, Int.tmod_eq_emod_of_nonneg, Int.ofNat_eq_natCast, Int.natAbs_natCast, decide_eq_true_eq, decide_eq_false_iff_not, Bool.not_eq_true', bne_iff_ne, beq_iff_eq, ne_eq]); omega) (Need.mk (by rw [e7]; omega) ?_)))))))
  rw [e5, e7, g0, r0]
  generalize hQ : blockK 0 (seqK _ _) = Q1
  have hrest : ∀ (i : Nat) (g r : Int), i = 0 → 0 ≤ g → g < 1000000000 → valN (fun i => U (j + i)) (p + 3) / valN V (p + 2) ≤ g.toNat → (g.toNat - 1) * valN V (p + 2) ≤ valN (fun i => U (j + i)) (p + 3) →
      Q1 (.exit i) ⟨mkS [(0, .one (.sub 0 jI kI)), (1, .one (.t (.sl 1 vI (fun i => [.int .u32 (V i)])))), (5, .one (.t (.int .i64 vI))), (7, .one (.t (.int .u64 g))), (8, .one (.t (.int .u64 r)))] 0 167,
        [.sl Ty.«uint32» 1 mI (fun i => [.int .u32 (U i)]), .sl Ty.«uint32» 1 nI Q]⟩ := by
    intro i g r hi hg0 hg1 hg2 hg3
    subst hi
    rw [← hQ]
    clear hQ
    (conv => cbv)
    generalize hQ2 : blockK 2 (seqK _ _) = Q2
    obtain ⟨n3, hn3⟩ : ∃ n3 : Int, n3 = p + 3 := ⟨_, rfl⟩
    have hn3' : (q Int fun _ => IntKind.i64.wrap (vI + 1)) = n3 := by subst hq; (try simp (disch := omega) only [q0, nc, w64_id, wu64_id, wu32_id, wu8_id, Int.tdiv_eq_ediv_of_nonneg, Int.tmod_eq_emod_of_nonneg, Int.ofNat_eq_natCast, Int.natAbs_natCast, decide_eq_true_eq, decide_eq_false_iff_not, Bool.not_eq_true', bne_iff_ne, beq_iff_eq, ne_eq]); omega
    rw [hn3']
    have hrest2 : ∀ (b c : Int) (Z : Int → Int), (∀ i : Nat, i < m → 0 ≤ Z i ∧ Z i < 1000000000) → (∀ i : Nat, i < j ∨ j + (p + 2) < i → Z i = U i) → 0 ≤ b → b ≤ 1 →
        valN (fun i => Z (j + i)) (p + 3) + g.toNat * valN V (p + 2) = valN (fun i => U (j + i)) (p + 3) + b.toNat * Bs ^ (p + 3) →
        Q2 (.exit 2) ⟨mkS [(0, .one (.sub 0 jI kI)), (1, .one (.t (.sl 1 vI (fun i => [.int .u32 (V i)])))), (5, .one (.t (.int .i64 vI))), (7, .one (.t (.int .u64 g))), (9, .one (.t (.int .u32 b))), (10, .one (.t (.int .u64 c))), (83, .one (.t (.int .i64 n3))), (84, .one (.t (.int .i64 n3)))] 0 167,
          [.sl Ty.«uint32» 1 mI (fun i => [.int .u32 (Z i)]), .sl Ty.«uint32» 1 nI Q]⟩ := by
      intro b c Z hZ hZo hb0 hb1 hz
      rw [← hQ2]
      clear hQ2
      (conv => cbv)
      have hwin : ∀ Y : Int → Int, (∀ i : Nat, i < m → 0 ≤ Y i ∧ Y i < 1000000000) → valN (fun i => Y (j + i)) (p + 3) < Bs ^ (p + 3) := fun Y hY => valN_lt (fun i hi => by
        have := hY (j + i) (by omega)
        rw [Int.natCast_add] at this
        exact this)
      have hvl : valN V (p + 2) < Bs ^ (p + 3) := Nat.lt_of_lt_of_le (valN_lt hV) (Nat.pow_le_pow_right Bs_pos (by omega))
      have hvp : 0 < valN V (p + 2) := by
        rw [valN]
        have : 1 * Bs ^ (p + 1) ≤ (V ((p + 1 : Nat) : Int)).toNat * Bs ^ (p + 1) := Nat.mul_le_mul_right _ (by omega)
        have := Bp_pos (p + 1)
        omega
      split
      · rename_i g1
        rw [hq] at g1
        ((try simp (disch := omega) only [q0, nc, w64_id, wu64_id, wu32_id, wu8_id, Int.tdiv_eq_ediv_of_nonneg, Int.tmod_eq_emod_of_nonneg, Int.ofNat_eq_natCast, Int.natAbs_natCast, decide_eq_true_eq, decide_eq_false_iff_not, Bool.not_eq_true', Bool.not_eq_false', bne_iff_ne, bne_eq_false_iff_eq, beq_iff_eq, beq_eq_false_iff_ne, ne_eq] at g1); (try replace g1 := of_decide_eq_true g1); (try replace g1 := of_decide_eq_false g1))
        subst g1
        have hz' : valN (fun i => Z (j + i)) (p + 3) + g.toNat * valN V (p + 2) = valN (fun i => U (j + i)) (p + 3) := by rw [hz, Int.toNat_zero, Nat.zero_mul, Nat.add_zero]
        obtain ⟨e1, e2⟩ := step_fit hz' hg2 hvp
        have e3 : (q Int fun _ => IntKind.u32.wrap g) = ((valN (fun i => U (j + i)) (p + 2 + 1) / valN V (p + 2) : Nat) : Int) := by
          show (q Int fun _ => IntKind.u32.wrap g) = ((valN (fun i => U (j + i)) (p + 3) / valN V (p + 2) : Nat) : Int)
          have e4 : ((g.toNat : Nat) : Int) = g := Int.toNat_of_nonneg hg0
          rw [← e1, e4]
          subst hq
          exact wu32_id ⟨hg0, Int.lt_trans hg1 (by decide)⟩
        rw [e3]
        exact hK Z hZ hZo e2
      · rename_i g1
        rw [hq] at g1
        have hb : b = 1 := by
          simp [q0] at g1
          omega
        subst hb
        generalize hQ3 : blockK 4 (seqK _ _) = Q3
        rw [hn3']
        have hrest3 : ∀ (c : Int) (Y : Int → Int), (∀ i : Nat, i < m → 0 ≤ Y i ∧ Y i < 1000000000) → (∀ i : Nat, i < j ∨ j + (p + 2) < i → Y i = U i) →
            valN (fun i => Y (j + i)) (p + 3) + c.toNat * Bs ^ (p + 3) = valN (fun i => Z (j + i)) (p + 3) + valN V (p + 2) →
            Q3 (.exit 4) ⟨mkS [(0, .one (.sub 0 jI kI)), (1, .one (.t (.sl 1 vI (fun i => [.int .u32 (V i)])))), (5, .one (.t (.int .i64 vI))), (7, .one (.t (.int .u64 g))), (14, .one (.t (.int .u32 c))), (136, .one (.t (.int .i64 n3))), (137, .one (.t (.int .i64 n3)))] 0 167,
              [.sl Ty.«uint32» 1 mI (fun i => [.int .u32 (Y i)]), .sl Ty.«uint32» 1 nI Q]⟩ := by
          intro c Y hY hYo hy
          rw [← hQ3]
          clear hQ3
          (conv => cbv)
          have hz' : valN (fun i => Z (j + i)) (p + 3) + g.toNat * valN V (p + 2) = valN (fun i => U (j + i)) (p + 3) + Bs ^ (p + 3) := by rw [hz]; simp
          obtain ⟨e1, e0, e2⟩ := step_over hz' (hwin Z hZ) hy (hwin Y hY) hg3 hvp hvl
          have e3 : (q Int fun _ => IntKind.u32.wrap (q Int fun _ => IntKind.u64.wrap (g - 1))) = ((valN (fun i => U (j + i)) (p + 2 + 1) / valN V (p + 2) : Nat) : Int) := by
            show (q Int fun _ => IntKind.u32.wrap (q Int fun _ => IntKind.u64.wrap (g - 1))) = ((valN (fun i => U (j + i)) (p + 3) / valN V (p + 2) : Nat) : Int)
            have e4 : ((g.toNat - 1 : Nat) : Int) = g - 1 := by omega
            have e5 : 1 ≤ g := by omega
            rw [← e1, e4]
            subst hq
            (try simp (disch := omega) only [q0, nc, w64_id, wu64_id, wu32_id, wu8_id, Int.tdiv_eq_ediv_of_nonneg, Int.tmod_eq_emod_of_nonneg, Int.ofNat_eq_natCast, Int.natAbs_natCast, decide_eq_true_eq, decide_eq_false_iff_not, Bool.not_eq_true', bne_iff_ne, beq_iff_eq, ne_eq])
          rw [e3]
          exact hK Y hY hYo e2
        clear hQ3
        refine LoopN.mk [0, 1, 5, 7, 14, 136, 137] (fun d σ => ∃ (k c : Int) (Y : Int → Int), (0 ≤ k ∧ k ≤ p + 3 ∧ d = ((p : Int) + 3 - k).toNat ∧ 0 ≤ c ∧ c ≤ 1 ∧ (∀ i : Nat, i < m → 0 ≤ Y i ∧ Y i < 1000000000) ∧ (∀ i : Nat, i < j ∨ (j : Int) + k ≤ i → Y i = Z i) ∧
            valN (fun i => Y (j + i)) k.toNat + c.toNat * Bs ^ k.toNat = valN (fun i => Z (j + i)) k.toNat + valN (cutV V (p + 2)) k.toNat) ∧
          σ = ⟨mkS [(0, .one (.sub 0 jI kI)), (1, .one (.t (.sl 1 vI (fun i => [.int .u32 (V i)])))), (5, .one (.t (.int .i64 vI))), (7, .one (.t (.int .u64 g))), (14, .one (.t (.int .u32 c))), (136, .one (.t (.int .i64 n3))), (137, .one (.t (.int .i64 k)))] 0 167,
            [.sl Ty.«uint32» 1 mI (fun i => [.int .u32 (Y i)]), .sl Ty.«uint32» 1 nI Q]⟩) ⟨p + 3, 0, 0, Z, ⟨by omega, by omega, by omega, by omega, by omega, hZ, fun _ _ => rfl, ?_⟩, ?_⟩ ?_
        · simp [valN]
        · cbv
        · rintro d σ ⟨k, c, Y, ⟨h1, h2, rfl, h3, h4, h8, h9, h10⟩, rfl⟩ K' hK'
          (conv => cbv)
          obtain ⟨k, rfl⟩ := Int.eq_ofNat_of_zero_le h1
          have go : ∀ (x c' v : Int), cutV V (p + 2) k = x → 0 ≤ x → x < 1000000000 → 0 ≤ c' → c' ≤ 1 → 0 ≤ v → v < 1000000000 → v + c' * 1000000000 = Y ((j + k : Nat) : Int) + c + x → (k : Int) < p + 3 →
              K' ⟨mkS [(0, .one (.sub 0 jI kI)), (1, .one (.t (.sl 1 vI (fun i => [.int .u32 (V i)])))), (5, .one (.t (.int .i64 vI))), (7, .one (.t (.int .u64 g))), (14, .one (.t (.int .u32 c'))), (136, .one (.t (.int .i64 n3))), (137, .one (.t (.int .i64 (q Int fun _ => IntKind.i64.wrap (k + 1)))))] 0 167,
                [.sl Ty.«uint32» 1 mI (updFn (fun i => [.int .u32 (Y i)]) (q Int fun _ => jI + k) [.int .u32 v]), .sl Ty.«uint32» 1 nI Q]⟩ := by
            intro x c' v q1 q2 q3 q4 q5 q6 q7 q9 q10
            have ej : (q Int fun _ => jI + (k : Int)) = ((j + k : Nat) : Int) := by subst hq; (try simp (disch := omega) only [q0, nc, w64_id, wu64_id, wu32_id, wu8_id, Int.tdiv_eq_ediv_of_nonneg, Int.tmod_eq_emod_of_nonneg, Int.ofNat_eq_natCast, Int.natAbs_natCast, decide_eq_true_eq, decide_eq_false_iff_not, Bool.not_eq_true', bne_iff_ne, beq_iff_eq, ne_eq]); omega
            have ek : (q Int fun _ => IntKind.i64.wrap ((k : Int) + 1)) = k + 1 := by subst hq; (try simp (disch := omega) only [q0, nc, w64_id, wu64_id, wu32_id, wu8_id, Int.tdiv_eq_ediv_of_nonneg, Int.tmod_eq_emod_of_nonneg, Int.ofNat_eq_natCast, Int.natAbs_natCast, decide_eq_true_eq, decide_eq_false_iff_not, Bool.not_eq_true', bne_iff_ne, beq_iff_eq, ne_eq])
            rw [ej, ek, updFn_row]
            have hu := h8 (j + k) (by omega)
            refine hK' _ ⟨_, ?_, (k : Int) + 1, c', upd1 Y ((j + k : Nat) : Int) v, ⟨by omega, by omega, rfl, q4, q5, fun i hi => ?_, fun i hi => ?_, ?_⟩, rfl⟩
            · omega
            · by_cases hi' : (i : Int) = ((j + k : Nat) : Int)
              · rw [hi', upd1_at]; exact ⟨q6, q7⟩
              · rw [upd1_ne hi']; exact h8 i hi
            · rw [upd1_ne (by omega)]; exact h9 i (by omega)
            · have e1 : ((k : Int) + 1).toNat = k + 1 := by omega
              rw [e1, win_upd]
              rw [Int.toNat_natCast] at h10
              exact back_int h3 q4 q6 q2 q1 hu.1 (show Z ((j : Int) + (k : Int)) = Y ((j + k : Nat) : Int) by rw [h9 (j + k) (by omega)]; congr 1) h10 q9
          have hvk : k < p + 2 → 0 ≤ V (k : Int) ∧ V (k : Int) < 1000000000 := hV k
          have hzk : (k : Int) < p + 3 → 0 ≤ Y ((j + k : Nat) : Int) ∧ Y ((j + k : Nat) : Int) < 1000000000 := fun h => h8 (j + k) (by omega)
          have ej : jI + (k : Int) = ((j + k : Nat) : Int) := by omega
          split
          · rename_i g0
            rw [hq] at g0
            ((try simp (disch := omega) only [q0, nc, w64_id, wu64_id, wu32_id, wu8_id, Int.tdiv_eq_ediv_of_nonneg, Int.tmod_eq_emod_of_nonneg, Int.ofNat_eq_natCast, Int.natAbs_natCast, decide_eq_true_eq, decide_eq_false_iff_not, Bool.not_eq_true', Bool.not_eq_false', bne_iff_ne, bne_eq_false_iff_eq, beq_iff_eq, beq_eq_false_iff_ne, ne_eq] at g0); (try replace g0 := of_decide_eq_true g0); (try replace g0 := of_decide_eq_false g0))
            have hz := hzk (by omega)
            subst hq
            refine Need.mk (by omega) ?_
            split
            · rename_i g1
              ((try simp (disch := omega) only [q0, nc, w64_id, wu64_id, wu32_id, wu8_id, Int.tdiv_eq_ediv_of_nonneg, Int.tmod_eq_emod_of_nonneg, Int.ofNat_eq_natCast, Int.natAbs_natCast, decide_eq_true_eq, decide_eq_false_iff_not, Bool.not_eq_true', Bool.not_eq_false', bne_iff_ne, bne_eq_false_iff_eq, beq_iff_eq, beq_eq_false_iff_ne, ne_eq] at g1); (try replace g1 := of_decide_eq_true g1); (try replace g1 := of_decide_eq_false g1))
              have hv := hvk (by omega)
              refine Need.mk (by omega) ?_
              split
              · rename_i g2
                simp only [q0, ej] at g2
                ((try simp (disch := omega) only [q0, nc, w64_id, wu64_id, wu32_id, wu8_id, Int.tdiv_eq_ediv_of_nonneg, Int.tmod_eq_emod_of_nonneg, Int.ofNat_eq_natCast, Int.natAbs_natCast, decide_eq_true_eq, decide_eq_false_iff_not, Bool.not_eq_true', Bool.not_eq_false', bne_iff_ne, bne_eq_false_iff_eq, beq_iff_eq, beq_eq_false_iff_ne, ne_eq] at g2); (try replace g2 := of_decide_eq_true g2); (try replace g2 := of_decide_eq_false g2))
                refine Need.mk (by omega) (go (V k) _ _ (cutV_in (by omega)) hv.1 hv.2 (by omega) (by omega) ?_ ?_ ?_ (by omega))
                all_goals (simp only [q0, ej]; (try simp (disch := omega) only [q0, nc, w64_id, wu64_id, wu32_id, wu8_id, Int.tdiv_eq_ediv_of_nonneg, Int.tmod_eq_emod_of_nonneg, Int.ofNat_eq_natCast, Int.natAbs_natCast, decide_eq_true_eq, decide_eq_false_iff_not, Bool.not_eq_true', bne_iff_ne, beq_iff_eq, ne_eq]); try omega)
              · rename_i g2
                simp only [q0, ej] at g2
                ((try simp (disch := omega) only [q0, nc, w64_id, wu64_id, wu32_id, wu8_id, Int.tdiv_eq_ediv_of_nonneg, Int.tmod_eq_emod_of_nonneg, Int.ofNat_eq_natCast, Int.natAbs_natCast, decide_eq_true_eq, decide_eq_false_iff_not, Bool.not_eq_true', Bool.not_eq_false', bne_iff_ne, bne_eq_false_iff_eq, beq_iff_eq, beq_eq_false_iff_ne, ne_eq] at g2); (try replace g2 := of_decide_eq_true g2); (try replace g2 := of_decide_eq_false g2))
                refine Need.mk (by omega) (go (V k) _ _ (cutV_in (by omega)) hv.1 hv.2 (by omega) (by omega) ?_ ?_ ?_ (by omega))
                all_goals (simp only [q0, ej]; (try simp (disch := omega) only [q0, nc, w64_id, wu64_id, wu32_id, wu8_id, Int.tdiv_eq_ediv_of_nonneg, Int.tmod_eq_emod_of_nonneg, Int.ofNat_eq_natCast, Int.natAbs_natCast, decide_eq_true_eq, decide_eq_false_iff_not, Bool.not_eq_true', bne_iff_ne, beq_iff_eq, ne_eq]); try omega)
            · rename_i g1
              ((try simp (disch := omega) only [q0, nc, w64_id, wu64_id, wu32_id, wu8_id, Int.tdiv_eq_ediv_of_nonneg, Int.tmod_eq_emod_of_nonneg, Int.ofNat_eq_natCast, Int.natAbs_natCast, decide_eq_true_eq, decide_eq_false_iff_not, Bool.not_eq_true', Bool.not_eq_false', bne_iff_ne, bne_eq_false_iff_eq, beq_iff_eq, beq_eq_false_iff_ne, ne_eq] at g1); (try replace g1 := of_decide_eq_true g1); (try replace g1 := of_decide_eq_false g1))
              have hk2 : k = p + 2 := by omega
              split
              · rename_i g2
                simp only [q0, ej] at g2
                ((try simp (disch := omega) only [q0, nc, w64_id, wu64_id, wu32_id, wu8_id, Int.tdiv_eq_ediv_of_nonneg, Int.tmod_eq_emod_of_nonneg, Int.ofNat_eq_natCast, Int.natAbs_natCast, decide_eq_true_eq, decide_eq_false_iff_not, Bool.not_eq_true', Bool.not_eq_false', bne_iff_ne, bne_eq_false_iff_eq, beq_iff_eq, beq_eq_false_iff_ne, ne_eq] at g2); (try replace g2 := of_decide_eq_true g2); (try replace g2 := of_decide_eq_false g2))
                refine Need.mk (by omega) (go 0 _ _ (by rw [hk2]; exact cutV_out) (by omega) (by omega) (by omega) (by omega) ?_ ?_ ?_ (by omega))
                all_goals (simp only [q0, ej]; (try simp (disch := omega) only [q0, nc, w64_id, wu64_id, wu32_id, wu8_id, Int.tdiv_eq_ediv_of_nonneg, Int.tmod_eq_emod_of_nonneg, Int.ofNat_eq_natCast, Int.natAbs_natCast, decide_eq_true_eq, decide_eq_false_iff_not, Bool.not_eq_true', bne_iff_ne, beq_iff_eq, ne_eq]); try omega)
              · rename_i g2
                simp only [q0, ej] at g2
                ((try simp (disch := omega) only [q0, nc, w64_id, wu64_id, wu32_id, wu8_id, Int.tdiv_eq_ediv_of_nonneg, Int.tmod_eq_emod_of_nonneg, Int.ofNat_eq_natCast, Int.natAbs_natCast, decide_eq_true_eq, decide_eq_false_iff_not, Bool.not_eq_true', Bool.not_eq_false', bne_iff_ne, bne_eq_false_iff_eq, beq_iff_eq, beq_eq_false_iff_ne, ne_eq] at g2); (try replace g2 := of_decide_eq_true g2); (try replace g2 := of_decide_eq_false g2))
                refine Need.mk (by omega) (go 0 _ _ (by rw [hk2]; exact cutV_out) (by omega) (by omega) (by omega) (by omega) ?_ ?_ ?_ (by omega))
                all_goals (simp only [q0, ej]; (try simp (disch := omega) only [q0, nc, w64_id, wu64_id, wu32_id, wu8_id, Int.tdiv_eq_ediv_of_nonneg, Int.tmod_eq_emod_of_nonneg, Int.ofNat_eq_natCast, Int.natAbs_natCast, decide_eq_true_eq, decide_eq_false_iff_not, Bool.not_eq_true', bne_iff_ne, beq_iff_eq, ne_eq]); try omega)
          · rename_i g0
            rw [hq] at g0
            ((try simp (disch := omega) only [q0, nc, w64_id, wu64_id, wu32_id, wu8_id, Int.tdiv_eq_ediv_of_nonneg, Int.tmod_eq_emod_of_nonneg, Int.ofNat_eq_natCast, Int.natAbs_natCast, decide_eq_true_eq, decide_eq_false_iff_not, Bool.not_eq_true', Bool.not_eq_false', bne_iff_ne, bne_eq_false_iff_eq, beq_iff_eq, beq_eq_false_iff_ne, ne_eq] at g0); (try replace g0 := of_decide_eq_true g0); (try replace g0 := of_decide_eq_false g0))
            have hk3 : k = p + 3 := by omega
            subst hk3
            have e3 : (((p + 3 : Nat) : Int)) = n3 := by omega
            rw [e3]
            refine hrest3 c Y h8 (fun i hi => ?_) ?_
            · rw [h9 i (by omega)]; exact hZo i hi
            · rw [Int.toNat_natCast, cutV_all] at h10
              exact h10
    clear hQ2
    refine LoopN.mk [0, 1, 5, 7, 9, 10, 83, 84] (fun d σ => ∃ (k b c : Int) (Z : Int → Int), (0 ≤ k ∧ k ≤ p + 3 ∧ d = ((p : Int) + 3 - k).toNat ∧ 0 ≤ b ∧ b ≤ 1 ∧ 0 ≤ c ∧ c < 1000000000 ∧ (k = p + 3 → c = 0) ∧ (∀ i : Nat, i < m → 0 ≤ Z i ∧ Z i < 1000000000) ∧ (∀ i : Nat, i < j ∨ (j : Int) + k ≤ i → Z i = U i) ∧
        valN (fun i => Z (j + i)) k.toNat + g.toNat * valN (cutV V (p + 2)) k.toNat = valN (fun i => U (j + i)) k.toNat + (c.toNat + b.toNat) * Bs ^ k.toNat) ∧
      σ = ⟨mkS [(0, .one (.sub 0 jI kI)), (1, .one (.t (.sl 1 vI (fun i => [.int .u32 (V i)])))), (5, .one (.t (.int .i64 vI))), (7, .one (.t (.int .u64 g))), (9, .one (.t (.int .u32 b))), (10, .one (.t (.int .u64 c))), (83, .one (.t (.int .i64 n3))), (84, .one (.t (.int .i64 k)))] 0 167,
        [.sl Ty.«uint32» 1 mI (fun i => [.int .u32 (Z i)]), .sl Ty.«uint32» 1 nI Q]⟩) ⟨p + 3, 0, 0, 0, U, ⟨by omega, by omega, by omega, by omega, by omega, by omega, by omega, by omega, hU, fun _ _ => rfl, ?_⟩, ?_⟩ ?_
    · simp [valN]
    · cbv
    · rintro d σ ⟨k, b, c, Z, ⟨h1, h2, rfl, h3, h4, h5, h6, h7, h8, h9, h10⟩, rfl⟩ K' hK'
      (conv => cbv)
      obtain ⟨k, rfl⟩ := Int.eq_ofNat_of_zero_le h1
      have go : ∀ (x c' b' v : Int), cutV V (p + 2) k = x → 0 ≤ x → x < 1000000000 → 0 ≤ b' → b' ≤ 1 → 0 ≤ v → v < 1000000000 → c' = (c + g * x) / 1000000000 → v + (c + g * x) % 1000000000 + b = Z ((j + k : Nat) : Int) + b' * 1000000000 → (k : Int) < p + 3 → ((k : Int) = p + 2 → x = 0) →
          K' ⟨mkS [(0, .one (.sub 0 jI kI)), (1, .one (.t (.sl 1 vI (fun i => [.int .u32 (V i)])))), (5, .one (.t (.int .i64 vI))), (7, .one (.t (.int .u64 g))), (9, .one (.t (.int .u32 b'))), (10, .one (.t (.int .u64 c'))), (83, .one (.t (.int .i64 n3))), (84, .one (.t (.int .i64 (q Int fun _ => IntKind.i64.wrap (k + 1)))))] 0 167,
            [.sl Ty.«uint32» 1 mI (updFn (fun i => [.int .u32 (Z i)]) (q Int fun _ => jI + k) [.int .u32 v]), .sl Ty.«uint32» 1 nI Q]⟩ := by
        intro x c' b' v q1 q2 q3 q4 q5 q6 q7 q8 q9 q10 q11
        have ej : (q Int fun _ => jI + (k : Int)) = ((j + k : Nat) : Int) := by subst hq; (try simp (disch := omega) only [q0, nc, w64_id, wu64_id, wu32_id, wu8_id, Int.tdiv_eq_ediv_of_nonneg, Int.tmod_eq_emod_of_nonneg, Int.ofNat_eq_natCast, Int.natAbs_natCast, decide_eq_true_eq, decide_eq_false_iff_not, Bool.not_eq_true', bne_iff_ne, beq_iff_eq, ne_eq]); omega
        have ek : (q Int fun _ => IntKind.i64.wrap ((k : Int) + 1)) = k + 1 := by subst hq; (try simp (disch := omega) only [q0, nc, w64_id, wu64_id, wu32_id, wu8_id, Int.tdiv_eq_ediv_of_nonneg, Int.tmod_eq_emod_of_nonneg, Int.ofNat_eq_natCast, Int.natAbs_natCast, decide_eq_true_eq, decide_eq_false_iff_not, Bool.not_eq_true', bne_iff_ne, beq_iff_eq, ne_eq])
        rw [ej, ek, updFn_row]
        have hcl := carry_lt ⟨h5, h6⟩ ⟨hg0, hg1⟩ ⟨q2, q3⟩
        have hu := h8 (j + k) (by omega)
        refine hK' _ ⟨_, ?_, (k : Int) + 1, b', c', upd1 Z ((j + k : Nat) : Int) v, ⟨by omega, by omega, rfl, q4, q5, by rw [q8]; exact hcl.2.2.1, by rw [q8]; exact hcl.2.2.2, fun h => ?_, fun i hi => ?_, fun i hi => ?_, ?_⟩, rfl⟩
        · omega
        · have := q11 (by omega)
          rw [q8, this, Int.mul_zero]
          omega
        · by_cases hi' : (i : Int) = ((j + k : Nat) : Int)
          · rw [hi', upd1_at]; exact ⟨q6, q7⟩
          · rw [upd1_ne hi']; exact h8 i hi
        · rw [upd1_ne (by omega)]; exact h9 i (by omega)
        · have e1 : ((k : Int) + 1).toNat = k + 1 := by omega
          rw [e1, win_upd]
          rw [Int.toNat_natCast] at h10
          exact msub_int hg0 h5 h3 q4 q6 q2 q1 hu.1 (show U ((j : Int) + (k : Int)) = Z ((j + k : Nat) : Int) by rw [h9 (j + k) (by omega)]; congr 1) h10 q8 q9
      try simp only [nc, Int.ofNat_eq_natCast]
      have hvk : k < p + 2 → 0 ≤ V (k : Int) ∧ V (k : Int) < 1000000000 := hV k
      have hzk : (k : Int) < p + 3 → 0 ≤ Z ((j + k : Nat) : Int) ∧ Z ((j + k : Nat) : Int) < 1000000000 := fun h => h8 (j + k) (by omega)
      have ej : jI + (k : Int) = ((j + k : Nat) : Int) := by omega
      split
      · rename_i g0
        rw [hq] at g0
        ((try simp (disch := omega) only [q0, nc, w64_id, wu64_id, wu32_id, wu8_id, Int.tdiv_eq_ediv_of_nonneg, Int.tmod_eq_emod_of_nonneg, Int.ofNat_eq_natCast, Int.natAbs_natCast, decide_eq_true_eq, decide_eq_false_iff_not, Bool.not_eq_true', Bool.not_eq_false', bne_iff_ne, bne_eq_false_iff_eq, beq_iff_eq, beq_eq_false_iff_ne, ne_eq] at g0); (try replace g0 := of_decide_eq_true g0); (try replace g0 := of_decide_eq_false g0))
        have hz := hzk (by omega)
        subst hq
        split
        · rename_i g1
          ((try simp (disch := omega) only [q0, nc, w64_id, wu64_id, wu32_id, wu8_id, Int.tdiv_eq_ediv_of_nonneg, Int.tmod_eq_emod_of_nonneg, Int.ofNat_eq_natCast, Int.natAbs_natCast, decide_eq_true_eq, decide_eq_false_iff_not, Bool.not_eq_true', Bool.not_eq_false', bne_iff_ne, bne_eq_false_iff_eq, beq_iff_eq, beq_eq_false_iff_ne, ne_eq] at g1); (try replace g1 := of_decide_eq_true g1); (try replace g1 := of_decide_eq_false g1))
          have hv := hvk (by omega)
          have hm := limb_mul_le hg0 hg1 hv.1 hv.2
          refine Need.mk (by omega) (Need.mk (by omega) (Need.mk (by omega) (Need.mk (by omega) ?_)))
          split
          · rename_i g2
            simp only [q0, ej] at g2
            ((try simp (disch := omega) only [q0, nc, w64_id, wu64_id, wu32_id, wu8_id, Int.tdiv_eq_ediv_of_nonneg, Int.tmod_eq_emod_of_nonneg, Int.ofNat_eq_natCast, Int.natAbs_natCast, decide_eq_true_eq, decide_eq_false_iff_not, Bool.not_eq_true', Bool.not_eq_false', bne_iff_ne, bne_eq_false_iff_eq, beq_iff_eq, beq_eq_false_iff_ne, ne_eq] at g2); (try replace g2 := of_decide_eq_true g2); (try replace g2 := of_decide_eq_false g2))
            refine Need.mk (by omega) (Need.mk (by omega) (go (V k) _ _ _ (cutV_in (by omega)) hv.1 hv.2 (by omega) (by omega) ?_ ?_ ?_ ?_ (by omega) (by omega)))
            all_goals (simp only [q0, ej]; (try simp (disch := omega) only [q0, nc, w64_id, wu64_id, wu32_id, wu8_id, Int.tdiv_eq_ediv_of_nonneg, Int.tmod_eq_emod_of_nonneg, Int.ofNat_eq_natCast, Int.natAbs_natCast, decide_eq_true_eq, decide_eq_false_iff_not, Bool.not_eq_true', bne_iff_ne, beq_iff_eq, ne_eq]); try omega)
          · rename_i g2
            simp only [q0, ej] at g2
            ((try simp (disch := omega) only [q0, nc, w64_id, wu64_id, wu32_id, wu8_id, Int.tdiv_eq_ediv_of_nonneg, Int.tmod_eq_emod_of_nonneg, Int.ofNat_eq_natCast, Int.natAbs_natCast, decide_eq_true_eq, decide_eq_false_iff_not, Bool.not_eq_true', Bool.not_eq_false', bne_iff_ne, bne_eq_false_iff_eq, beq_iff_eq, beq_eq_false_iff_ne, ne_eq] at g2); (try replace g2 := of_decide_eq_true g2); (try replace g2 := of_decide_eq_false g2))
            refine Need.mk (by omega) (Need.mk (by omega) (go (V k) _ _ _ (cutV_in (by omega)) hv.1 hv.2 (by omega) (by omega) ?_ ?_ ?_ ?_ (by omega) (by omega)))
            all_goals (simp only [q0, ej]; (try simp (disch := omega) only [q0, nc, w64_id, wu64_id, wu32_id, wu8_id, Int.tdiv_eq_ediv_of_nonneg, Int.tmod_eq_emod_of_nonneg, Int.ofNat_eq_natCast, Int.natAbs_natCast, decide_eq_true_eq, decide_eq_false_iff_not, Bool.not_eq_true', bne_iff_ne, beq_iff_eq, ne_eq]); try omega)
        · rename_i g1
          ((try simp (disch := omega) only [q0, nc, w64_id, wu64_id, wu32_id, wu8_id, Int.tdiv_eq_ediv_of_nonneg, Int.tmod_eq_emod_of_nonneg, Int.ofNat_eq_natCast, Int.natAbs_natCast, decide_eq_true_eq, decide_eq_false_iff_not, Bool.not_eq_true', Bool.not_eq_false', bne_iff_ne, bne_eq_false_iff_eq, beq_iff_eq, beq_eq_false_iff_ne, ne_eq] at g1); (try replace g1 := of_decide_eq_true g1); (try replace g1 := of_decide_eq_false g1))
          have hk2 : k = p + 2 := by omega
          refine Need.mk (by omega) (Need.mk (by omega) (Need.mk (by omega) ?_))
          split
          · rename_i g2
            simp only [q0, ej] at g2
            ((try simp (disch := omega) only [q0, nc, w64_id, wu64_id, wu32_id, wu8_id, Int.tdiv_eq_ediv_of_nonneg, Int.tmod_eq_emod_of_nonneg, Int.ofNat_eq_natCast, Int.natAbs_natCast, decide_eq_true_eq, decide_eq_false_iff_not, Bool.not_eq_true', Bool.not_eq_false', bne_iff_ne, bne_eq_false_iff_eq, beq_iff_eq, beq_eq_false_iff_ne, ne_eq] at g2); (try replace g2 := of_decide_eq_true g2); (try replace g2 := of_decide_eq_false g2))
            refine Need.mk (by omega) (Need.mk (by omega) (go 0 _ _ _ (by rw [hk2]; exact cutV_out) (by omega) (by omega) (by omega) (by omega) ?_ ?_ ?_ ?_ (by omega) (by omega)))
            all_goals (simp only [q0, ej, Int.mul_zero, Int.add_zero]; (try simp (disch := omega) only [q0, nc, w64_id, wu64_id, wu32_id, wu8_id, Int.tdiv_eq_ediv_of_nonneg, Int.tmod_eq_emod_of_nonneg, Int.ofNat_eq_natCast, Int.natAbs_natCast, decide_eq_true_eq, decide_eq_false_iff_not, Bool.not_eq_true', bne_iff_ne, beq_iff_eq, ne_eq]); try omega)
          · rename_i g2
            simp only [q0, ej] at g2
            ((try simp (disch := omega) only [q0, nc, w64_id, wu64_id, wu32_id, wu8_id, Int.tdiv_eq_ediv_of_nonneg, Int.tmod_eq_emod_of_nonneg, Int.ofNat_eq_natCast, Int.natAbs_natCast, decide_eq_true_eq, decide_eq_false_iff_not, Bool.not_eq_true', Bool.not_eq_false', bne_iff_ne, bne_eq_false_iff_eq, beq_iff_eq, beq_eq_false_iff_ne, ne_eq] at g2); (try replace g2 := of_decide_eq_true g2); (try replace g2 := of_decide_eq_false g2))
            refine Need.mk (by omega) (Need.mk (by omega) (go 0 _ _ _ (by rw [hk2]; exact cutV_out) (by omega) (by omega) (by omega) (by omega) ?_ ?_ ?_ ?_ (by omega) (by omega)))
            all_goals (simp only [q0, ej, Int.mul_zero, Int.add_zero]; (try simp (disch := omega) only [q0, nc, w64_id, wu64_id, wu32_id, wu8_id, Int.tdiv_eq_ediv_of_nonneg, Int.tmod_eq_emod_of_nonneg, Int.ofNat_eq_natCast, Int.natAbs_natCast, decide_eq_true_eq, decide_eq_false_iff_not, Bool.not_eq_true', bne_iff_ne, beq_iff_eq, ne_eq]); try omega)
      · rename_i g0
        rw [hq] at g0
        ((try simp (disch := omega) only [q0, nc, w64_id, wu64_id, wu32_id, wu8_id, Int.tdiv_eq_ediv_of_nonneg, Int.tmod_eq_emod_of_nonneg, Int.ofNat_eq_natCast, Int.natAbs_natCast, decide_eq_true_eq, decide_eq_false_iff_not, Bool.not_eq_true', Bool.not_eq_false', bne_iff_ne, bne_eq_false_iff_eq, beq_iff_eq, beq_eq_false_iff_ne, ne_eq] at g0); (try replace g0 := of_decide_eq_true g0); (try replace g0 := of_decide_eq_false g0))
        have hk3 : k = p + 3 := by omega
        subst hk3
        have e3 : (((p + 3 : Nat) : Int)) = n3 := by omega
        rw [e3]
        refine hrest2 b c Z h8 (fun i hi => h9 i (by omega)) h3 h4 ?_
        rw [Int.toNat_natCast, cutV_all] at h10
        rw [h10, h7 (by omega)]
        simp
  clear hQ
  have eB : Bs = 1000000000 := rfl
  obtain ⟨un, eun⟩ := Int.eq_ofNat_of_zero_le hun.1
  obtain ⟨u1, eu1⟩ := Int.eq_ofNat_of_zero_le hun1.1
  obtain ⟨u2, eu2⟩ := Int.eq_ofNat_of_zero_le hun2.1
  obtain ⟨v1, ev1⟩ := Int.eq_ofNat_of_zero_le hv1.1
  obtain ⟨v2, ev2⟩ := Int.eq_ofNat_of_zero_le hv2.1
  have a2 : U ((j : Int) + ((p + 2 : Nat) : Int)) = (un : Int) := by rw [← Int.natCast_add]; exact eun
  have a1 : U ((j : Int) + ((p + 1 : Nat) : Int)) = (u1 : Int) := by rw [← Int.natCast_add]; exact eu1
  have a0 : U ((j : Int) + (p : Int)) = (u2 : Int) := by rw [← Int.natCast_add]; exact eu2
  have hwl : ∀ i : Nat, i < p + 3 → 0 ≤ U ((j : Int) + (i : Int)) ∧ U ((j : Int) + (i : Int)) < 1000000000 := fun i hi => by
    rw [← Int.natCast_add]
    exact hU (j + i) (by omega)
  have tW : valN (fun i => U (j + i)) (p + 3) = ((un * Bs + u1) * Bs + u2) * Bs ^ p + valN (fun i => U (j + i)) p := by
    rw [valN_top3, a2, a1, a0]
    rw [Int.toNat_natCast, Int.toNat_natCast, Int.toNat_natCast]
  have tV : valN V (p + 2) = (v1 * Bs + v2) * Bs ^ p + valN V p := by
    rw [valN_top2, ev1, ev2, Int.toNat_natCast, Int.toNat_natCast]
  have hul : valN (fun i => U (j + i)) p < Bs ^ p := valN_lt (fun i hi => hwl i (by omega))
  have hvl : valN V p < Bs ^ p := valN_lt (fun i hi => hV i (by omega))
  have hhN : head = ((un * Bs + u1 : Nat) : Int) := by rw [← hhd, eun, eu1, limb2_cast]
  have hlt2 : ((un * Bs + u1) * Bs + u2) * Bs ^ p + valN (fun i => U (j + i)) p < ((v1 * Bs + v2) * Bs ^ p + valN V p) * Bs := by rw [← tW, ← tV]; exact hlt
  have hunv : un ≤ v1 := by
    have h := top_le (W := fun i => U (j + i)) (V := V) (n := p + 1) hwl hV hlt
    rw [ev1, Int.toNat_natCast] at h
    have h' : (U ((j : Int) + ((p + 2 : Nat) : Int))).toNat ≤ v1 := h
    rw [a2, Int.toNat_natCast] at h'
    exact h'
  have hu1 : u1 < Bs := by rw [eB]; omega
  have hv2l : v2 < Bs := by rw [eB]; omega
  have hv1p : 0 < v1 := by omega
  have hunB : un < 1000000000 := by omega
  have hu1B : u1 < 1000000000 := by omega
  have hu2B : u2 < 1000000000 := by omega
  have hv1B : v1 < 1000000000 := by omega
  have hv2B : v2 < 1000000000 := by omega
  refine LoopN.mk [0, 1, 5, 7, 8] (fun d σ => ∃ (g r : Int), (0 ≤ g ∧ 0 ≤ r ∧ r < 1000000000 ∧ d = g.toNat ∧ g * V ((p + 1 : Nat) : Int) + r = head ∧ valN (fun i => U (j + i)) (p + 3) / valN V (p + 2) ≤ g.toNat) ∧
    σ = ⟨mkS [(0, .one (.sub 0 jI kI)), (1, .one (.t (.sl 1 vI (fun i => [.int .u32 (V i)])))), (5, .one (.t (.int .i64 vI))), (7, .one (.t (.int .u64 g))), (8, .one (.t (.int .u64 r)))] 0 167,
      [.sl Ty.«uint32» 1 mI (fun i => [.int .u32 (U i)]), .sl Ty.«uint32» 1 nI Q]⟩) ⟨_, head / V ((p + 1 : Nat) : Int), head % V ((p + 1 : Nat) : Int), ⟨hdq, hdm, by omega, rfl, ?_, ?_⟩, ?_⟩ ?_
  · exact hde
  · have t2 : valN (fun i => U (j + i)) (p + 3) = (un * Bs + u1) * Bs ^ (p + 1) + valN (fun i => U (j + i)) (p + 1) := by
      have h := valN_top2 (fun i => U (j + i)) (p + 1)
      rw [show p + 1 + 2 = p + 3 from rfl] at h
      rw [h]
      show ((U ((j : Int) + ((p + 2 : Nat) : Int))).toNat * Bs + (U ((j : Int) + ((p + 1 : Nat) : Int))).toNat) * Bs ^ (p + 1) + _ = _
      rw [a2, a1, Int.toNat_natCast, Int.toNat_natCast]
    have t3 : valN V (p + 2) = v1 * Bs ^ (p + 1) + valN V (p + 1) := by
      rw [valN, ev1, Int.toNat_natCast]
      omega
    rw [t2, t3, hhN, ev1, ← Int.natCast_ediv, Int.toNat_natCast]
    exact knuth_first hv1p (Bp_pos _) (valN_lt (fun i hi => hwl i (by omega)))
  · cbv
  · rintro d σ ⟨g, r, ⟨h1, h2, h3, rfl, h4, h5⟩, rfl⟩ K' hK'
    (conv => cbv)
    obtain ⟨g, rfl⟩ := Int.eq_ofNat_of_zero_le h1
    obtain ⟨r, rfl⟩ := Int.eq_ofNat_of_zero_le h2
    have he : g * v1 + r = un * Bs + u1 := guess_eq ev1 hhN h4
    have h5' : (((un * Bs + u1) * Bs + u2) * Bs ^ p + valN (fun i => U (j + i)) p) / ((v1 * Bs + v2) * Bs ^ p + valN V p) ≤ g := by
      rw [← tW, ← tV]
      exact h5
    refine Need.mk (by (exact ⟨by kernel_rfl, by kernel_rfl⟩)) ?_
    split
    · rename_i g1
      rw [hq] at g1
      ((try simp (disch := omega) only [q0, nc, w64_id, wu64_id, wu32_id, wu8_id, Int.tdiv_eq_ediv_of_nonneg, Int.tmod_eq_emod_of_nonneg, Int.ofNat_eq_natCast, Int.natAbs_natCast, decide_eq_true_eq, decide_eq_false_iff_not, Bool.not_eq_true', Bool.not_eq_false', bne_iff_ne, bne_eq_false_iff_eq, beq_iff_eq, beq_eq_false_iff_ne, ne_eq] at g1); (try replace g1 := of_decide_eq_true g1); (try replace g1 := of_decide_eq_false g1))
      obtain ⟨p1, p2⟩ := guess_less hul he hlt2 h5' (.inl (by rw [eB]; omega))
      have hgb := guess_le hv1p hunB hu1B he
      obtain ⟨g, rfl⟩ : ∃ k, g = k + 1 := ⟨g - 1, by omega⟩
      rw [Nat.add_sub_cancel] at p2
      have he2 : g * v1 + (r + v1) = un * Bs + u1 := by rw [Nat.add_mul] at he; omega
      have e10 : (q Int fun _ => IntKind.u64.wrap ((r : Int) + (v1 : Int))) = ((r + v1 : Nat) : Int) := by subst hq; exact wrap_sum (by omega) hv1B
      have e11 : (q Int fun _ => IntKind.u64.wrap (((g + 1 : Nat) : Int) - 1)) = (g : Int) := by subst hq; exact wrap_dec (by omega)
      refine Need.mk (by subst hq; (try simp (disch := omega) only [q0, nc, w64_id, wu64_id, wu32_id, wu8_id, Int.tdiv_eq_ediv_of_nonneg, Int.tmod_eq_emod_of_nonneg, Int.ofNat_eq_natCast, Int.natAbs_natCast, decide_eq_true_eq, decide_eq_false_iff_not, Bool.not_eq_true', bne_iff_ne, beq_iff_eq, ne_eq]); omega) ?_
      rw [e7, ev1, e10, e11]
      split
      · rename_i g2
        rw [hq] at g2
        ((try simp (disch := omega) only [q0, nc, w64_id, wu64_id, wu32_id, wu8_id, Int.tdiv_eq_ediv_of_nonneg, Int.tmod_eq_emod_of_nonneg, Int.ofNat_eq_natCast, Int.natAbs_natCast, decide_eq_true_eq, decide_eq_false_iff_not, Bool.not_eq_true', Bool.not_eq_false', bne_iff_ne, bne_eq_false_iff_eq, beq_iff_eq, beq_eq_false_iff_ne, ne_eq] at g2); (try replace g2 := of_decide_eq_true g2); (try replace g2 := of_decide_eq_false g2))
        obtain ⟨b1, b2⟩ := guess_brk (B := Bs) he2 rfl hu1 hunv (by rw [eB]; omega) hv2l
        refine hrest 0 _ _ rfl (by omega) (by rw [eB] at b1; omega) ?_ ?_
        · rw [Int.toNat_natCast, tW, tV]; exact p2
        · rw [Int.toNat_natCast, tW, tV]; exact guess_ok hvl he2 hv1p b1 b2
      · rename_i g2
        simp [hq, q0] at g2
        refine hK' _ ⟨_, ?_, (g : Int), ((r + v1 : Nat) : Int), ⟨by omega, by omega, by omega, rfl, ?_, ?_⟩, rfl⟩
        · omega
        · exact guess_int ev1 hhN he2
        · rw [Int.toNat_natCast, tW, tV]; exact p2
    · rename_i g1
      simp [hq, q0] at g1
      have e8 : (q Int fun _ => IntKind.u64.wrap (V (q Int fun _ => IntKind.i64.wrap (vI - 2)))) = (v2 : Int) := by
        subst hq; simp (disch := omega) only [q0, w64_id, i2, ev2, wu64_id]
      have e9 : (q Int fun _ => IntKind.u64.wrap (U (q Int fun _ => jI + q Int fun _ => IntKind.i64.wrap (vI - 2)))) = (u2 : Int) := by
        subst hq; simp (disch := omega) only [q0, w64_id, i2, i5, eu2, wu64_id]
      have e12 : (q Int fun _ => IntKind.u64.wrap ((g : Int) * (v2 : Int))) = ((g * v2 : Nat) : Int) := by subst hq; exact wrap_mul (by omega) hv2B
      obtain ⟨rx, hrx⟩ : ∃ rx : Nat, rx = r * Bs + u2 := ⟨_, rfl⟩
      have e13 : (q Int fun _ => IntKind.u64.wrap ((q Int fun _ => IntKind.u64.wrap ((r : Int) * 1000000000)) + (u2 : Int))) = (rx : Int) := by rw [hrx]; subst hq; exact wrap_limb2 (by omega) hu2B
      rw [e9, e8, e12, e13]
      refine Need.mk (by subst hq; (try simp (disch := omega) only [q0, nc, w64_id, wu64_id, wu32_id, wu8_id, Int.tdiv_eq_ediv_of_nonneg, Int.tmod_eq_emod_of_nonneg, Int.ofNat_eq_natCast, Int.natAbs_natCast, decide_eq_true_eq, decide_eq_false_iff_not, Bool.not_eq_true', bne_iff_ne, beq_iff_eq, ne_eq]); omega) (Need.mk (by subst hq; (try simp (disch := omega) only [q0, nc, w64_id, wu64_id, wu32_id, wu8_id, Int.tdiv_eq_ediv_of_nonneg, Int.tmod_eq_emod_of_nonneg, Int.ofNat_eq_natCast, Int.natAbs_natCast, decide_eq_true_eq, decide_eq_false_iff_not, Bool.not_eq_true', bne_iff_ne, beq_iff_eq, ne_eq]); omega) ?_)
      split
      · rename_i g2
        rw [hq] at g2
        ((try simp (disch := omega) only [q0, nc, w64_id, wu64_id, wu32_id, wu8_id, Int.tdiv_eq_ediv_of_nonneg, Int.tmod_eq_emod_of_nonneg, Int.ofNat_eq_natCast, Int.natAbs_natCast, decide_eq_true_eq, decide_eq_false_iff_not, Bool.not_eq_true', Bool.not_eq_false', bne_iff_ne, bne_eq_false_iff_eq, beq_iff_eq, beq_eq_false_iff_ne, ne_eq] at g2); (try replace g2 := of_decide_eq_true g2); (try replace g2 := of_decide_eq_false g2))
        have hlt3 : r * Bs + u2 < g * v2 := by rw [← hrx]; exact Int.ofNat_lt.1 g2
        obtain ⟨p1, p2⟩ := guess_less hul he hlt2 h5' (.inr hlt3)
        have hgb := guess_le hv1p hunB hu1B he
        obtain ⟨g, rfl⟩ : ∃ k, g = k + 1 := ⟨g - 1, by omega⟩
        rw [Nat.add_sub_cancel] at p2
        have he2 : g * v1 + (r + v1) = un * Bs + u1 := by rw [Nat.add_mul] at he; omega
        have e10 : (q Int fun _ => IntKind.u64.wrap ((r : Int) + (v1 : Int))) = ((r + v1 : Nat) : Int) := by subst hq; exact wrap_sum (by omega) hv1B
        have e11 : (q Int fun _ => IntKind.u64.wrap (((g + 1 : Nat) : Int) - 1)) = (g : Int) := by subst hq; exact wrap_dec (by omega)
        refine Need.mk (by subst hq; (try simp (disch := omega) only [q0, nc, w64_id, wu64_id, wu32_id, wu8_id, Int.tdiv_eq_ediv_of_nonneg, Int.tmod_eq_emod_of_nonneg, Int.ofNat_eq_natCast, Int.natAbs_natCast, decide_eq_true_eq, decide_eq_false_iff_not, Bool.not_eq_true', bne_iff_ne, beq_iff_eq, ne_eq]); omega) ?_
        rw [e7, ev1, e10, e11]
        split
        · rename_i g2
          rw [hq] at g2
          ((try simp (disch := omega) only [q0, nc, w64_id, wu64_id, wu32_id, wu8_id, Int.tdiv_eq_ediv_of_nonneg, Int.tmod_eq_emod_of_nonneg, Int.ofNat_eq_natCast, Int.natAbs_natCast, decide_eq_true_eq, decide_eq_false_iff_not, Bool.not_eq_true', Bool.not_eq_false', bne_iff_ne, bne_eq_false_iff_eq, beq_iff_eq, beq_eq_false_iff_ne, ne_eq] at g2); (try replace g2 := of_decide_eq_true g2); (try replace g2 := of_decide_eq_false g2))
          obtain ⟨b1, b2⟩ := guess_brk (B := Bs) he2 rfl hu1 hunv (by rw [eB]; omega) hv2l
          refine hrest 0 _ _ rfl (by omega) (by rw [eB] at b1; omega) ?_ ?_
          · rw [Int.toNat_natCast, tW, tV]; exact p2
          · rw [Int.toNat_natCast, tW, tV]; exact guess_ok hvl he2 hv1p b1 b2
        · rename_i g2
          simp [hq, q0] at g2
          refine hK' _ ⟨_, ?_, (g : Int), ((r + v1 : Nat) : Int), ⟨by omega, by omega, by omega, rfl, ?_, ?_⟩, rfl⟩
          · omega
          · exact guess_int ev1 hhN he2
          · rw [Int.toNat_natCast, tW, tV]; exact p2
      · rename_i g2
        rw [hq] at g2
        ((try simp (disch := omega) only [q0, nc, w64_id, wu64_id, wu32_id, wu8_id, Int.tdiv_eq_ediv_of_nonneg, Int.tmod_eq_emod_of_nonneg, Int.ofNat_eq_natCast, Int.natAbs_natCast, decide_eq_true_eq, decide_eq_false_iff_not, Bool.not_eq_true', Bool.not_eq_false', bne_iff_ne, bne_eq_false_iff_eq, beq_iff_eq, beq_eq_false_iff_ne, ne_eq] at g2); (try replace g2 := of_decide_eq_true g2); (try replace g2 := of_decide_eq_false g2))
        have hle3 : g * v2 ≤ r * Bs + u2 := by rw [← hrx]; exact Int.ofNat_le.1 (Int.not_lt.1 g2)
        refine hrest 0 _ _ rfl (by omega) g1 ?_ ?_
        · rw [Int.toNat_natCast, tW, tV]; exact h5'
        · rw [Int.toNat_natCast, tW, tV]; exact guess_ok hvl he hv1p (by rw [eB]; omega) hle3
end Sx

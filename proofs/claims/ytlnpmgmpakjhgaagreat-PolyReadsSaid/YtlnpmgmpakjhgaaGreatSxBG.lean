/- A part of the proof of PolyReadsSaid: texts SxRat3 SxRat6. -/
import Derived.Test.YtlnpmgmpakjhgaaGreatSxAV
set_option linter.all false
section
set_option maxRecDepth 100000
namespace Sx
open Go

theorem sub_c (x y : Nat) (hxl : len x ≤ 100000000) (hyx : y ≤ x) : PureF Pg F.rational_sub (fun q => [.one (natT q x), .one (natT q y)]) (fun q => .one (natT q (x - y))) := by
  have hyl : len y ≤ len x := len_mono hyx
  refine walkF mixed tau_ok At.rational_sub (fun CN DN q R hCN hDN hq hR => ?_)
  (conv => cbv)
  refine Need.mk (by subst hq; (try simp (disch := omega) only [q0, nc, w64_id, wu64_id, wu32_id, wu8_id, Int.tdiv_eq_ediv_of_nonneg, Int.tmod_eq_emod_of_nonneg, Int.ofNat_eq_natCast, Int.natAbs_natCast, decide_eq_true_eq, decide_eq_false_iff_not, Bool.not_eq_true', bne_iff_ne, beq_iff_eq, ne_eq]); omega) ?_
  refine LoopN.mk [0, 1, 5, 6, 13, 14] (fun d σ => ∃ (k c : Int) (Z : Int → Int), (0 ≤ k ∧ k ≤ len x ∧ d = ((len x : Int) - k).toNat ∧ 0 ≤ c ∧ c ≤ 1 ∧ (∀ i : Nat, (i : Int) < k → 0 ≤ Z i ∧ Z i < 1000000000) ∧ valN Z k.toNat + y % Bs ^ k.toNat = x % Bs ^ k.toNat + c.toNat * Bs ^ k.toNat) ∧
      σ = ⟨mkS [(0, .one (.t (natT q x))), (1, .one (.t (natT q y))), (5, .one (.row 0 (q Int fun _ => (len x : Int)))), (6, .one (.t (.int .u32 c))), (13, .one (.t (.int .i64 (q Int fun _ => (len x : Int))))), (14, .one (.t (.int .i64 k)))] 0 56,
        [.sl 196 1 (q Int fun _ => (len x : Int)) (fun i => [.int .u32 (Z i)])]⟩) ⟨len x, 0, 0, fun _ => 0, ⟨by omega, by omega, by omega, by omega, by omega, fun i hi => by omega, by simp [valN, Nat.mod_one]⟩, ?_⟩ ?_
  · cbv
  · rintro d σ ⟨k, c, Z, ⟨h1, h2, rfl, h3, h4, h5, h6⟩, rfl⟩ K hK
    (conv => cbv)
    obtain ⟨k, rfl⟩ := Int.eq_ofNat_of_zero_le h1
    have hlx := limb_lt x k
    have hly := limb_lt y k
    have hlx0 := limb_nonneg x k
    have hly0 := limb_nonneg y k
    have hyk : (len y : Int) ≤ k → limb y k = 0 := fun h => limb_high (by omega)
    have go : ∀ (c' v : Int), (0 ≤ v ∧ v < 1000000000 ∧ 0 ≤ c' ∧ c' ≤ 1 ∧ v + (c + limb y k) = limb x k + c' * 1000000000) → (k : Int) < len x →
        K ⟨mkS [(0, .one (.t (natT q x))), (1, .one (.t (natT q y))), (5, .one (.row 0 (q Int fun _ => (len x : Int)))), (6, .one (.t (.int .u32 c'))), (13, .one (.t (.int .i64 (q Int fun _ => (len x : Int))))), (14, .one (.t (.int .i64 (q Int fun _ => IntKind.i64.wrap (k + 1)))))] 0 56,
          [.sl 196 1 (q Int fun _ => (len x : Int)) (updFn (fun i => [.int .u32 (Z i)]) k [.int .u32 v])]⟩ := by
      intro c' v ⟨p1, p2, p3, p4, p5⟩ hk
      rw [updFn_row]
      have e : (q Int fun _ => IntKind.i64.wrap ((k : Int) + 1)) = k + 1 := by subst hq; (try simp (disch := omega) only [q0, nc, w64_id, wu64_id, wu32_id, wu8_id, Int.tdiv_eq_ediv_of_nonneg, Int.tmod_eq_emod_of_nonneg, Int.ofNat_eq_natCast, Int.natAbs_natCast, decide_eq_true_eq, decide_eq_false_iff_not, Bool.not_eq_true', bne_iff_ne, beq_iff_eq, ne_eq])
      rw [e]
      refine hK _ ⟨_, ?_, (k : Int) + 1, c', upd1 Z k v, ⟨by omega, by omega, rfl, p3, p4, fun i hi => ?_, ?_⟩, rfl⟩
      · omega
      · by_cases hik : (i : Int) = k
        · rw [hik, upd1_at]; exact ⟨p1, p2⟩
        · rw [upd1_ne hik]; exact h5 i (by omega)
      · exact sub_step h3 p3 p1 h6 p5
    split
    · rename_i g0
      simp [hq, q0, nc] at g0
      split
      · rename_i g1
        simp [hq, q0, nc] at g1
        refine Need.mk (by subst hq; (try simp (disch := omega) only [q0, nc, w64_id, wu64_id, wu32_id, wu8_id, Int.tdiv_eq_ediv_of_nonneg, Int.tmod_eq_emod_of_nonneg, Int.ofNat_eq_natCast, Int.natAbs_natCast, decide_eq_true_eq, decide_eq_false_iff_not, Bool.not_eq_true', bne_iff_ne, beq_iff_eq, ne_eq]); omega) (Need.mk (by subst hq; (try simp (disch := omega) only [q0, nc, w64_id, wu64_id, wu32_id, wu8_id, Int.tdiv_eq_ediv_of_nonneg, Int.tmod_eq_emod_of_nonneg, Int.ofNat_eq_natCast, Int.natAbs_natCast, decide_eq_true_eq, decide_eq_false_iff_not, Bool.not_eq_true', bne_iff_ne, beq_iff_eq, ne_eq]); omega) ?_)
        split
        · rename_i g2
          simp (disch := omega) only [hq, q0, nc, wu32_id, decide_eq_true_eq] at g2
          refine Need.mk (by subst hq; (try simp (disch := omega) only [q0, nc, w64_id, wu64_id, wu32_id, wu8_id, Int.tdiv_eq_ediv_of_nonneg, Int.tmod_eq_emod_of_nonneg, Int.ofNat_eq_natCast, Int.natAbs_natCast, decide_eq_true_eq, decide_eq_false_iff_not, Bool.not_eq_true', bne_iff_ne, beq_iff_eq, ne_eq]); omega) (Need.mk (by subst hq; (try simp (disch := omega) only [q0, nc, w64_id, wu64_id, wu32_id, wu8_id, Int.tdiv_eq_ediv_of_nonneg, Int.tmod_eq_emod_of_nonneg, Int.ofNat_eq_natCast, Int.natAbs_natCast, decide_eq_true_eq, decide_eq_false_iff_not, Bool.not_eq_true', bne_iff_ne, beq_iff_eq, ne_eq]); omega) (go _ _ ⟨?_, ?_, ?_, ?_, ?_⟩ (by omega)))
          all_goals (subst hq; (try simp (disch := omega) only [q0, nc, w64_id, wu64_id, wu32_id, wu8_id, Int.tdiv_eq_ediv_of_nonneg, Int.tmod_eq_emod_of_nonneg, Int.ofNat_eq_natCast, Int.natAbs_natCast, decide_eq_true_eq, decide_eq_false_iff_not, Bool.not_eq_true', bne_iff_ne, beq_iff_eq, ne_eq]); omega)
        · rename_i g2
          simp (disch := omega) only [hq, q0, nc, wu32_id, decide_eq_false_iff_not] at g2
          refine Need.mk (by subst hq; (try simp (disch := omega) only [q0, nc, w64_id, wu64_id, wu32_id, wu8_id, Int.tdiv_eq_ediv_of_nonneg, Int.tmod_eq_emod_of_nonneg, Int.ofNat_eq_natCast, Int.natAbs_natCast, decide_eq_true_eq, decide_eq_false_iff_not, Bool.not_eq_true', bne_iff_ne, beq_iff_eq, ne_eq]); omega) (Need.mk (by subst hq; (try simp (disch := omega) only [q0, nc, w64_id, wu64_id, wu32_id, wu8_id, Int.tdiv_eq_ediv_of_nonneg, Int.tmod_eq_emod_of_nonneg, Int.ofNat_eq_natCast, Int.natAbs_natCast, decide_eq_true_eq, decide_eq_false_iff_not, Bool.not_eq_true', bne_iff_ne, beq_iff_eq, ne_eq]); omega) (go _ _ ⟨?_, ?_, ?_, ?_, ?_⟩ (by omega)))
          all_goals (subst hq; (try simp (disch := omega) only [q0, nc, w64_id, wu64_id, wu32_id, wu8_id, Int.tdiv_eq_ediv_of_nonneg, Int.tmod_eq_emod_of_nonneg, Int.ofNat_eq_natCast, Int.natAbs_natCast, decide_eq_true_eq, decide_eq_false_iff_not, Bool.not_eq_true', bne_iff_ne, beq_iff_eq, ne_eq]); omega)
      · rename_i g1
        simp [hq, q0, nc] at g1
        have hz := hyk (by omega)
        refine Need.mk (by subst hq; (try simp (disch := omega) only [q0, nc, w64_id, wu64_id, wu32_id, wu8_id, Int.tdiv_eq_ediv_of_nonneg, Int.tmod_eq_emod_of_nonneg, Int.ofNat_eq_natCast, Int.natAbs_natCast, decide_eq_true_eq, decide_eq_false_iff_not, Bool.not_eq_true', bne_iff_ne, beq_iff_eq, ne_eq]); omega) ?_
        split
        · rename_i g2
          simp (disch := omega) only [hq, q0, nc, wu32_id, decide_eq_true_eq] at g2
          refine Need.mk (by subst hq; (try simp (disch := omega) only [q0, nc, w64_id, wu64_id, wu32_id, wu8_id, Int.tdiv_eq_ediv_of_nonneg, Int.tmod_eq_emod_of_nonneg, Int.ofNat_eq_natCast, Int.natAbs_natCast, decide_eq_true_eq, decide_eq_false_iff_not, Bool.not_eq_true', bne_iff_ne, beq_iff_eq, ne_eq]); omega) (Need.mk (by subst hq; (try simp (disch := omega) only [q0, nc, w64_id, wu64_id, wu32_id, wu8_id, Int.tdiv_eq_ediv_of_nonneg, Int.tmod_eq_emod_of_nonneg, Int.ofNat_eq_natCast, Int.natAbs_natCast, decide_eq_true_eq, decide_eq_false_iff_not, Bool.not_eq_true', bne_iff_ne, beq_iff_eq, ne_eq]); omega) (go _ _ ⟨?_, ?_, ?_, ?_, ?_⟩ (by omega)))
          all_goals (subst hq; (try simp (disch := omega) only [q0, nc, w64_id, wu64_id, wu32_id, wu8_id, Int.tdiv_eq_ediv_of_nonneg, Int.tmod_eq_emod_of_nonneg, Int.ofNat_eq_natCast, Int.natAbs_natCast, decide_eq_true_eq, decide_eq_false_iff_not, Bool.not_eq_true', bne_iff_ne, beq_iff_eq, ne_eq]); omega)
        · rename_i g2
          simp (disch := omega) only [hq, q0, nc, wu32_id, decide_eq_false_iff_not] at g2
          refine Need.mk (by subst hq; (try simp (disch := omega) only [q0, nc, w64_id, wu64_id, wu32_id, wu8_id, Int.tdiv_eq_ediv_of_nonneg, Int.tmod_eq_emod_of_nonneg, Int.ofNat_eq_natCast, Int.natAbs_natCast, decide_eq_true_eq, decide_eq_false_iff_not, Bool.not_eq_true', bne_iff_ne, beq_iff_eq, ne_eq]); omega) (Need.mk (by subst hq; (try simp (disch := omega) only [q0, nc, w64_id, wu64_id, wu32_id, wu8_id, Int.tdiv_eq_ediv_of_nonneg, Int.tmod_eq_emod_of_nonneg, Int.ofNat_eq_natCast, Int.natAbs_natCast, decide_eq_true_eq, decide_eq_false_iff_not, Bool.not_eq_true', bne_iff_ne, beq_iff_eq, ne_eq]); omega) (go _ _ ⟨?_, ?_, ?_, ?_, ?_⟩ (by omega)))
          all_goals (subst hq; (try simp (disch := omega) only [q0, nc, w64_id, wu64_id, wu32_id, wu8_id, Int.tdiv_eq_ediv_of_nonneg, Int.tmod_eq_emod_of_nonneg, Int.ofNat_eq_natCast, Int.natAbs_natCast, decide_eq_true_eq, decide_eq_false_iff_not, Bool.not_eq_true', bne_iff_ne, beq_iff_eq, ne_eq]); omega)
    · rename_i g0
      simp [hq, q0, nc] at g0
      simp only [nc]
      refine call_fz hCN 0 rfl ?_
      refine call_fn hq hCN (trim_c (len x) Z (by omega) (fun i hi => h5 i (by omega))) rfl ?_
      generalize hN : valN Z (len x) = N
      have e3 : N = x - y := by
        rw [← hN]
        rw [show len x = k by omega] at hN ⊢
        exact sub_end (by omega) hyx h3 (fun i hi => h5 i (by omega)) (by simpa using h6)
      (conv => cbv)
      refine hR _ ?_
      subst hq
      rw [← e3]
      exact .refl
end Sx
end

section
set_option maxRecDepth 100000
namespace Sx
open Go

theorem mul_c (x y : Nat) (hxl : len x ≤ 100000000) (hyl : len y ≤ 100000000) : PureF Pg F.rational_mul (fun q => [.one (natT q x), .one (natT q y)]) (fun q => .one (natT q (x * y))) := by
  refine walkF mixed tau_ok At.rational_mul (fun CN DN q R hCN hDN hq hR => ?_)
  (conv => cbv)
  refine Need.mk (by subst hq; (try simp (disch := omega) only [q0, nc, w64_id, wu64_id, wu32_id, wu8_id, Int.tdiv_eq_ediv_of_nonneg, Int.tmod_eq_emod_of_nonneg, Int.ofNat_eq_natCast, Int.natAbs_natCast, decide_eq_true_eq, decide_eq_false_iff_not, Bool.not_eq_true', bne_iff_ne, beq_iff_eq, ne_eq]); omega) ?_
  refine LoopN.mk [0, 1, 5, 17, 18] (fun σd σ => ∃ (k : Int) (Z : Int → Int), (0 ≤ k ∧ k ≤ len x ∧ σd = ((len x : Int) - k).toNat ∧ (∀ i : Nat, i < len x + len y → 0 ≤ Z i ∧ Z i < 1000000000) ∧ valN Z (k.toNat + len y) = x % Bs ^ k.toNat * y) ∧
      σ = ⟨mkS [(0, .one (.t (natT q x))), (1, .one (.t (natT q y))), (5, .one (.row 0 (q Int fun _ => IntKind.i64.wrap ((q Int fun _ => (len x : Int)) + (q Int fun _ => (len y : Int)))))), (17, .one (.t (.int .i64 (q Int fun _ => (len x : Int))))), (18, .one (.t (.int .i64 k)))] 0 69,
        [.sl 196 1 (q Int fun _ => IntKind.i64.wrap ((q Int fun _ => (len x : Int)) + (q Int fun _ => (len y : Int)))) (fun i => [.int .u32 (Z i)])]⟩) ⟨len x, 0, fun _ => 0, ⟨by omega, by omega, by omega, fun i hi => by simp, ?_⟩, ?_⟩ ?_
  · have : ∀ n, valN (fun _ => 0) n = 0 := fun n => by
      induction n with
      | zero => rfl
      | succ n ih => rw [valN, ih]; simp
    rw [this]; simp [Nat.mod_one]
  · cbv
  · rintro σd σ ⟨k, Z0, ⟨h1, h2, rfl, h5, h6⟩, rfl⟩ K hK
    (conv => cbv)
    obtain ⟨i, rfl⟩ := Int.eq_ofNat_of_zero_le h1
    have en : (q Int fun _ => IntKind.i64.wrap ((q Int fun _ => (len x : Int)) + (q Int fun _ => (len y : Int)))) = ((len x + len y : Nat) : Int) := by subst hq; (try simp (disch := omega) only [q0, nc, w64_id, wu64_id, wu32_id, wu8_id, Int.tdiv_eq_ediv_of_nonneg, Int.tmod_eq_emod_of_nonneg, Int.ofNat_eq_natCast, Int.natAbs_natCast, decide_eq_true_eq, decide_eq_false_iff_not, Bool.not_eq_true', bne_iff_ne, beq_iff_eq, ne_eq]); omega
    split
    · rename_i g0
      simp [hq, q0, nc] at g0
      have hlx := limb_lt x i
      have hlx0 := limb_nonneg x i
      refine LoopN.mk [0, 1, 5, 6, 7, 17, 18, 22, 23] (fun σd σ => ∃ (k c : Int) (Z : Int → Int), (0 ≤ k ∧ k ≤ len y ∧ σd = ((len y : Int) - k).toNat ∧ 0 ≤ c ∧ c < 1000000000 ∧ (∀ i : Nat, i < len x + len y → 0 ≤ Z i ∧ Z i < 1000000000) ∧ valN Z (i + len y) + c.toNat * Bs ^ (i + k.toNat) = x % Bs ^ i * y + (limb x i).toNat * Bs ^ i * (y % Bs ^ k.toNat)) ∧
        σ = ⟨mkS [(0, .one (.t (natT q x))), (1, .one (.t (natT q y))), (5, .one (.row 0 (q Int fun _ => IntKind.i64.wrap ((q Int fun _ => (len x : Int)) + (q Int fun _ => (len y : Int)))))), (6, .one (.t (.int .i64 i))), (7, .one (.t (.int .u64 c))), (17, .one (.t (.int .i64 (q Int fun _ => (len x : Int))))), (18, .one (.t (.int .i64 i))), (22, .one (.t (.int .i64 (q Int fun _ => (len y : Int))))), (23, .one (.t (.int .i64 k)))] 0 69,
          [.sl 196 1 (q Int fun _ => IntKind.i64.wrap ((q Int fun _ => (len x : Int)) + (q Int fun _ => (len y : Int)))) (fun i => [.int .u32 (Z i)])]⟩) ⟨len y, 0, 0, Z0, ⟨by omega, by omega, by omega, by omega, by omega, h5, ?_⟩, ?_⟩ ?_
      · simp only [Int.toNat_natCast] at h6; rw [h6]; simp [Nat.mod_one]
      · cbv
      · rintro σd σ ⟨k, c, Z, ⟨p1, p2, rfl, p3, p4, p5, p6⟩, rfl⟩ K' hK'
        (conv => cbv)
        obtain ⟨j, rfl⟩ := Int.eq_ofNat_of_zero_le p1
        split
        · rename_i g1
          simp [hq, q0, nc] at g1
          have hly := limb_lt y j
          have hly0 := limb_nonneg y j
          obtain ⟨hp0, hp1⟩ := limb_mul_le hlx0 hlx hly0 hly
          obtain ⟨hz0, hz1⟩ := p5 (i + j) (by omega)
          have ei : (q Int fun _ => IntKind.i64.wrap ((i : Int) + (j : Int))) = ((i + j : Nat) : Int) := by subst hq; (try simp (disch := omega) only [q0, nc, w64_id, wu64_id, wu32_id, wu8_id, Int.tdiv_eq_ediv_of_nonneg, Int.tmod_eq_emod_of_nonneg, Int.ofNat_eq_natCast, Int.natAbs_natCast, decide_eq_true_eq, decide_eq_false_iff_not, Bool.not_eq_true', bne_iff_ne, beq_iff_eq, ne_eq]); omega
          have go : ∀ (c' v : Int), 0 ≤ v → v < 1000000000 → 0 ≤ c' → c' < 1000000000 → v + c' * 1000000000 = limb x i * limb y j + Z ((i + j : Nat) : Int) + c →
              K' ⟨mkS [(0, .one (.t (natT q x))), (1, .one (.t (natT q y))), (5, .one (.row 0 (q Int fun _ => IntKind.i64.wrap ((q Int fun _ => (len x : Int)) + (q Int fun _ => (len y : Int)))))), (6, .one (.t (.int .i64 i))), (7, .one (.t (.int .u64 c'))), (17, .one (.t (.int .i64 (q Int fun _ => (len x : Int))))), (18, .one (.t (.int .i64 i))), (22, .one (.t (.int .i64 (q Int fun _ => (len y : Int))))), (23, .one (.t (.int .i64 (q Int fun _ => IntKind.i64.wrap (j + 1)))))] 0 69,
                [.sl 196 1 (q Int fun _ => IntKind.i64.wrap ((q Int fun _ => (len x : Int)) + (q Int fun _ => (len y : Int)))) (updFn (fun i => [.int .u32 (Z i)]) ((i + j : Nat) : Int) [.int .u32 v])]⟩ := by
            intro c' v q1 q2 q3 q4 q5
            rw [updFn_row]
            have e : (q Int fun _ => IntKind.i64.wrap ((j : Int) + 1)) = j + 1 := by subst hq; (try simp (disch := omega) only [q0, nc, w64_id, wu64_id, wu32_id, wu8_id, Int.tdiv_eq_ediv_of_nonneg, Int.tmod_eq_emod_of_nonneg, Int.ofNat_eq_natCast, Int.natAbs_natCast, decide_eq_true_eq, decide_eq_false_iff_not, Bool.not_eq_true', bne_iff_ne, beq_iff_eq, ne_eq])
            rw [e]
            refine hK' _ ⟨_, ?_, (j : Int) + 1, c', upd1 Z ((i + j : Nat) : Int) v, ⟨by omega, by omega, rfl, q3, q4, fun m hm => ?_, ?_⟩, rfl⟩
            · omega
            · by_cases hmi : (m : Int) = ((i + j : Nat) : Int)
              · rw [hmi, upd1_at]; exact ⟨q1, q2⟩
              · rw [upd1_ne hmi]; exact p5 m hm
            · exact mul_step hlx0 hz0 p3 q3 q1 (by omega) p6 q5
          simp only [nc, Int.ofNat_eq_natCast, ei]
          refine Need.mk (by (exact ⟨by kernel_rfl, by kernel_rfl⟩)) (Need.mk (by subst hq; (try simp (disch := omega) only [q0, nc, w64_id, wu64_id, wu32_id, wu8_id, Int.tdiv_eq_ediv_of_nonneg, Int.tmod_eq_emod_of_nonneg, Int.ofNat_eq_natCast, Int.natAbs_natCast, decide_eq_true_eq, decide_eq_false_iff_not, Bool.not_eq_true', bne_iff_ne, beq_iff_eq, ne_eq]); omega) (Need.mk (by subst hq; (try simp (disch := omega) only [q0, nc, w64_id, wu64_id, wu32_id, wu8_id, Int.tdiv_eq_ediv_of_nonneg, Int.tmod_eq_emod_of_nonneg, Int.ofNat_eq_natCast, Int.natAbs_natCast, decide_eq_true_eq, decide_eq_false_iff_not, Bool.not_eq_true', bne_iff_ne, beq_iff_eq, ne_eq]); omega) (Need.mk (by rw [en]; omega) (Need.mk (by omega) (Need.mk (by omega) (Need.mk (by rw [en]; omega) (go _ _ ?_ ?_ ?_ ?_ ?_)))))))
          all_goals (subst hq; (try simp (disch := omega) only [q0, nc, w64_id, wu64_id, wu32_id, wu8_id, Int.tdiv_eq_ediv_of_nonneg, Int.tmod_eq_emod_of_nonneg, Int.ofNat_eq_natCast, Int.natAbs_natCast, decide_eq_true_eq, decide_eq_false_iff_not, Bool.not_eq_true', bne_iff_ne, beq_iff_eq, ne_eq]); omega)
        · rename_i g1
          simp [hq, q0, nc] at g1
          have ei : (q Int fun _ => IntKind.i64.wrap ((i : Int) + (q Int fun _ => (len y : Int)))) = ((i + len y : Nat) : Int) := by subst hq; (try simp (disch := omega) only [q0, nc, w64_id, wu64_id, wu32_id, wu8_id, Int.tdiv_eq_ediv_of_nonneg, Int.tmod_eq_emod_of_nonneg, Int.ofNat_eq_natCast, Int.natAbs_natCast, decide_eq_true_eq, decide_eq_false_iff_not, Bool.not_eq_true', bne_iff_ne, beq_iff_eq, ne_eq]); omega
          simp only [nc, Int.ofNat_eq_natCast, ei]
          refine Need.mk (by rw [en]; omega) ?_
          rw [updFn_row]
          have e : (q Int fun _ => IntKind.i64.wrap ((i : Int) + 1)) = i + 1 := by subst hq; (try simp (disch := omega) only [q0, nc, w64_id, wu64_id, wu32_id, wu8_id, Int.tdiv_eq_ediv_of_nonneg, Int.tmod_eq_emod_of_nonneg, Int.ofNat_eq_natCast, Int.natAbs_natCast, decide_eq_true_eq, decide_eq_false_iff_not, Bool.not_eq_true', bne_iff_ne, beq_iff_eq, ne_eq])
          have ec : (q Int fun _ => IntKind.u32.wrap c) = c := by subst hq; (try simp (disch := omega) only [q0, nc, w64_id, wu64_id, wu32_id, wu8_id, Int.tdiv_eq_ediv_of_nonneg, Int.tmod_eq_emod_of_nonneg, Int.ofNat_eq_natCast, Int.natAbs_natCast, decide_eq_true_eq, decide_eq_false_iff_not, Bool.not_eq_true', bne_iff_ne, beq_iff_eq, ne_eq])
          rw [e, ec]
          refine hK _ ⟨_, ?_, (i : Int) + 1, upd1 Z ((i + len y : Nat) : Int) c, ⟨by omega, by omega, rfl, fun m hm => ?_, ?_⟩, rfl⟩
          · omega
          · by_cases hmi : (m : Int) = ((i + len y : Nat) : Int)
            · rw [hmi, upd1_at]; exact ⟨p3, p4⟩
            · rw [upd1_ne hmi]; exact p5 m hm
          · have hj : (j : Int).toNat = len y := by omega
            rw [hj, mod_len y (Nat.le_refl _)] at p6
            have e2 : ((i : Int) + 1).toNat + len y = i + len y + 1 := by omega
            have e3 : ((i : Int) + 1).toNat = i + 1 := by omega
            rw [e2, e3, valN_push, p6, mod_succ x, limb_toNat, Nat.add_mul]
    · rename_i g0
      simp [hq, q0, nc] at g0
      have hi : i = len x := by omega
      subst hi
      simp only [nc]
      have en' : (q Int fun _ => IntKind.i64.wrap ((q Int fun _ => (len x : Int)) + (q Int fun _ => (len y : Int)))) = q Int fun _ => ((len x + len y : Nat) : Int) := by subst hq; (try simp (disch := omega) only [q0, nc, w64_id, wu64_id, wu32_id, wu8_id, Int.tdiv_eq_ediv_of_nonneg, Int.tmod_eq_emod_of_nonneg, Int.ofNat_eq_natCast, Int.natAbs_natCast, decide_eq_true_eq, decide_eq_false_iff_not, Bool.not_eq_true', bne_iff_ne, beq_iff_eq, ne_eq]); omega
      simp only [en']
      refine call_fz hCN 0 rfl ?_
      refine call_fn hq hCN (trim_c (len x + len y) Z0 (by omega) h5) rfl ?_
      generalize hN : valN Z0 (len x + len y) = N
      have e3 : N = x * y := by
        rw [← hN]
        simp only [Int.toNat_natCast] at h6
        rw [h6, mod_len x (Nat.le_refl _)]
      (conv => cbv)
      refine hR _ ?_
      subst hq
      rw [← e3]
      exact .refl
end Sx
end

/- A part of the proof of PolyReadsSaid: texts SxRat2. -/
import Derived.Test.YtlnpmgmpakjhgaaGreatSxAV
set_option linter.all false
set_option maxRecDepth 100000
namespace Sx
open Go


theorem add_c (a b : Nat) (ha : len a ≤ 100000000) (hb : len b ≤ 100000000) : PureF Pg F.rational_add (fun q => [.one (natT q a), .one (natT q b)]) (fun q => .one (natT q (a + b))) := by
  refine walkF mixed tau_ok At.rational_add (fun CN DN q R hCN hDN hq hR => ?_)
  (conv => cbv)
  split
  · rename_i h
    simp [hq, q0, nc] at h
    refine Need.mk ?_ ?_
    · subst hq; (try simp (disch := omega) only [q0, nc, w64_id, wu64_id, wu32_id, wu8_id, Int.tdiv_eq_ediv_of_nonneg, Int.tmod_eq_emod_of_nonneg, Int.ofNat_eq_natCast, Int.natAbs_natCast, decide_eq_true_eq, decide_eq_false_iff_not, Bool.not_eq_true', bne_iff_ne, beq_iff_eq, ne_eq]); omega
    refine LoopN.mk [0, 1, 5, 6, 21, 22] (fun d σ => ∃ (k c : Int) (Z : Int → Int), (0 ≤ k ∧ k ≤ len b ∧ d = ((len b : Int) - k).toNat ∧ 0 ≤ c ∧ c ≤ 1 ∧ (∀ i : Nat, (i : Int) < k → 0 ≤ Z i ∧ Z i < 1000000000) ∧ valN Z k.toNat + c.toNat * Bs ^ k.toNat = b % Bs ^ k.toNat + a % Bs ^ k.toNat) ∧
        σ = ⟨mkS [(0, .one (.t (natT q b))), (1, .one (.t (natT q a))), (5, .one (.row 0 (q Int fun _ => IntKind.i64.wrap ((q Int fun _ => (len b : Int)) + 1)))), (6, .one (.t (.int .u32 c))), (21, .one (.t (.int .i64 (q Int fun _ => (len b : Int))))), (22, .one (.t (.int .i64 k)))] 0 57,
          [.sl 196 1 (q Int fun _ => IntKind.i64.wrap ((q Int fun _ => (len b : Int)) + 1)) (fun i => [.int .u32 (Z i)])]⟩) ⟨len b, 0, 0, fun _ => 0, ⟨by omega, by omega, by omega, by omega, by omega, fun i hi => by omega, by simp [valN, Nat.mod_one]⟩, ?_⟩ ?_
    · cbv
    · rintro d σ ⟨k, c, Z, ⟨h1, h2, rfl, h3, h4, h5, h6⟩, rfl⟩ K hK
      (conv => cbv)
      obtain ⟨k, rfl⟩ := Int.eq_ofNat_of_zero_le h1
      have hlx := limb_lt b k
      have hly := limb_lt a k
      have hlx0 := limb_nonneg b k
      have hly0 := limb_nonneg a k
      have hyk : (len a : Int) ≤ k → limb a k = 0 := fun h => limb_high (by omega)
      have go : ∀ (c' v : Int), (0 ≤ v ∧ v < 1000000000 ∧ 0 ≤ c' ∧ c' ≤ 1 ∧ v + c' * 1000000000 = limb b k + c + limb a k) → (k : Int) < len b →
          K ⟨mkS [(0, .one (.t (natT q b))), (1, .one (.t (natT q a))), (5, .one (.row 0 (q Int fun _ => IntKind.i64.wrap ((q Int fun _ => (len b : Int)) + 1)))), (6, .one (.t (.int .u32 c'))), (21, .one (.t (.int .i64 (q Int fun _ => (len b : Int))))), (22, .one (.t (.int .i64 (q Int fun _ => IntKind.i64.wrap (k + 1)))))] 0 57,
            [.sl 196 1 (q Int fun _ => IntKind.i64.wrap ((q Int fun _ => (len b : Int)) + 1)) (updFn (fun i => [.int .u32 (Z i)]) k [.int .u32 v])]⟩ := by
        intro c' v ⟨p1, p2, p3, p4, p5⟩ hk
        rw [updFn_row]
        have e : (q Int fun _ => IntKind.i64.wrap ((k : Int) + 1)) = k + 1 := by subst hq; (try simp (disch := omega) only [q0, nc, w64_id, wu64_id, wu32_id, wu8_id, Int.tdiv_eq_ediv_of_nonneg, Int.tmod_eq_emod_of_nonneg, Int.ofNat_eq_natCast, Int.natAbs_natCast, decide_eq_true_eq, decide_eq_false_iff_not, Bool.not_eq_true', bne_iff_ne, beq_iff_eq, ne_eq])
        rw [e]
        refine hK _ ⟨_, ?_, (k : Int) + 1, c', upd1 Z k v, ⟨by omega, by omega, rfl, p3, p4, fun i hi => ?_, ?_⟩, rfl⟩
        · omega
        · by_cases hik : (i : Int) = k
          · rw [hik, upd1_at]; exact ⟨p1, p2⟩
          · rw [upd1_ne hik]; exact h5 i (by omega)
        · exact add_step h3 p3 p1 h6 p5
      split
      · rename_i g0
        simp [hq, q0, nc] at g0
        refine Need.mk (by subst hq; (try simp (disch := omega) only [q0, nc, w64_id, wu64_id, wu32_id, wu8_id, Int.tdiv_eq_ediv_of_nonneg, Int.tmod_eq_emod_of_nonneg, Int.ofNat_eq_natCast, Int.natAbs_natCast, decide_eq_true_eq, decide_eq_false_iff_not, Bool.not_eq_true', bne_iff_ne, beq_iff_eq, ne_eq]); omega) ?_
        split
        · rename_i g1
          simp [hq, q0, nc] at g1
          refine Need.mk (by subst hq; (try simp (disch := omega) only [q0, nc, w64_id, wu64_id, wu32_id, wu8_id, Int.tdiv_eq_ediv_of_nonneg, Int.tmod_eq_emod_of_nonneg, Int.ofNat_eq_natCast, Int.natAbs_natCast, decide_eq_true_eq, decide_eq_false_iff_not, Bool.not_eq_true', bne_iff_ne, beq_iff_eq, ne_eq]); omega) ?_
          split
          · rename_i g2
            simp (disch := omega) only [hq, q0, nc, wu32_id, decide_eq_true_eq] at g2
            refine Need.mk (by subst hq; (try simp (disch := omega) only [q0, nc, w64_id, wu64_id, wu32_id, wu8_id, Int.tdiv_eq_ediv_of_nonneg, Int.tmod_eq_emod_of_nonneg, Int.ofNat_eq_natCast, Int.natAbs_natCast, decide_eq_true_eq, decide_eq_false_iff_not, Bool.not_eq_true', bne_iff_ne, beq_iff_eq, ne_eq]); omega) (go _ _ ⟨?_, ?_, ?_, ?_, ?_⟩ (by omega))
            all_goals (subst hq; (try simp (disch := omega) only [q0, nc, w64_id, wu64_id, wu32_id, wu8_id, Int.tdiv_eq_ediv_of_nonneg, Int.tmod_eq_emod_of_nonneg, Int.ofNat_eq_natCast, Int.natAbs_natCast, decide_eq_true_eq, decide_eq_false_iff_not, Bool.not_eq_true', bne_iff_ne, beq_iff_eq, ne_eq]); omega)
          · rename_i g2
            simp (disch := omega) only [hq, q0, nc, wu32_id, decide_eq_false_iff_not] at g2
            refine Need.mk (by subst hq; (try simp (disch := omega) only [q0, nc, w64_id, wu64_id, wu32_id, wu8_id, Int.tdiv_eq_ediv_of_nonneg, Int.tmod_eq_emod_of_nonneg, Int.ofNat_eq_natCast, Int.natAbs_natCast, decide_eq_true_eq, decide_eq_false_iff_not, Bool.not_eq_true', bne_iff_ne, beq_iff_eq, ne_eq]); omega) (go _ _ ⟨?_, ?_, ?_, ?_, ?_⟩ (by omega))
            all_goals (subst hq; (try simp (disch := omega) only [q0, nc, w64_id, wu64_id, wu32_id, wu8_id, Int.tdiv_eq_ediv_of_nonneg, Int.tmod_eq_emod_of_nonneg, Int.ofNat_eq_natCast, Int.natAbs_natCast, decide_eq_true_eq, decide_eq_false_iff_not, Bool.not_eq_true', bne_iff_ne, beq_iff_eq, ne_eq]); omega)
        · rename_i g1
          simp [hq, q0, nc] at g1
          have hz := hyk (by omega)
          split
          · rename_i g2
            simp (disch := omega) only [hq, q0, nc, wu32_id, decide_eq_true_eq] at g2
            refine Need.mk (by subst hq; (try simp (disch := omega) only [q0, nc, w64_id, wu64_id, wu32_id, wu8_id, Int.tdiv_eq_ediv_of_nonneg, Int.tmod_eq_emod_of_nonneg, Int.ofNat_eq_natCast, Int.natAbs_natCast, decide_eq_true_eq, decide_eq_false_iff_not, Bool.not_eq_true', bne_iff_ne, beq_iff_eq, ne_eq]); omega) (go _ _ ⟨?_, ?_, ?_, ?_, ?_⟩ (by omega))
            all_goals (subst hq; (try simp (disch := omega) only [q0, nc, w64_id, wu64_id, wu32_id, wu8_id, Int.tdiv_eq_ediv_of_nonneg, Int.tmod_eq_emod_of_nonneg, Int.ofNat_eq_natCast, Int.natAbs_natCast, decide_eq_true_eq, decide_eq_false_iff_not, Bool.not_eq_true', bne_iff_ne, beq_iff_eq, ne_eq]); omega)
          · rename_i g2
            simp (disch := omega) only [hq, q0, nc, wu32_id, decide_eq_false_iff_not] at g2
            refine Need.mk (by subst hq; (try simp (disch := omega) only [q0, nc, w64_id, wu64_id, wu32_id, wu8_id, Int.tdiv_eq_ediv_of_nonneg, Int.tmod_eq_emod_of_nonneg, Int.ofNat_eq_natCast, Int.natAbs_natCast, decide_eq_true_eq, decide_eq_false_iff_not, Bool.not_eq_true', bne_iff_ne, beq_iff_eq, ne_eq]); omega) (go _ _ ⟨?_, ?_, ?_, ?_, ?_⟩ (by omega))
            all_goals (subst hq; (try simp (disch := omega) only [q0, nc, w64_id, wu64_id, wu32_id, wu8_id, Int.tdiv_eq_ediv_of_nonneg, Int.tmod_eq_emod_of_nonneg, Int.ofNat_eq_natCast, Int.natAbs_natCast, decide_eq_true_eq, decide_eq_false_iff_not, Bool.not_eq_true', bne_iff_ne, beq_iff_eq, ne_eq]); omega)
      · rename_i g0
        simp [hq, q0, nc] at g0
        refine Need.mk (by subst hq; (try simp (disch := omega) only [q0, nc, w64_id, wu64_id, wu32_id, wu8_id, Int.tdiv_eq_ediv_of_nonneg, Int.tmod_eq_emod_of_nonneg, Int.ofNat_eq_natCast, Int.natAbs_natCast, decide_eq_true_eq, decide_eq_false_iff_not, Bool.not_eq_true', bne_iff_ne, beq_iff_eq, ne_eq]); omega) ?_
        have e1 : (q Int fun _ => IntKind.i64.wrap ((q Int fun _ => (len b : Int)) + 1)) = q Int fun _ => ((len b + 1 : Nat) : Int) := by subst hq; (try simp (disch := omega) only [q0, nc, w64_id, wu64_id, wu32_id, wu8_id, Int.tdiv_eq_ediv_of_nonneg, Int.tmod_eq_emod_of_nonneg, Int.ofNat_eq_natCast, Int.natAbs_natCast, decide_eq_true_eq, decide_eq_false_iff_not, Bool.not_eq_true', bne_iff_ne, beq_iff_eq, ne_eq]); omega
        have e2 : (q Int fun _ => (len b : Int)) = (k : Int) := by subst hq; simp only [q0]; omega
        simp only [nc, e1]
        rw [updFn_row]
        refine call_fz hCN 0 rfl ?_
        refine call_fn hq hCN (trim_c (len b + 1) (upd1 Z (q Int fun _ => (len b : Int)) c) (by omega) (fun i hi => ?_)) rfl ?_
        · rw [e2]
          by_cases hik : (i : Int) = k
          · rw [hik, upd1_at]; omega
          · rw [upd1_ne hik]; exact h5 i (by omega)
        · generalize hN : valN (upd1 Z (q Int fun _ => (len b : Int)) c) (len b + 1) = N
          have e3 : N = a + b := by
            rw [← hN, e2, show len b = k by omega, valN_push]
            simp only [Int.toNat_natCast] at h6
            rw [h6, mod_len b (by omega), mod_len a (by omega)]
            try omega
          (conv => cbv)
          refine hR _ ?_
          subst hq
          rw [← e3]
          exact .refl
  · rename_i h
    simp [hq, q0, nc] at h
    refine Need.mk ?_ ?_
    · subst hq; (try simp (disch := omega) only [q0, nc, w64_id, wu64_id, wu32_id, wu8_id, Int.tdiv_eq_ediv_of_nonneg, Int.tmod_eq_emod_of_nonneg, Int.ofNat_eq_natCast, Int.natAbs_natCast, decide_eq_true_eq, decide_eq_false_iff_not, Bool.not_eq_true', bne_iff_ne, beq_iff_eq, ne_eq]); omega
    refine LoopN.mk [0, 1, 5, 6, 21, 22] (fun d σ => ∃ (k c : Int) (Z : Int → Int), (0 ≤ k ∧ k ≤ len a ∧ d = ((len a : Int) - k).toNat ∧ 0 ≤ c ∧ c ≤ 1 ∧ (∀ i : Nat, (i : Int) < k → 0 ≤ Z i ∧ Z i < 1000000000) ∧ valN Z k.toNat + c.toNat * Bs ^ k.toNat = a % Bs ^ k.toNat + b % Bs ^ k.toNat) ∧
        σ = ⟨mkS [(0, .one (.t (natT q a))), (1, .one (.t (natT q b))), (5, .one (.row 0 (q Int fun _ => IntKind.i64.wrap ((q Int fun _ => (len a : Int)) + 1)))), (6, .one (.t (.int .u32 c))), (21, .one (.t (.int .i64 (q Int fun _ => (len a : Int))))), (22, .one (.t (.int .i64 k)))] 0 57,
          [.sl 196 1 (q Int fun _ => IntKind.i64.wrap ((q Int fun _ => (len a : Int)) + 1)) (fun i => [.int .u32 (Z i)])]⟩) ⟨len a, 0, 0, fun _ => 0, ⟨by omega, by omega, by omega, by omega, by omega, fun i hi => by omega, by simp [valN, Nat.mod_one]⟩, ?_⟩ ?_
    · cbv
    · rintro d σ ⟨k, c, Z, ⟨h1, h2, rfl, h3, h4, h5, h6⟩, rfl⟩ K hK
      (conv => cbv)
      obtain ⟨k, rfl⟩ := Int.eq_ofNat_of_zero_le h1
      have hlx := limb_lt a k
      have hly := limb_lt b k
      have hlx0 := limb_nonneg a k
      have hly0 := limb_nonneg b k
      have hyk : (len b : Int) ≤ k → limb b k = 0 := fun h => limb_high (by omega)
      have go : ∀ (c' v : Int), (0 ≤ v ∧ v < 1000000000 ∧ 0 ≤ c' ∧ c' ≤ 1 ∧ v + c' * 1000000000 = limb a k + c + limb b k) → (k : Int) < len a →
          K ⟨mkS [(0, .one (.t (natT q a))), (1, .one (.t (natT q b))), (5, .one (.row 0 (q Int fun _ => IntKind.i64.wrap ((q Int fun _ => (len a : Int)) + 1)))), (6, .one (.t (.int .u32 c'))), (21, .one (.t (.int .i64 (q Int fun _ => (len a : Int))))), (22, .one (.t (.int .i64 (q Int fun _ => IntKind.i64.wrap (k + 1)))))] 0 57,
            [.sl 196 1 (q Int fun _ => IntKind.i64.wrap ((q Int fun _ => (len a : Int)) + 1)) (updFn (fun i => [.int .u32 (Z i)]) k [.int .u32 v])]⟩ := by
        intro c' v ⟨p1, p2, p3, p4, p5⟩ hk
        rw [updFn_row]
        have e : (q Int fun _ => IntKind.i64.wrap ((k : Int) + 1)) = k + 1 := by subst hq; (try simp (disch := omega) only [q0, nc, w64_id, wu64_id, wu32_id, wu8_id, Int.tdiv_eq_ediv_of_nonneg, Int.tmod_eq_emod_of_nonneg, Int.ofNat_eq_natCast, Int.natAbs_natCast, decide_eq_true_eq, decide_eq_false_iff_not, Bool.not_eq_true', bne_iff_ne, beq_iff_eq, ne_eq])
        rw [e]
        refine hK _ ⟨_, ?_, (k : Int) + 1, c', upd1 Z k v, ⟨by omega, by omega, rfl, p3, p4, fun i hi => ?_, ?_⟩, rfl⟩
        · omega
        · by_cases hik : (i : Int) = k
          · rw [hik, upd1_at]; exact ⟨p1, p2⟩
          · rw [upd1_ne hik]; exact h5 i (by omega)
        · exact add_step h3 p3 p1 h6 p5
      split
      · rename_i g0
        simp [hq, q0, nc] at g0
        refine Need.mk (by subst hq; (try simp (disch := omega) only [q0, nc, w64_id, wu64_id, wu32_id, wu8_id, Int.tdiv_eq_ediv_of_nonneg, Int.tmod_eq_emod_of_nonneg, Int.ofNat_eq_natCast, Int.natAbs_natCast, decide_eq_true_eq, decide_eq_false_iff_not, Bool.not_eq_true', bne_iff_ne, beq_iff_eq, ne_eq]); omega) ?_
        split
        · rename_i g1
          simp [hq, q0, nc] at g1
          refine Need.mk (by subst hq; (try simp (disch := omega) only [q0, nc, w64_id, wu64_id, wu32_id, wu8_id, Int.tdiv_eq_ediv_of_nonneg, Int.tmod_eq_emod_of_nonneg, Int.ofNat_eq_natCast, Int.natAbs_natCast, decide_eq_true_eq, decide_eq_false_iff_not, Bool.not_eq_true', bne_iff_ne, beq_iff_eq, ne_eq]); omega) ?_
          split
          · rename_i g2
            simp (disch := omega) only [hq, q0, nc, wu32_id, decide_eq_true_eq] at g2
            refine Need.mk (by subst hq; (try simp (disch := omega) only [q0, nc, w64_id, wu64_id, wu32_id, wu8_id, Int.tdiv_eq_ediv_of_nonneg, Int.tmod_eq_emod_of_nonneg, Int.ofNat_eq_natCast, Int.natAbs_natCast, decide_eq_true_eq, decide_eq_false_iff_not, Bool.not_eq_true', bne_iff_ne, beq_iff_eq, ne_eq]); omega) (go _ _ ⟨?_, ?_, ?_, ?_, ?_⟩ (by omega))
            all_goals (subst hq; (try simp (disch := omega) only [q0, nc, w64_id, wu64_id, wu32_id, wu8_id, Int.tdiv_eq_ediv_of_nonneg, Int.tmod_eq_emod_of_nonneg, Int.ofNat_eq_natCast, Int.natAbs_natCast, decide_eq_true_eq, decide_eq_false_iff_not, Bool.not_eq_true', bne_iff_ne, beq_iff_eq, ne_eq]); omega)
          · rename_i g2
            simp (disch := omega) only [hq, q0, nc, wu32_id, decide_eq_false_iff_not] at g2
            refine Need.mk (by subst hq; (try simp (disch := omega) only [q0, nc, w64_id, wu64_id, wu32_id, wu8_id, Int.tdiv_eq_ediv_of_nonneg, Int.tmod_eq_emod_of_nonneg, Int.ofNat_eq_natCast, Int.natAbs_natCast, decide_eq_true_eq, decide_eq_false_iff_not, Bool.not_eq_true', bne_iff_ne, beq_iff_eq, ne_eq]); omega) (go _ _ ⟨?_, ?_, ?_, ?_, ?_⟩ (by omega))
            all_goals (subst hq; (try simp (disch := omega) only [q0, nc, w64_id, wu64_id, wu32_id, wu8_id, Int.tdiv_eq_ediv_of_nonneg, Int.tmod_eq_emod_of_nonneg, Int.ofNat_eq_natCast, Int.natAbs_natCast, decide_eq_true_eq, decide_eq_false_iff_not, Bool.not_eq_true', bne_iff_ne, beq_iff_eq, ne_eq]); omega)
        · rename_i g1
          simp [hq, q0, nc] at g1
          have hz := hyk (by omega)
          split
          · rename_i g2
            simp (disch := omega) only [hq, q0, nc, wu32_id, decide_eq_true_eq] at g2
            refine Need.mk (by subst hq; (try simp (disch := omega) only [q0, nc, w64_id, wu64_id, wu32_id, wu8_id, Int.tdiv_eq_ediv_of_nonneg, Int.tmod_eq_emod_of_nonneg, Int.ofNat_eq_natCast, Int.natAbs_natCast, decide_eq_true_eq, decide_eq_false_iff_not, Bool.not_eq_true', bne_iff_ne, beq_iff_eq, ne_eq]); omega) (go _ _ ⟨?_, ?_, ?_, ?_, ?_⟩ (by omega))
            all_goals (subst hq; (try simp (disch := omega) only [q0, nc, w64_id, wu64_id, wu32_id, wu8_id, Int.tdiv_eq_ediv_of_nonneg, Int.tmod_eq_emod_of_nonneg, Int.ofNat_eq_natCast, Int.natAbs_natCast, decide_eq_true_eq, decide_eq_false_iff_not, Bool.not_eq_true', bne_iff_ne, beq_iff_eq, ne_eq]); omega)
          · rename_i g2
            simp (disch := omega) only [hq, q0, nc, wu32_id, decide_eq_false_iff_not] at g2
            refine Need.mk (by subst hq; (try simp (disch := omega) only [q0, nc, w64_id, wu64_id, wu32_id, wu8_id, Int.tdiv_eq_ediv_of_nonneg, Int.tmod_eq_emod_of_nonneg, Int.ofNat_eq_natCast, Int.natAbs_natCast, decide_eq_true_eq, decide_eq_false_iff_not, Bool.not_eq_true', bne_iff_ne, beq_iff_eq, ne_eq]); omega) (go _ _ ⟨?_, ?_, ?_, ?_, ?_⟩ (by omega))
            all_goals (subst hq; (try simp (disch := omega) only [q0, nc, w64_id, wu64_id, wu32_id, wu8_id, Int.tdiv_eq_ediv_of_nonneg, Int.tmod_eq_emod_of_nonneg, Int.ofNat_eq_natCast, Int.natAbs_natCast, decide_eq_true_eq, decide_eq_false_iff_not, Bool.not_eq_true', bne_iff_ne, beq_iff_eq, ne_eq]); omega)
      · rename_i g0
        simp [hq, q0, nc] at g0
        refine Need.mk (by subst hq; (try simp (disch := omega) only [q0, nc, w64_id, wu64_id, wu32_id, wu8_id, Int.tdiv_eq_ediv_of_nonneg, Int.tmod_eq_emod_of_nonneg, Int.ofNat_eq_natCast, Int.natAbs_natCast, decide_eq_true_eq, decide_eq_false_iff_not, Bool.not_eq_true', bne_iff_ne, beq_iff_eq, ne_eq]); omega) ?_
        have e1 : (q Int fun _ => IntKind.i64.wrap ((q Int fun _ => (len a : Int)) + 1)) = q Int fun _ => ((len a + 1 : Nat) : Int) := by subst hq; (try simp (disch := omega) only [q0, nc, w64_id, wu64_id, wu32_id, wu8_id, Int.tdiv_eq_ediv_of_nonneg, Int.tmod_eq_emod_of_nonneg, Int.ofNat_eq_natCast, Int.natAbs_natCast, decide_eq_true_eq, decide_eq_false_iff_not, Bool.not_eq_true', bne_iff_ne, beq_iff_eq, ne_eq]); omega
        have e2 : (q Int fun _ => (len a : Int)) = (k : Int) := by subst hq; simp only [q0]; omega
        simp only [nc, e1]
        rw [updFn_row]
        refine call_fz hCN 0 rfl ?_
        refine call_fn hq hCN (trim_c (len a + 1) (upd1 Z (q Int fun _ => (len a : Int)) c) (by omega) (fun i hi => ?_)) rfl ?_
        · rw [e2]
          by_cases hik : (i : Int) = k
          · rw [hik, upd1_at]; omega
          · rw [upd1_ne hik]; exact h5 i (by omega)
        · generalize hN : valN (upd1 Z (q Int fun _ => (len a : Int)) c) (len a + 1) = N
          have e3 : N = a + b := by
            rw [← hN, e2, show len a = k by omega, valN_push]
            simp only [Int.toNat_natCast] at h6
            rw [h6, mod_len a (by omega), mod_len b (by omega)]
            try omega
          (conv => cbv)
          refine hR _ ?_
          subst hq
          rw [← e3]
          exact .refl
end Sx

/- A part of the proof of PolyReadsSaid: texts SxRef3. -/
import Derived.Test.YtlnpmgmpakjhgaaGreatSxBP
set_option linter.all false
set_option maxRecDepth 100000
namespace Sx
open Go

theorem natSmall_c (x d : Nat) (hxl : len x ≤ 100000000) (hd0 : 0 < d) (hd : d < 1000000000) : PureF Pg F.amortcostref1_natSmall (fun q => [.one (natT q x), .one (.int .u64 (q Int fun _ => (d : Int)))]) (fun q => .tup [.one (natT q (x / d)), .one (.int .u64 (q Int fun _ => ((x % d : Nat) : Int)))]) := by
  refine walkF mixed tau_ok At.amortcostref1_natSmall (fun CN DN q R hCN hDN hq hR => ?_)
  (conv => cbv)
  refine Need.mk (by subst hq; show (0 : Int) ≤ (len x : Int) ∧ (len x : Int) ≤ (len x : Int) ∧ (len x : Int) * 4 ≤ 140737488355328; omega) ?_
  refine LoopN.mk [0, 1, 6, 7, 8] (fun σd σ => ∃ (k c : Int) (Z : Int → Int), (-1 ≤ k ∧ k < len x ∧ σd = (k + 1).toNat ∧ c = ((x / Bs ^ (k + 1).toNat % d : Nat) : Int) ∧ (∀ i : Nat, k < i → i < len x → Z i = limb (x / d) i)) ∧
      σ = ⟨mkS [(0, .one (.t (natT q x))), (1, .one (.t (.int .u64 (q Int fun _ => (d : Int))))), (6, .one (.row 0 (q Int fun _ => (len x : Int)))), (7, .one (.t (.int .u64 c))), (8, .one (.t (.int .i64 k)))] 0 40,
        [.sl Ty.«uint32» 1 (q Int fun _ => (len x : Int)) (fun i => [.int .u32 (Z i)])]⟩) ⟨len x, (q Int fun _ => IntKind.i64.wrap ((q Int fun _ => (len x : Int)) - 1)), 0, fun _ => 0, ?_, ?_⟩ ?_
  · have e : (q Int fun _ => IntKind.i64.wrap ((q Int fun _ => (len x : Int)) - 1)) = (len x : Int) - 1 := by subst hq; (try simp (disch := omega) only [q0, nc, w64_id, wu64_id, wu32_id, wu8_id, Int.tdiv_eq_ediv_of_nonneg, Int.tmod_eq_emod_of_nonneg, Int.ofNat_eq_natCast, Int.natAbs_natCast, decide_eq_true_eq, decide_eq_false_iff_not, Bool.not_eq_true', bne_iff_ne, beq_iff_eq, ne_eq])
    rw [e]
    refine ⟨by omega, by omega, by omega, ?_, fun i hi hi' => by omega⟩
    rw [show ((len x : Int) - 1 + 1).toNat = len x by omega, Nat.div_eq_of_lt (lt_pow_len x), Nat.zero_mod]
    rfl
  · cbv
  · rintro σd σ ⟨k, c, Z, ⟨h1, h2, rfl, h3, h5⟩, rfl⟩ K hK
    (conv => cbv)
    split
    · rename_i g0
      rw [hq] at g0
      ((try simp (disch := omega) only [q0, nc, w64_id, wu64_id, wu32_id, wu8_id, Int.tdiv_eq_ediv_of_nonneg, Int.tmod_eq_emod_of_nonneg, Int.ofNat_eq_natCast, Int.natAbs_natCast, decide_eq_true_eq, decide_eq_false_iff_not, Bool.not_eq_true', Bool.not_eq_false', bne_iff_ne, bne_eq_false_iff_eq, beq_iff_eq, beq_eq_false_iff_ne, ne_eq] at g0); (try replace g0 := of_decide_eq_true g0); (try replace g0 := of_decide_eq_false g0))
      obtain ⟨i, rfl⟩ := Int.eq_ofNat_of_zero_le g0
      have hlx := limb_lt x i
      have hlx0 := limb_nonneg x i
      rw [show ((i : Int) + 1).toNat = i + 1 by omega] at h3
      have hc : c < d := by rw [h3]; exact Int.ofNat_lt.2 (Nat.mod_lt _ hd0)
      have hc0 : 0 ≤ c := by omega
      obtain ⟨hd1, hd2⟩ := div_digit_int x i hd0
      rw [← h3] at hd1 hd2
      have hv := limb_lt (x / d) i
      have hv0 := limb_nonneg (x / d) i
      have hr : ((x / Bs ^ i % d : Nat) : Int) < d := Int.ofNat_lt.2 (Nat.mod_lt _ hd0)
      have go : ∀ (c' v : Int), c' = ((x / Bs ^ i % d : Nat) : Int) → v = limb (x / d) i →
          K ⟨mkS [(0, .one (.t (natT q x))), (1, .one (.t (.int .u64 (q Int fun _ => (d : Int))))), (6, .one (.row 0 (q Int fun _ => (len x : Int)))), (7, .one (.t (.int .u64 c'))), (8, .one (.t (.int .i64 (q Int fun _ => IntKind.i64.wrap (i - 1)))))] 0 40,
            [.sl Ty.«uint32» 1 (q Int fun _ => (len x : Int)) (updFn (fun i => [.int .u32 (Z i)]) i [.int .u32 v])]⟩ := by
        intro c' v p1 p2
        rw [updFn_row]
        have e : (q Int fun _ => IntKind.i64.wrap ((i : Int) - 1)) = i - 1 := by subst hq; (try simp (disch := omega) only [q0, nc, w64_id, wu64_id, wu32_id, wu8_id, Int.tdiv_eq_ediv_of_nonneg, Int.tmod_eq_emod_of_nonneg, Int.ofNat_eq_natCast, Int.natAbs_natCast, decide_eq_true_eq, decide_eq_false_iff_not, Bool.not_eq_true', bne_iff_ne, beq_iff_eq, ne_eq])
        rw [e]
        refine hK _ ⟨_, ?_, (i : Int) - 1, c', upd1 Z i v, ⟨by omega, by omega, rfl, ?_, fun j hj hj' => ?_⟩, rfl⟩
        · omega
        · rw [p1, show ((i : Int) - 1 + 1).toNat = i by omega]
        · by_cases hji : (j : Int) = i
          · rw [hji, upd1_at, p2]
          · rw [upd1_ne hji]; exact h5 j (by omega) hj'
      refine Need.mk (by subst hq; (try simp (disch := omega) only [q0, nc, w64_id, wu64_id, wu32_id, wu8_id, Int.tdiv_eq_ediv_of_nonneg, Int.tmod_eq_emod_of_nonneg, Int.ofNat_eq_natCast, Int.natAbs_natCast, decide_eq_true_eq, decide_eq_false_iff_not, Bool.not_eq_true', bne_iff_ne, beq_iff_eq, ne_eq]); omega) (Need.mk (by subst hq; (try simp (disch := omega) only [q0, nc, w64_id, wu64_id, wu32_id, wu8_id, Int.tdiv_eq_ediv_of_nonneg, Int.tmod_eq_emod_of_nonneg, Int.ofNat_eq_natCast, Int.natAbs_natCast, decide_eq_true_eq, decide_eq_false_iff_not, Bool.not_eq_true', bne_iff_ne, beq_iff_eq, ne_eq]); omega) (Need.mk (by subst hq; (try simp (disch := omega) only [q0, nc, w64_id, wu64_id, wu32_id, wu8_id, Int.tdiv_eq_ediv_of_nonneg, Int.tmod_eq_emod_of_nonneg, Int.ofNat_eq_natCast, Int.natAbs_natCast, decide_eq_true_eq, decide_eq_false_iff_not, Bool.not_eq_true', bne_iff_ne, beq_iff_eq, ne_eq]); omega) (Need.mk (by subst hq; (try simp (disch := omega) only [q0, nc, w64_id, wu64_id, wu32_id, wu8_id, Int.tdiv_eq_ediv_of_nonneg, Int.tmod_eq_emod_of_nonneg, Int.ofNat_eq_natCast, Int.natAbs_natCast, decide_eq_true_eq, decide_eq_false_iff_not, Bool.not_eq_true', bne_iff_ne, beq_iff_eq, ne_eq]); omega) (go _ _ ?_ ?_))))
      · subst hq; (try simp (disch := omega) only [q0, nc, w64_id, wu64_id, wu32_id, wu8_id, Int.tdiv_eq_ediv_of_nonneg, Int.tmod_eq_emod_of_nonneg, Int.ofNat_eq_natCast, Int.natAbs_natCast, decide_eq_true_eq, decide_eq_false_iff_not, Bool.not_eq_true', bne_iff_ne, beq_iff_eq, ne_eq]); exact hd2
      · subst hq; (try simp (disch := omega) only [q0, nc, w64_id, wu64_id, wu32_id, wu8_id, Int.tdiv_eq_ediv_of_nonneg, Int.tmod_eq_emod_of_nonneg, Int.ofNat_eq_natCast, Int.natAbs_natCast, decide_eq_true_eq, decide_eq_false_iff_not, Bool.not_eq_true', bne_iff_ne, beq_iff_eq, ne_eq]); rw [hd1]; (try simp (disch := omega) only [q0, nc, w64_id, wu64_id, wu32_id, wu8_id, Int.tdiv_eq_ediv_of_nonneg, Int.tmod_eq_emod_of_nonneg, Int.ofNat_eq_natCast, Int.natAbs_natCast, decide_eq_true_eq, decide_eq_false_iff_not, Bool.not_eq_true', bne_iff_ne, beq_iff_eq, ne_eq])
    · rename_i g0
      rw [hq] at g0
      ((try simp (disch := omega) only [q0, nc, w64_id, wu64_id, wu32_id, wu8_id, Int.tdiv_eq_ediv_of_nonneg, Int.tmod_eq_emod_of_nonneg, Int.ofNat_eq_natCast, Int.natAbs_natCast, decide_eq_true_eq, decide_eq_false_iff_not, Bool.not_eq_true', Bool.not_eq_false', bne_iff_ne, bne_eq_false_iff_eq, beq_iff_eq, beq_eq_false_iff_ne, ne_eq] at g0); (try replace g0 := of_decide_eq_true g0); (try replace g0 := of_decide_eq_false g0))
      refine call_fz hCN 0 rfl ?_
      rw [show (k + 1).toNat = 0 by omega, Nat.pow_zero, Nat.div_one] at h3
      refine call_fn hq hCN (cut_c (len x) Z (by omega) (fun i hi => ?_)) rfl ?_
      · rw [h5 i (by omega) hi]; exact ⟨limb_nonneg _ _, limb_lt _ _⟩
      generalize hN : valN Z (len x) = N
      have e3 : N = x / d := by
        rw [← hN, valN_congr (W := limb (x / d)) (fun i hi => h5 i (by omega) hi), valN_len]
        exact len_mono (Nat.div_le_self _ _)
      (conv => cbv)
      refine hR _ ?_
      subst hq
      rw [← e3, h3]
      exact .refl

theorem natMul_c (x y : Nat) (hxl : len x ≤ 100000000) (hyl : len y ≤ 100000000) : PureF Pg F.amortcostref1_natMul (fun q => [.one (natT q x), .one (natT q y)]) (fun q => .one (natT q (x * y))) := by
  refine walkF mixed tau_ok At.amortcostref1_natMul (fun CN DN q R hCN hDN hq hR => ?_)
  (conv => cbv)
  obtain ⟨nI, hnI⟩ : ∃ nI, nI = (q Int fun _ => IntKind.i64.wrap ((q Int fun _ => IntKind.i64.wrap ((q Int fun _ => (len x : Int)) + (q Int fun _ => (len y : Int)))) + 1)) := ⟨_, rfl⟩
  rw [← hnI]
  obtain ⟨n, hn⟩ : ∃ n, n = len x + len y + 1 := ⟨_, rfl⟩
  have hnI' : nI = n := by rw [hnI, hn]; subst hq; (try simp (disch := omega) only [q0, nc, w64_id, wu64_id, wu32_id, wu8_id, Int.tdiv_eq_ediv_of_nonneg, Int.tmod_eq_emod_of_nonneg, Int.ofNat_eq_natCast, Int.natAbs_natCast, decide_eq_true_eq, decide_eq_false_iff_not, Bool.not_eq_true', bne_iff_ne, beq_iff_eq, ne_eq]); omega
  refine Need.mk (show (0 : Int) ≤ nI ∧ nI ≤ nI ∧ nI * 4 ≤ 140737488355328 by omega) ?_
  refine LoopN.mk [0, 1, 5, 6] (fun σd σ => ∃ (k : Int) (Z : Int → Int), (0 ≤ k ∧ k ≤ len x ∧ σd = ((len x : Int) - k).toNat ∧ (∀ i : Nat, i < n → 0 ≤ Z i ∧ Z i < 1000000000) ∧ valN Z n = x % Bs ^ k.toNat * y) ∧
      σ = ⟨mkS [(0, .one (.t (natT q x))), (1, .one (.t (natT q y))), (5, .one (.row 0 nI)), (6, .one (.t (.int .i64 k)))] 0 70,
        [.sl Ty.«uint32» 1 nI (fun i => [.int .u32 (Z i)])]⟩) ⟨len x, 0, fun _ => 0, ⟨by omega, by omega, by omega, fun i hi => by simp, ?_⟩, ?_⟩ ?_
  · have : ∀ n, valN (fun _ => 0) n = 0 := fun n => by
      induction n with
      | zero => rfl
      | succ n ih => rw [valN, ih]; simp
    rw [this]; simp [Nat.mod_one]
  · cbv
  · rintro σd σ ⟨k, Z0, ⟨h1, h2, rfl, h5, h6⟩, rfl⟩ K hK
    (conv => cbv)
    obtain ⟨i, rfl⟩ := Int.eq_ofNat_of_zero_le h1
    rw [Int.toNat_natCast] at h6
    split
    · rename_i g0
      rw [hq] at g0
      ((try simp (disch := omega) only [q0, nc, w64_id, wu64_id, wu32_id, wu8_id, Int.tdiv_eq_ediv_of_nonneg, Int.tmod_eq_emod_of_nonneg, Int.ofNat_eq_natCast, Int.natAbs_natCast, decide_eq_true_eq, decide_eq_false_iff_not, Bool.not_eq_true', Bool.not_eq_false', bne_iff_ne, bne_eq_false_iff_eq, beq_iff_eq, beq_eq_false_iff_ne, ne_eq] at g0); (try replace g0 := of_decide_eq_true g0); (try replace g0 := of_decide_eq_false g0))
      have hlx := limb_lt x i
      have hlx0 := limb_nonneg x i
      refine LoopN.mk [0, 1, 5, 6, 7, 8] (fun σd σ => ∃ (k c : Int) (Z : Int → Int), (0 ≤ k ∧ k ≤ len y + 1 ∧ σd = ((len y : Int) + 1 - k).toNat ∧ 0 ≤ c ∧ c < 1000000000 ∧ (∀ i : Nat, i < n → 0 ≤ Z i ∧ Z i < 1000000000) ∧ valN Z n + c.toNat * Bs ^ (i + k.toNat) = x % Bs ^ i * y + (limb x i).toNat * Bs ^ i * (y % Bs ^ k.toNat)) ∧
        σ = ⟨mkS [(0, .one (.t (natT q x))), (1, .one (.t (natT q y))), (5, .one (.row 0 nI)), (6, .one (.t (.int .i64 i))), (7, .one (.t (.int .u64 c))), (8, .one (.t (.int .i64 k)))] 0 70,
          [.sl Ty.«uint32» 1 nI (fun i => [.int .u32 (Z i)])]⟩) ⟨len y + 1, 0, 0, Z0, ⟨by omega, by omega, by omega, by omega, by omega, h5, ?_⟩, ?_⟩ ?_
      · rw [h6]; simp [Nat.mod_one]
      · cbv
      · rintro σd σ ⟨k, c, Z, ⟨p1, p2, rfl, p3, p4, p5, p6⟩, rfl⟩ K' hK'
        (conv => cbv)
        obtain ⟨j, rfl⟩ := Int.eq_ofNat_of_zero_le p1
        rw [Int.toNat_natCast] at p6
        simp only [nc, Int.ofNat_eq_natCast]
        have hly := limb_lt y j
        have hly0 := limb_nonneg y j
        obtain ⟨hp0, hp1⟩ := limb_mul_le hlx0 hlx hly0 hly
        have eij : (q Int fun _ => IntKind.i64.wrap ((i : Int) + (j : Int))) = ((i + j : Nat) : Int) := by subst hq; (try simp (disch := omega) only [q0, nc, w64_id, wu64_id, wu32_id, wu8_id, Int.tdiv_eq_ediv_of_nonneg, Int.tmod_eq_emod_of_nonneg, Int.ofNat_eq_natCast, Int.natAbs_natCast, decide_eq_true_eq, decide_eq_false_iff_not, Bool.not_eq_true', bne_iff_ne, beq_iff_eq, ne_eq]); omega
        have ej : (q Int fun _ => IntKind.i64.wrap ((j : Int) + 1)) = j + 1 := by subst hq; (try simp (disch := omega) only [q0, nc, w64_id, wu64_id, wu32_id, wu8_id, Int.tdiv_eq_ediv_of_nonneg, Int.tmod_eq_emod_of_nonneg, Int.ofNat_eq_natCast, Int.natAbs_natCast, decide_eq_true_eq, decide_eq_false_iff_not, Bool.not_eq_true', bne_iff_ne, beq_iff_eq, ne_eq])
        rw [eij, ej]
        have hz := p5 (i + j)
        have go : ∀ (c' v : Int), 0 ≤ v → v < 1000000000 → 0 ≤ c' → c' < 1000000000 → v + c' * 1000000000 = limb x i * limb y j + Z ((i + j : Nat) : Int) + c → j ≤ len y →
            K' ⟨mkS [(0, .one (.t (natT q x))), (1, .one (.t (natT q y))), (5, .one (.row 0 nI)), (6, .one (.t (.int .i64 i))), (7, .one (.t (.int .u64 c'))), (8, .one (.t (.int .i64 ((j : Int) + 1))))] 0 70,
              [.sl Ty.«uint32» 1 nI (updFn (fun i => [.int .u32 (Z i)]) ((i + j : Nat) : Int) [.int .u32 v])]⟩ := by
          intro c' v q1 q2 q3 q4 q5 q6
          rw [updFn_row]
          obtain ⟨hz0, hz1⟩ := hz (by omega)
          refine hK' _ ⟨_, ?_, (j : Int) + 1, c', upd1 Z ((i + j : Nat) : Int) v, ⟨by omega, by omega, rfl, q3, q4, fun m hm => ?_, ?_⟩, rfl⟩
          · omega
          · by_cases hmi : (m : Int) = ((i + j : Nat) : Int)
            · rw [hmi, upd1_at]; exact ⟨q1, q2⟩
            · rw [upd1_ne hmi]; exact p5 m hm
          · rw [show ((j : Int) + 1).toNat = j + 1 by omega]
            exact mul_step hlx0 hz0 p3 q3 q1 (by omega) p6 q5
        have hend : len y ≤ j → x % Bs ^ i * y + (limb x i).toNat * Bs ^ i * (y % Bs ^ j) = x % Bs ^ (i + 1) * y := fun h => by
          rw [mod_len y h, mod_succ x, limb_toNat, Nat.add_mul]
        split
        · rename_i g1
          rw [hq] at g1
          ((try simp (disch := omega) only [q0, nc, w64_id, wu64_id, wu32_id, wu8_id, Int.tdiv_eq_ediv_of_nonneg, Int.tmod_eq_emod_of_nonneg, Int.ofNat_eq_natCast, Int.natAbs_natCast, decide_eq_true_eq, decide_eq_false_iff_not, Bool.not_eq_true', Bool.not_eq_false', bne_iff_ne, bne_eq_false_iff_eq, beq_iff_eq, beq_eq_false_iff_ne, ne_eq] at g1); (try replace g1 := of_decide_eq_true g1); (try replace g1 := of_decide_eq_false g1))
          dsimp only
          obtain ⟨hz0, hz1⟩ := hz (by omega)
          refine Need.mk (by omega) (Need.mk (by (exact ⟨by kernel_rfl, by kernel_rfl⟩)) (Need.mk (by subst hq; (try simp (disch := omega) only [q0, nc, w64_id, wu64_id, wu32_id, wu8_id, Int.tdiv_eq_ediv_of_nonneg, Int.tmod_eq_emod_of_nonneg, Int.ofNat_eq_natCast, Int.natAbs_natCast, decide_eq_true_eq, decide_eq_false_iff_not, Bool.not_eq_true', bne_iff_ne, beq_iff_eq, ne_eq]); omega) (Need.mk (by subst hq; (try simp (disch := omega) only [q0, nc, w64_id, wu64_id, wu32_id, wu8_id, Int.tdiv_eq_ediv_of_nonneg, Int.tmod_eq_emod_of_nonneg, Int.ofNat_eq_natCast, Int.natAbs_natCast, decide_eq_true_eq, decide_eq_false_iff_not, Bool.not_eq_true', bne_iff_ne, beq_iff_eq, ne_eq]); omega) (Need.mk (by omega) (Need.mk (by omega) (Need.mk (by omega) (go _ _ ?_ ?_ ?_ ?_ ?_ (by omega))))))))
          all_goals (subst hq; (try simp (disch := omega) only [q0, nc, w64_id, wu64_id, wu32_id, wu8_id, Int.tdiv_eq_ediv_of_nonneg, Int.tmod_eq_emod_of_nonneg, Int.ofNat_eq_natCast, Int.natAbs_natCast, decide_eq_true_eq, decide_eq_false_iff_not, Bool.not_eq_true', bne_iff_ne, beq_iff_eq, ne_eq]); omega)
        · rename_i g1
          rw [hq] at g1
          ((try simp (disch := omega) only [q0, nc, w64_id, wu64_id, wu32_id, wu8_id, Int.tdiv_eq_ediv_of_nonneg, Int.tmod_eq_emod_of_nonneg, Int.ofNat_eq_natCast, Int.natAbs_natCast, decide_eq_true_eq, decide_eq_false_iff_not, Bool.not_eq_true', Bool.not_eq_false', bne_iff_ne, bne_eq_false_iff_eq, beq_iff_eq, beq_eq_false_iff_ne, ne_eq] at g1); (try replace g1 := of_decide_eq_true g1); (try replace g1 := of_decide_eq_false g1))
          dsimp only
          have hend := hend (by omega)
          split
          · rename_i g2
            rw [hq] at g2
            ((try simp (disch := omega) only [q0, nc, w64_id, wu64_id, wu32_id, wu8_id, Int.tdiv_eq_ediv_of_nonneg, Int.tmod_eq_emod_of_nonneg, Int.ofNat_eq_natCast, Int.natAbs_natCast, decide_eq_true_eq, decide_eq_false_iff_not, Bool.not_eq_true', Bool.not_eq_false', bne_iff_ne, bne_eq_false_iff_eq, beq_iff_eq, beq_eq_false_iff_ne, ne_eq] at g2); (try replace g2 := of_decide_eq_true g2); (try replace g2 := of_decide_eq_false g2))
            have hj : j ≤ len y := by
              rcases Nat.lt_or_ge (len y) j with h | h
              · exfalso
                rw [hend] at p6
                have h1 : x % Bs ^ (i + 1) * y < Bs ^ (i + 1) * Bs ^ len y := Nat.mul_lt_mul'' (Nat.mod_lt _ (Bp_pos _)) (lt_pow_len y)
                rw [← Nat.pow_add] at h1
                have h2 : 1 * Bs ^ (i + j) ≤ c.toNat * Bs ^ (i + j) := Nat.mul_le_mul_right _ (by omega)
                rw [show i + j = i + 1 + len y by omega] at h2 p6
                omega
              · exact h
            have h0 : limb x i * limb y j = 0 := by rw [limb_high (show len y ≤ j by omega), Int.mul_zero]
            obtain ⟨hz0, hz1⟩ := hz (by omega)
            refine Need.mk (by omega) (Need.mk (by omega) (Need.mk (by omega) (Need.mk (by omega) (go _ _ ?_ ?_ ?_ ?_ ?_ (by omega)))))
            all_goals (subst hq; (try simp (disch := omega) only [q0, nc, w64_id, wu64_id, wu32_id, wu8_id, Int.tdiv_eq_ediv_of_nonneg, Int.tmod_eq_emod_of_nonneg, Int.ofNat_eq_natCast, Int.natAbs_natCast, decide_eq_true_eq, decide_eq_false_iff_not, Bool.not_eq_true', bne_iff_ne, beq_iff_eq, ne_eq]); omega)
          · rename_i g2
            rw [hq] at g2
            ((try simp (disch := omega) only [q0, nc, w64_id, wu64_id, wu32_id, wu8_id, Int.tdiv_eq_ediv_of_nonneg, Int.tmod_eq_emod_of_nonneg, Int.ofNat_eq_natCast, Int.natAbs_natCast, decide_eq_true_eq, decide_eq_false_iff_not, Bool.not_eq_true', Bool.not_eq_false', bne_iff_ne, bne_eq_false_iff_eq, beq_iff_eq, beq_eq_false_iff_ne, ne_eq] at g2); (try replace g2 := of_decide_eq_true g2); (try replace g2 := of_decide_eq_false g2))
            have hc : c = 0 := by omega
            rw [hc, Int.toNat_zero, Nat.zero_mul, Nat.add_zero, hend] at p6
            have ei : (q Int fun _ => IntKind.i64.wrap ((i : Int) + 1)) = i + 1 := by subst hq; (try simp (disch := omega) only [q0, nc, w64_id, wu64_id, wu32_id, wu8_id, Int.tdiv_eq_ediv_of_nonneg, Int.tmod_eq_emod_of_nonneg, Int.ofNat_eq_natCast, Int.natAbs_natCast, decide_eq_true_eq, decide_eq_false_iff_not, Bool.not_eq_true', bne_iff_ne, beq_iff_eq, ne_eq])
            rw [ei]
            refine hK _ ⟨_, ?_, (i : Int) + 1, Z, ⟨by omega, by omega, rfl, p5, ?_⟩, rfl⟩
            · omega
            · rw [show ((i : Int) + 1).toNat = i + 1 by omega]
              exact p6
    · rename_i g0
      rw [hq] at g0
      ((try simp (disch := omega) only [q0, nc, w64_id, wu64_id, wu32_id, wu8_id, Int.tdiv_eq_ediv_of_nonneg, Int.tmod_eq_emod_of_nonneg, Int.ofNat_eq_natCast, Int.natAbs_natCast, decide_eq_true_eq, decide_eq_false_iff_not, Bool.not_eq_true', Bool.not_eq_false', bne_iff_ne, bne_eq_false_iff_eq, beq_iff_eq, beq_eq_false_iff_ne, ne_eq] at g0); (try replace g0 := of_decide_eq_true g0); (try replace g0 := of_decide_eq_false g0))
      have hi : i = len x := by omega
      rw [hi, mod_len x (Nat.le_refl _)] at h6
      refine call_fz hCN 0 rfl ?_
      refine call_fn hq hCN ((cut_c n Z0 (by omega) h5).row1 hnI' (fun i _ => rfl)) rfl ?_
      generalize hN : valN Z0 n = N at *
      (conv => cbv)
      refine hR _ ?_
      subst hq
      rw [← h6]
      exact .refl
end Sx

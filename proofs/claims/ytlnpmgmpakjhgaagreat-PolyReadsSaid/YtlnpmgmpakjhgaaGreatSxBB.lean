/- A part of the proof of PolyReadsSaid: texts SxRat4 SxRat5 SxRat7 SxDiv. -/
import Derived.Test.YtlnpmgmpakjhgaaGreatSxAV
import Derived.Test.YtlnpmgmpakjhgaaGreatSxAZ
set_option linter.all false
section
set_option maxRecDepth 100000
namespace Sx
open Go

theorem mulSmall_c (x d : Nat) (hxl : len x ≤ 100000000) (hd : d < 1000000000) : PureF Pg F.rational_mulSmall (fun q => [.one (natT q x), .one (.int .u32 (q Int fun _ => (d : Int)))]) (fun q => .one (rowN q (len x + 1) (limb (x * d)))) := by
  refine walkF mixed tau_ok At.rational_mulSmall (fun CN DN q R hCN hDN hq hR => ?_)
  (conv => cbv)
  refine Need.mk (by subst hq; (try simp (disch := omega) only [q0, nc, w64_id, wu64_id, wu32_id, wu8_id, Int.tdiv_eq_ediv_of_nonneg, Int.tmod_eq_emod_of_nonneg, Int.ofNat_eq_natCast, Int.natAbs_natCast, decide_eq_true_eq, decide_eq_false_iff_not, Bool.not_eq_true', bne_iff_ne, beq_iff_eq, ne_eq]); omega) ?_
  refine LoopN.mk [0, 1, 5, 6, 14, 15] (fun σd σ => ∃ (k c : Int) (Z : Int → Int), (0 ≤ k ∧ k ≤ len x ∧ σd = ((len x : Int) - k).toNat ∧ 0 ≤ c ∧ c < 1000000000 ∧ (∀ i : Nat, (i : Int) < k → 0 ≤ Z i ∧ Z i < 1000000000) ∧ valN Z k.toNat + c.toNat * Bs ^ k.toNat = x % Bs ^ k.toNat * d) ∧
      σ = ⟨mkS [(0, .one (.t (natT q x))), (1, .one (.t (.int .u32 (q Int fun _ => (d : Int))))), (5, .one (.row 0 (q Int fun _ => IntKind.i64.wrap ((q Int fun _ => (len x : Int)) + 1)))), (6, .one (.t (.int .u64 c))), (14, .one (.t (.int .i64 (q Int fun _ => (len x : Int))))), (15, .one (.t (.int .i64 k)))] 0 44,
        [.sl 196 1 (q Int fun _ => IntKind.i64.wrap ((q Int fun _ => (len x : Int)) + 1)) (fun i => [.int .u32 (Z i)])]⟩) ⟨len x, 0, 0, fun _ => 0, ⟨by omega, by omega, by omega, by omega, by omega, fun i hi => by omega, by simp [valN, Nat.mod_one]⟩, ?_⟩ ?_
  · cbv
  · rintro σd σ ⟨k, c, Z, ⟨h1, h2, rfl, h3, h4, h5, h6⟩, rfl⟩ K hK
    (conv => cbv)
    obtain ⟨k, rfl⟩ := Int.eq_ofNat_of_zero_le h1
    have hlx := limb_lt x k
    have hlx0 := limb_nonneg x k
    obtain ⟨hp0, hp1⟩ := limb_mul_le hlx0 hlx (show (0 : Int) ≤ (d : Int) by omega) (by omega)
    have go : ∀ (c' v : Int), (0 ≤ v ∧ v < 1000000000 ∧ 0 ≤ c' ∧ c' < 1000000000 ∧ v + c' * 1000000000 = limb x k * d + c) → (k : Int) < len x →
        K ⟨mkS [(0, .one (.t (natT q x))), (1, .one (.t (.int .u32 (q Int fun _ => (d : Int))))), (5, .one (.row 0 (q Int fun _ => IntKind.i64.wrap ((q Int fun _ => (len x : Int)) + 1)))), (6, .one (.t (.int .u64 c'))), (14, .one (.t (.int .i64 (q Int fun _ => (len x : Int))))), (15, .one (.t (.int .i64 (q Int fun _ => IntKind.i64.wrap (k + 1)))))] 0 44,
          [.sl 196 1 (q Int fun _ => IntKind.i64.wrap ((q Int fun _ => (len x : Int)) + 1)) (updFn (fun i => [.int .u32 (Z i)]) k [.int .u32 v])]⟩ := by
      intro c' v ⟨p1, p2, p3, p4, p5⟩ hk
      rw [updFn_row]
      have e : (q Int fun _ => IntKind.i64.wrap ((k : Int) + 1)) = k + 1 := by subst hq; (try simp (disch := omega) only [q0, nc, w64_id, wu64_id, wu32_id, wu8_id, Int.tdiv_eq_ediv_of_nonneg, Int.tmod_eq_emod_of_nonneg, Int.ofNat_eq_natCast, Int.natAbs_natCast, decide_eq_true_eq, decide_eq_false_iff_not, Bool.not_eq_true', bne_iff_ne, beq_iff_eq, ne_eq])
      rw [e]
      refine hK _ ⟨_, ?_, (k : Int) + 1, c', upd1 Z k v, ⟨by omega, by omega, rfl, p3, p4, fun i hi => ?_, ?_⟩, rfl⟩
      · omega
      · by_cases hik : (i : Int) = k
        · rw [hik, upd1_at]; exact ⟨p1, p2⟩
        · rw [upd1_ne hik]; exact h5 i (by omega)
      · exact mulS_step h3 p3 p1 h6 p5
    split
    · rename_i g0
      simp [hq, q0, nc] at g0
      refine Need.mk (by subst hq; (try simp (disch := omega) only [q0, nc, w64_id, wu64_id, wu32_id, wu8_id, Int.tdiv_eq_ediv_of_nonneg, Int.tmod_eq_emod_of_nonneg, Int.ofNat_eq_natCast, Int.natAbs_natCast, decide_eq_true_eq, decide_eq_false_iff_not, Bool.not_eq_true', bne_iff_ne, beq_iff_eq, ne_eq]); omega) (Need.mk (by omega) (Need.mk (by omega) (Need.mk (by subst hq; (try simp (disch := omega) only [q0, nc, w64_id, wu64_id, wu32_id, wu8_id, Int.tdiv_eq_ediv_of_nonneg, Int.tmod_eq_emod_of_nonneg, Int.ofNat_eq_natCast, Int.natAbs_natCast, decide_eq_true_eq, decide_eq_false_iff_not, Bool.not_eq_true', bne_iff_ne, beq_iff_eq, ne_eq]); omega) (go _ _ ⟨?_, ?_, ?_, ?_, ?_⟩ (by omega)))))
      all_goals (subst hq; (try simp (disch := omega) only [q0, nc, w64_id, wu64_id, wu32_id, wu8_id, Int.tdiv_eq_ediv_of_nonneg, Int.tmod_eq_emod_of_nonneg, Int.ofNat_eq_natCast, Int.natAbs_natCast, decide_eq_true_eq, decide_eq_false_iff_not, Bool.not_eq_true', bne_iff_ne, beq_iff_eq, ne_eq]); omega)
    · rename_i g0
      simp [hq, q0, nc] at g0
      refine Need.mk (by subst hq; (try simp (disch := omega) only [q0, nc, w64_id, wu64_id, wu32_id, wu8_id, Int.tdiv_eq_ediv_of_nonneg, Int.tmod_eq_emod_of_nonneg, Int.ofNat_eq_natCast, Int.natAbs_natCast, decide_eq_true_eq, decide_eq_false_iff_not, Bool.not_eq_true', bne_iff_ne, beq_iff_eq, ne_eq]); omega) ?_
      simp only [nc]
      rw [updFn_row]
      have e1 : (q Int fun _ => IntKind.i64.wrap ((q Int fun _ => (len x : Int)) + 1)) = ((len x + 1 : Nat) : Int) := by subst hq; (try simp (disch := omega) only [q0, nc, w64_id, wu64_id, wu32_id, wu8_id, Int.tdiv_eq_ediv_of_nonneg, Int.tmod_eq_emod_of_nonneg, Int.ofNat_eq_natCast, Int.natAbs_natCast, decide_eq_true_eq, decide_eq_false_iff_not, Bool.not_eq_true', bne_iff_ne, beq_iff_eq, ne_eq]); omega
      have e2 : (q Int fun _ => (len x : Int)) = (k : Int) := by subst hq; simp only [q0]; omega
      have e4 : (q Int fun _ => IntKind.u32.wrap c) = c := by subst hq; (try simp (disch := omega) only [q0, nc, w64_id, wu64_id, wu32_id, wu8_id, Int.tdiv_eq_ediv_of_nonneg, Int.tmod_eq_emod_of_nonneg, Int.ofNat_eq_natCast, Int.natAbs_natCast, decide_eq_true_eq, decide_eq_false_iff_not, Bool.not_eq_true', bne_iff_ne, beq_iff_eq, ne_eq])
      rw [e1, e2, e4]
      refine hR _ (.one (TE.rowV (fun i hi => ?_) ?_))
      · by_cases hik : (i : Int) = k
        · rw [hik, upd1_at]; omega
        · rw [upd1_ne hik]; exact h5 i (by omega)
      · rw [show len x = k by omega, valN_push]
        simp only [Int.toNat_natCast] at h6
        rw [h6, mod_len x (by omega)]
end Sx
end

section
set_option maxRecDepth 100000
namespace Sx
open Go

theorem divSmall_c (x d : Nat) (hxl : len x ≤ 100000000) (hd0 : 0 < d) (hd : d < 1000000000) : PureF Pg F.rational_divSmall (fun q => [.one (natT q x), .one (.int .u32 (q Int fun _ => (d : Int)))]) (fun q => .tup [.one (natT q (x / d)), .one (.int .u32 (q Int fun _ => ((x % d : Nat) : Int)))]) := by
  refine walkF mixed tau_ok At.rational_divSmall (fun CN DN q R hCN hDN hq hR => ?_)
  (conv => cbv)
  refine Need.mk (by subst hq; (try simp (disch := omega) only [q0, nc, w64_id, wu64_id, wu32_id, wu8_id, Int.tdiv_eq_ediv_of_nonneg, Int.tmod_eq_emod_of_nonneg, Int.ofNat_eq_natCast, Int.natAbs_natCast, decide_eq_true_eq, decide_eq_false_iff_not, Bool.not_eq_true', bne_iff_ne, beq_iff_eq, ne_eq]); omega) ?_
  refine LoopN.mk [0, 1, 6, 7, 15, 16] (fun σd σ => ∃ (k c : Int) (Z : Int → Int), (0 ≤ k ∧ k ≤ len x ∧ σd = ((len x : Int) - k).toNat ∧ c = ((x / Bs ^ ((len x : Int) - k).toNat % d : Nat) : Int) ∧ (∀ i : Nat, (len x : Int) - k ≤ i → i < len x → Z i = limb (x / d) i)) ∧
      σ = ⟨mkS [(0, .one (.t (natT q x))), (1, .one (.t (.int .u32 (q Int fun _ => (d : Int))))), (6, .one (.row 0 (q Int fun _ => (len x : Int)))), (7, .one (.t (.int .u64 c))), (15, .one (.t (.int .i64 (q Int fun _ => (len x : Int))))), (16, .one (.t (.int .i64 k)))] 0 49,
        [.sl 196 1 (q Int fun _ => (len x : Int)) (fun i => [.int .u32 (Z i)])]⟩) ⟨len x, 0, 0, fun _ => 0, ⟨by omega, by omega, by omega, ?_, fun i hi hi' => by omega⟩, ?_⟩ ?_
  · have h1 := lt_pow_len x
    rw [show ((len x : Int) - 0).toNat = len x by omega, Nat.div_eq_of_lt h1]
    simp
  · cbv
  · rintro σd σ ⟨k, c, Z, ⟨h1, h2, rfl, h3, h5⟩, rfl⟩ K hK
    (conv => cbv)
    obtain ⟨k, rfl⟩ := Int.eq_ofNat_of_zero_le h1
    split
    · rename_i g0
      simp [hq, q0, nc] at g0
      obtain ⟨i, hi⟩ : ∃ i : Nat, (len x : Int) - 1 - k = i := ⟨len x - 1 - k, by omega⟩
      have hlx := limb_lt x i
      have hlx0 := limb_nonneg x i
      have e1 : ((len x : Int) - k).toNat = i + 1 := by omega
      rw [e1] at h3
      have hc : c < d := by rw [h3]; exact Int.ofNat_lt.2 (Nat.mod_lt _ hd0)
      have hc0 : 0 ≤ c := by omega
      obtain ⟨hd1, hd2⟩ := div_digit_int x i hd0
      rw [← h3] at hd1 hd2
      have hv := limb_lt (x / d) i
      have hv0 := limb_nonneg (x / d) i
      have hr : ((x / Bs ^ i % d : Nat) : Int) < d := Int.ofNat_lt.2 (Nat.mod_lt _ hd0)
      have ei : (q Int fun _ => IntKind.i64.wrap ((q Int fun _ => IntKind.i64.wrap ((q Int fun _ => (len x : Int)) - 1)) - (k : Int))) = i := by subst hq; (try simp (disch := omega) only [q0, nc, w64_id, wu64_id, wu32_id, wu8_id, Int.tdiv_eq_ediv_of_nonneg, Int.tmod_eq_emod_of_nonneg, Int.ofNat_eq_natCast, Int.natAbs_natCast, decide_eq_true_eq, decide_eq_false_iff_not, Bool.not_eq_true', bne_iff_ne, beq_iff_eq, ne_eq]); exact hi
      have go : ∀ (c' v : Int), c' = ((x / Bs ^ i % d : Nat) : Int) → v = limb (x / d) i →
          K ⟨mkS [(0, .one (.t (natT q x))), (1, .one (.t (.int .u32 (q Int fun _ => (d : Int))))), (6, .one (.row 0 (q Int fun _ => (len x : Int)))), (7, .one (.t (.int .u64 c'))), (15, .one (.t (.int .i64 (q Int fun _ => (len x : Int))))), (16, .one (.t (.int .i64 (q Int fun _ => IntKind.i64.wrap (k + 1)))))] 0 49,
            [.sl 196 1 (q Int fun _ => (len x : Int)) (updFn (fun i => [.int .u32 (Z i)]) i [.int .u32 v])]⟩ := by
        intro c' v p1 p2
        rw [updFn_row]
        have e : (q Int fun _ => IntKind.i64.wrap ((k : Int) + 1)) = k + 1 := by subst hq; (try simp (disch := omega) only [q0, nc, w64_id, wu64_id, wu32_id, wu8_id, Int.tdiv_eq_ediv_of_nonneg, Int.tmod_eq_emod_of_nonneg, Int.ofNat_eq_natCast, Int.natAbs_natCast, decide_eq_true_eq, decide_eq_false_iff_not, Bool.not_eq_true', bne_iff_ne, beq_iff_eq, ne_eq])
        rw [e]
        refine hK _ ⟨_, ?_, (k : Int) + 1, c', upd1 Z i v, ⟨by omega, by omega, rfl, ?_, fun j hj hj' => ?_⟩, rfl⟩
        · omega
        · rw [p1, show ((len x : Int) - (k + 1)).toNat = i by omega]
        · by_cases hji : (j : Int) = i
          · rw [hji, upd1_at, p2]
          · rw [upd1_ne hji]; exact h5 j (by omega) hj'
      simp only [nc, ei]
      refine Need.mk (by subst hq; (try simp (disch := omega) only [q0, nc, w64_id, wu64_id, wu32_id, wu8_id, Int.tdiv_eq_ediv_of_nonneg, Int.tmod_eq_emod_of_nonneg, Int.ofNat_eq_natCast, Int.natAbs_natCast, decide_eq_true_eq, decide_eq_false_iff_not, Bool.not_eq_true', bne_iff_ne, beq_iff_eq, ne_eq]); omega) (Need.mk (by (exact ⟨by kernel_rfl, by kernel_rfl⟩)) (Need.mk (by subst hq; (try simp (disch := omega) only [q0, nc, w64_id, wu64_id, wu32_id, wu8_id, Int.tdiv_eq_ediv_of_nonneg, Int.tmod_eq_emod_of_nonneg, Int.ofNat_eq_natCast, Int.natAbs_natCast, decide_eq_true_eq, decide_eq_false_iff_not, Bool.not_eq_true', bne_iff_ne, beq_iff_eq, ne_eq]); omega) (Need.mk (by subst hq; (try simp (disch := omega) only [q0, nc, w64_id, wu64_id, wu32_id, wu8_id, Int.tdiv_eq_ediv_of_nonneg, Int.tmod_eq_emod_of_nonneg, Int.ofNat_eq_natCast, Int.natAbs_natCast, decide_eq_true_eq, decide_eq_false_iff_not, Bool.not_eq_true', bne_iff_ne, beq_iff_eq, ne_eq]); omega) (Need.mk (by subst hq; (try simp (disch := omega) only [q0, nc, w64_id, wu64_id, wu32_id, wu8_id, Int.tdiv_eq_ediv_of_nonneg, Int.tmod_eq_emod_of_nonneg, Int.ofNat_eq_natCast, Int.natAbs_natCast, decide_eq_true_eq, decide_eq_false_iff_not, Bool.not_eq_true', bne_iff_ne, beq_iff_eq, ne_eq]); omega) (go _ _ ?_ ?_)))))
      · subst hq; (try simp (disch := omega) only [q0, nc, w64_id, wu64_id, wu32_id, wu8_id, Int.tdiv_eq_ediv_of_nonneg, Int.tmod_eq_emod_of_nonneg, Int.ofNat_eq_natCast, Int.natAbs_natCast, decide_eq_true_eq, decide_eq_false_iff_not, Bool.not_eq_true', bne_iff_ne, beq_iff_eq, ne_eq]); exact hd2
      · subst hq; (try simp (disch := omega) only [q0, nc, w64_id, wu64_id, wu32_id, wu8_id, Int.tdiv_eq_ediv_of_nonneg, Int.tmod_eq_emod_of_nonneg, Int.ofNat_eq_natCast, Int.natAbs_natCast, decide_eq_true_eq, decide_eq_false_iff_not, Bool.not_eq_true', bne_iff_ne, beq_iff_eq, ne_eq]); rw [hd1]; (try simp (disch := omega) only [q0, nc, w64_id, wu64_id, wu32_id, wu8_id, Int.tdiv_eq_ediv_of_nonneg, Int.tmod_eq_emod_of_nonneg, Int.ofNat_eq_natCast, Int.natAbs_natCast, decide_eq_true_eq, decide_eq_false_iff_not, Bool.not_eq_true', bne_iff_ne, beq_iff_eq, ne_eq])
    · rename_i g0
      simp [hq, q0, nc] at g0
      simp only [nc]
      refine call_fz hCN 0 rfl ?_
      have e1 : ((len x : Int) - k).toNat = 0 := by omega
      rw [e1] at h3
      refine call_fn hq hCN (trim_c (len x) Z (by omega) (fun i hi => ?_)) rfl ?_
      · rw [h5 i (by omega) hi]; exact ⟨limb_nonneg _ _, limb_lt _ _⟩
      generalize hN : valN Z (len x) = N
      have e3 : N = x / d := by
        rw [← hN, valN_congr (W := limb (x / d)) (fun i hi => h5 i (by omega) hi), valN_len]
        exact len_mono (Nat.div_le_self _ _)
      (conv => cbv)
      refine hR _ ?_
      subst hq
      have e4 : IntKind.u32.wrap c = ((x % d : Nat) : Int) := by
        have hr : ((x % d : Nat) : Int) < d := Int.ofNat_lt.2 (Nat.mod_lt _ hd0)
        rw [h3]
        simp only [Nat.pow_zero, Nat.div_one]
        rw [wu32_id (by omega)]
      rw [← e3]
      show VE (TV.tup [TV.one (natT q0 N), TV.one (.int .u32 (IntKind.u32.wrap c))]) (TV.tup [TV.one (natT q0 N), TV.one (.int .u32 ((x % d : Nat) : Int))])
      rw [e4]
      exact .refl
end Sx
end

section
set_option maxRecDepth 100000
namespace Sx
open Go

theorem PureF.row1 {g : FuncId} {n : Nat} {m : Int} {V : Int → Int} {G : Int → List T} {r : Qt → TV} (h : PureF Pg g (fun q => [.one (rowN q n V)]) r) (hm : m = n) (hG : ∀ i : Nat, i < n → G i = [.int .u32 (V i)]) : PureF Pg g (fun _ => [.one (.sl 1 m G)]) r := by
  subst hm
  exact PureC.args h rfl (fun j a b ha hb => by
    cases j with
    | zero =>
      simp at ha hb
      subst ha; subst hb
      exact .one (.sl (fun _ => rfl) (fun i hi => by rw [hG i (by simpa [q0] using hi)]) (fun i j a b hi ha hb => by
        rw [hG i (by simpa [q0] using hi)] at hb
        cases j with
        | zero => simp at ha hb; subst ha; subst hb; exact .refl
        | succ j => simp at ha))
    | succ j => simp at ha)

theorem norm_c (n : Nat) (V : Int → Int) (hn : n ≤ 100000000) (hV : ∀ i : Nat, i < n → 0 ≤ V i ∧ V i < 4294967296) : PureF Pg F.rational_norm (fun q => [.one (rowN q n V)]) (fun q => .one (natT q (valN V n))) := by
  refine walkF mixed tau_ok At.rational_norm (fun CN DN q R hCN hDN hq hR => ?_)
  (conv => cbv)
  refine Need.mk (by subst hq; (try simp (disch := omega) only [q0, nc, w64_id, wu64_id, wu32_id, wu8_id, Int.tdiv_eq_ediv_of_nonneg, Int.tmod_eq_emod_of_nonneg, Int.ofNat_eq_natCast, Int.natAbs_natCast, decide_eq_true_eq, decide_eq_false_iff_not, Bool.not_eq_true', bne_iff_ne, beq_iff_eq, ne_eq]); try omega) ?_
  refine LoopN.mk [3, 4, 12, 13, 14] (fun σd σ => ∃ (k c : Int) (Z : Int → Int) (G : Int → List T), (0 ≤ k ∧ k ≤ n ∧ σd = ((n : Int) - k).toNat ∧ 0 ≤ c ∧ c ≤ 5 ∧ (∀ i : Nat, (i : Int) < k → 0 ≤ Z i ∧ Z i < 1000000000 ∧ G i = [.int .u32 (Z i)]) ∧ valN Z k.toNat + c.toNat * Bs ^ k.toNat = valN V k.toNat) ∧
      σ = ⟨mkS [(3, .one (.row 0 k)), (4, .one (.t (.int .u64 c))), (12, .one (.t (rowN q n V))), (13, .one (.t (.int .i64 (q Int fun _ => (n : Int))))), (14, .one (.t (.int .i64 k)))] 0 40,
        [.sl 196 1 k G]⟩) ⟨n, 0, 0, fun _ => 0, fun _ => [.int .u32 0], ⟨by omega, by omega, by omega, by omega, by omega, fun i hi => by omega, rfl⟩, ?_⟩ ?_
  · cbv
  · rintro σd σ ⟨k, c, Z, G, ⟨h1, h2, rfl, h3, h4, h5, h6⟩, rfl⟩ K hK
    (conv => cbv)
    obtain ⟨k, rfl⟩ := Int.eq_ofNat_of_zero_le h1
    have go : ∀ (c' v : Int), 0 ≤ v → v < 1000000000 → 0 ≤ c' → c' ≤ 5 → v + c' * 1000000000 = V k + c → (k : Int) < n →
        K ⟨mkS [(3, .one (.row 0 (q Int fun _ => (k : Int) + 1))), (4, .one (.t (.int .u64 c'))), (12, .one (.t (rowN q n V))), (13, .one (.t (.int .i64 (q Int fun _ => (n : Int))))), (14, .one (.t (.int .i64 (q Int fun _ => IntKind.i64.wrap (k + 1)))))] 0 40,
          [.sl 196 1 (q Int fun _ => (k : Int) + 1) (appFn k G (fun i => [[T.int .u32 v]].getD i.toNat []))]⟩ := by
      intro c' v p1 p2 p3 p4 p5 hk
      have e : (q Int fun _ => IntKind.i64.wrap ((k : Int) + 1)) = k + 1 := by subst hq; (try simp (disch := omega) only [q0, nc, w64_id, wu64_id, wu32_id, wu8_id, Int.tdiv_eq_ediv_of_nonneg, Int.tmod_eq_emod_of_nonneg, Int.ofNat_eq_natCast, Int.natAbs_natCast, decide_eq_true_eq, decide_eq_false_iff_not, Bool.not_eq_true', bne_iff_ne, beq_iff_eq, ne_eq])
      have e' : (q Int fun _ => (k : Int) + 1) = k + 1 := by subst hq; rfl
      rw [e, e']
      refine hK _ ⟨_, ?_, (k : Int) + 1, c', upd1 Z k v, _, ⟨by omega, by omega, rfl, p3, p4, fun i hi => ⟨?_, ?_, app_row1 (fun i hi => (h5 i hi).2.2) i (by omega)⟩, ?_⟩, rfl⟩
      · omega
      · by_cases hik : (i : Int) = k
        · rw [hik, upd1_at]; exact p1
        · rw [upd1_ne hik]; exact (h5 i (by omega)).1
      · by_cases hik : (i : Int) = k
        · rw [hik, upd1_at]; exact p2
        · rw [upd1_ne hik]; exact (h5 i (by omega)).2.1
      · exact norm_step h3 p3 p1 (hV k (by omega)).1 h6 p5
    split
    · rename_i g0
      simp [hq, q0, nc] at g0
      have hv := hV k g0
      refine Need.mk (by subst hq; (try simp (disch := omega) only [q0, nc, w64_id, wu64_id, wu32_id, wu8_id, Int.tdiv_eq_ediv_of_nonneg, Int.tmod_eq_emod_of_nonneg, Int.ofNat_eq_natCast, Int.natAbs_natCast, decide_eq_true_eq, decide_eq_false_iff_not, Bool.not_eq_true', bne_iff_ne, beq_iff_eq, ne_eq]); omega) (Need.mk (by omega) (Need.mk (by subst hq; (try simp (disch := omega) only [q0, nc, w64_id, wu64_id, wu32_id, wu8_id, Int.tdiv_eq_ediv_of_nonneg, Int.tmod_eq_emod_of_nonneg, Int.ofNat_eq_natCast, Int.natAbs_natCast, decide_eq_true_eq, decide_eq_false_iff_not, Bool.not_eq_true', bne_iff_ne, beq_iff_eq, ne_eq]); omega) (Need.mk (by omega) (go _ _ ?_ ?_ ?_ ?_ ?_ (by omega)))))
      all_goals (subst hq; (try simp (disch := omega) only [q0, nc, w64_id, wu64_id, wu32_id, wu8_id, Int.tdiv_eq_ediv_of_nonneg, Int.tmod_eq_emod_of_nonneg, Int.ofNat_eq_natCast, Int.natAbs_natCast, decide_eq_true_eq, decide_eq_false_iff_not, Bool.not_eq_true', bne_iff_ne, beq_iff_eq, ne_eq]); omega)
    · rename_i g0
      simp [hq, q0, nc] at g0
      have hk : k = n := by omega
      subst hk
      simp only [Int.toNat_natCast] at h6
      split
      · rename_i g1
        simp [hq, q0, nc] at g1
        refine Need.mk (by subst hq; (try simp (disch := omega) only [q0, nc, w64_id, wu64_id, wu32_id, wu8_id, Int.tdiv_eq_ediv_of_nonneg, Int.tmod_eq_emod_of_nonneg, Int.ofNat_eq_natCast, Int.natAbs_natCast, decide_eq_true_eq, decide_eq_false_iff_not, Bool.not_eq_true', bne_iff_ne, beq_iff_eq, ne_eq]); omega) ?_
        have ec : (q Int fun _ => IntKind.u32.wrap c) = c := by subst hq; (try simp (disch := omega) only [q0, nc, w64_id, wu64_id, wu32_id, wu8_id, Int.tdiv_eq_ediv_of_nonneg, Int.tmod_eq_emod_of_nonneg, Int.ofNat_eq_natCast, Int.natAbs_natCast, decide_eq_true_eq, decide_eq_false_iff_not, Bool.not_eq_true', bne_iff_ne, beq_iff_eq, ne_eq])
        simp only [nc, ec]
        refine call_fz hCN 2 rfl ?_
        refine call_fn hq hCN ((trim_c (k + 1) (upd1 Z k c) (by omega) (fun i hi => ?_)).row1 (by subst hq; simp [q0]) (app_row1 (v := c) (fun i hi => (h5 i hi).2.2))) rfl ?_
        · by_cases hik : (i : Int) = k
          · rw [hik, upd1_at]; omega
          · rw [upd1_ne hik]; exact ⟨(h5 i (by omega)).1, (h5 i (by omega)).2.1⟩
        generalize hN : valN (upd1 Z k c) (k + 1) = N
        have e3 : N = valN V k := by rw [← hN, valN_push, h6]
        (conv => cbv)
        refine hR _ ?_
        subst hq
        rw [← e3]
        exact .refl
      · rename_i g1
        simp [hq, q0, nc] at g1
        have hc : c = 0 := by omega
        subst hc
        refine call_fz hCN 0 rfl ?_
        refine call_fn hq hCN ((trim_c k Z (by omega) (fun i hi => ⟨(h5 i (by omega)).1, (h5 i (by omega)).2.1⟩)).row1 rfl (fun i hi => (h5 i (by omega)).2.2)) rfl ?_
        generalize hN : valN Z k = N
        have e3 : N = valN V k := by rw [← hN, ← h6]; simp
        (conv => cbv)
        refine hR _ ?_
        subst hq
        rw [← e3]
        exact .refl
end Sx
end

section
namespace Sx
open Go

theorem div_start {x y d : Nat} (hy : y ≠ 0) (hd : 0 < d) (h : len y ≤ len x) : x * d / Bs ^ (len x + 1 - len y) < y * d := by
  refine Nat.div_lt_of_lt_mul ?_
  have h1 := lt_pow_len x
  have h2 := pow_len_le hy
  have h3 := len_pos hy
  have e : Bs ^ len x = Bs ^ (len x + 1 - len y) * Bs ^ (len y - 1) := by
    rw [← Nat.pow_add]
    congr 1
    omega
  have h4 : x * d < Bs ^ len x * d := Nat.mul_lt_mul_of_pos_right h1 hd
  have h5 : Bs ^ (len x + 1 - len y) * (Bs ^ (len y - 1) * d) ≤ Bs ^ (len x + 1 - len y) * (y * d) := Nat.mul_le_mul_left _ (Nat.mul_le_mul_right _ h2)
  rw [e, Nat.mul_assoc] at h4
  omega
theorem valN_low (W : Int → Int) : ∀ n : Nat, valN W (n + 1) = (W 0).toNat + Bs * valN (fun i => W (i + 1)) n
  | 0 => by simp [valN]
  | n + 1 => by
    rw [valN, valN_low W n, valN, Nat.pow_succ]
    have e : ((n + 1 : Nat) : Int) = (n : Int) + 1 := by omega
    rw [e, Nat.mul_add]
    grind
theorem div_window {X Y j n : Nat} {U : Int → Int} (h1 : U (j : Int) = limb X j) (h2 : valN (fun i => U (((j + 1 : Nat) : Int) + i)) n = X / Bs ^ (j + 1) % Y) :
    valN (fun i => U ((j : Int) + i)) (n + 1) = X / Bs ^ (j + 1) % Y * Bs + X / Bs ^ j % Bs := by
  rw [valN_low]
  have e : (fun i : Int => U ((j : Int) + (i + 1))) = fun i => U (((j + 1 : Nat) : Int) + i) := by
    funext i
    congr 1
    omega
  rw [e, h2, show (j : Int) + 0 = j by omega, h1, limb_toNat]
  rw [Nat.mul_comm Bs]
  omega
theorem div_window_lt {X Y j : Nat} (hY : 0 < Y) : X / Bs ^ (j + 1) % Y * Bs + X / Bs ^ j % Bs < Y * Bs := by
  have h1 := Nat.mod_lt (X / Bs ^ (j + 1)) hY
  have h2 := Nat.mod_lt (X / Bs ^ j) Bs_pos
  have h3 : (X / Bs ^ (j + 1) % Y + 1) * Bs ≤ Y * Bs := Nat.mul_le_mul_right _ h1
  rw [Nat.add_mul] at h3
  omega

theorem valN_fit {W : Int → Int} {n : Nat} (h : valN W (n + 1) < Bs ^ n) : valN W n = valN W (n + 1) := by
  rw [valN] at h ⊢
  rcases Nat.eq_zero_or_pos (W n).toNat with h0 | h0
  · rw [h0]; omega
  · have : 1 * Bs ^ n ≤ (W n).toNat * Bs ^ n := Nat.mul_le_mul_right _ h0
    omega
theorem len_scaled {y d : Nat} (hy : y ≠ 0) (hd : 0 < d) (h : d * ((limb y ((len y : Int) - 1)).toNat + 1) ≤ Bs) : y * d < Bs ^ len y := by
  have h3 := len_pos hy
  have e0 : ((len y : Int) - 1) = ((len y - 1 : Nat) : Int) := by omega
  rw [e0, limb_toNat] at h
  have h1 := lt_pow_len y
  have e : Bs ^ len y = Bs ^ (len y - 1) * Bs := by
    rw [← Nat.pow_succ]
    congr 1
    omega
  have h2 : y / Bs ^ (len y - 1) < Bs := by
    rw [Nat.div_lt_iff_lt_mul (Bp_pos _), Nat.mul_comm, ← e]
    exact h1
  rw [Nat.mod_eq_of_lt h2] at h
  have h4 := Nat.lt_div_mul_add (a := y) (Bp_pos (len y - 1))
  generalize y / Bs ^ (len y - 1) = t at *
  have h5 : y < (t + 1) * Bs ^ (len y - 1) := by rw [Nat.add_mul]; omega
  have h6 : y * d < (t + 1) * Bs ^ (len y - 1) * d := Nat.mul_lt_mul_of_pos_right h5 hd
  have h7 : (t + 1) * Bs ^ (len y - 1) * d = Bs ^ (len y - 1) * (d * (t + 1)) := by grind
  have h8 : Bs ^ (len y - 1) * (d * (t + 1)) ≤ Bs ^ (len y - 1) * Bs := Nat.mul_le_mul_left _ h
  rw [e]
  omega
theorem top_scaled {y d : Nat} (hy : y ≠ 0) (hyd : y * d < Bs ^ len y) (h : 500000000 ≤ d * (limb y ((len y : Int) - 1)).toNat) : 500000000 ≤ limb (y * d) ((len y : Int) - 1) := by
  have h3 := len_pos hy
  have e0 : ((len y : Int) - 1) = ((len y - 1 : Nat) : Int) := by omega
  rw [e0] at h ⊢
  rw [limb_toNat] at h
  rw [limb_cast]
  have e : Bs ^ len y = Bs ^ (len y - 1) * Bs := by
    rw [← Nat.pow_succ]
    congr 1
    omega
  have h2 : y * d / Bs ^ (len y - 1) < Bs := by
    rw [Nat.div_lt_iff_lt_mul (Bp_pos _), Nat.mul_comm Bs, ← e]
    exact hyd
  rw [Nat.mod_eq_of_lt h2]
  have h4 : d * (y / Bs ^ (len y - 1) % Bs) ≤ y * d / Bs ^ (len y - 1) := by
    rw [Nat.le_div_iff_mul_le (Bp_pos _)]
    have h5 := Nat.div_mul_le_self y (Bs ^ (len y - 1))
    have h6 := Nat.mod_le (y / Bs ^ (len y - 1)) Bs
    have h7 : y / Bs ^ (len y - 1) % Bs * Bs ^ (len y - 1) ≤ y := Nat.le_trans (Nat.mul_le_mul_right _ h6) h5
    have h8 := Nat.mul_le_mul_right d h7
    have e9 : d * (y / Bs ^ (len y - 1) % Bs) * Bs ^ (len y - 1) = y / Bs ^ (len y - 1) % Bs * Bs ^ (len y - 1) * d := by grind
    rw [e9]
    exact h8
  omega
theorem len_div {x y : Nat} (hy : y ≠ 0) (h : len y ≤ len x) : x / y < Bs ^ (len x + 1 - len y) := by
  have h1 := lt_pow_len x
  have h2 := pow_len_le hy
  have h3 := len_pos hy
  rw [Nat.div_lt_iff_lt_mul (Nat.pos_of_ne_zero hy)]
  have e : Bs ^ len x = Bs ^ (len x + 1 - len y) * Bs ^ (len y - 1) := by
    rw [← Nat.pow_add]
    congr 1
    omega
  have h5 : Bs ^ (len x + 1 - len y) * Bs ^ (len y - 1) ≤ Bs ^ (len x + 1 - len y) * y := Nat.mul_le_mul_left _ h2
  omega
theorem valN_split (Z : Int → Int) (a : Nat) : ∀ n : Nat, valN Z (a + n) = valN Z a + Bs ^ a * valN (fun i => Z ((a : Int) + i)) n
  | 0 => by simp [valN]
  | n + 1 => by
    have e : valN Z (a + (n + 1)) = valN Z (a + n) + (Z ((a + n : Nat) : Int)).toNat * Bs ^ (a + n) := rfl
    rw [e, valN_split Z a n, valN, Nat.pow_add, Int.natCast_add]
    grind
end Sx
end

/- A part of the proof of PolyReadsSaid: texts SxRef1. -/
import Derived.Test.YtlnpmgmpakjhgaaGreatSxBC
set_option linter.all false
set_option maxRecDepth 100000
namespace Sx
open Go

theorem cut_c (n : Nat) (V : Int → Int) (hn : n ≤ 1000000000) (hV : ∀ i : Nat, i < n → 0 ≤ V i ∧ V i < 1000000000) : PureF Pg F.amortcostref1_cut (fun q => [.one (rowN q n V)]) (fun q => .one (natT q (valN V n))) := by
  refine walkF mixed tau_ok At.amortcostref1_cut (fun CN DN q R hCN hDN hq hR => ?_)
  (conv => cbv)
  generalize hQ : blockK 0 (seqK _ _) = Q1
  have hrest : ∀ k : Int, 0 ≤ k → k ≤ n → (∀ j : Nat, k ≤ j → j < n → V j = 0) → (0 < k → V (k - 1) ≠ 0) → Q1 (.exit 0) ⟨mkS [(0, .one (.t (rowN q n V))), (3, .one (.t (.int .i64 k)))] 0 22, []⟩ := by
    intro k h1 h2 h3 h4
    obtain ⟨k, rfl⟩ := Int.eq_ofNat_of_zero_le h1
    rw [← hQ]
    clear hQ
    (conv => cbv)
    have te : TE (rowT k V) (natT q0 (valN V n)) := TE.nat (fun i hi => hV i (by omega)) (fun h => h4 (by omega)) (valN_zeros (by omega) (fun i a b => h3 i (by omega) b))
    refine Need.mk (by subst hq; (try simp (disch := omega) only [q0, nc, w64_id, wu64_id, wu32_id, wu8_id, Int.tdiv_eq_ediv_of_nonneg, Int.tmod_eq_emod_of_nonneg, Int.ofNat_eq_natCast, Int.natAbs_natCast, decide_eq_true_eq, decide_eq_false_iff_not, Bool.not_eq_true', bne_iff_ne, beq_iff_eq, ne_eq]); omega) (Need.mk ?_ (hR _ (.one te)))
    show (k : Int) * 4 ≤ 140737488355328
    omega
  clear hQ
  refine LoopN.mk [0, 3] (fun d σ => ∃ k : Int, (0 ≤ k ∧ k ≤ n ∧ d = k.toNat ∧ ∀ j : Nat, k ≤ j → j < n → V j = 0) ∧
    σ = ⟨mkS [(0, .one (.t (rowN q n V))), (3, .one (.t (.int .i64 k)))] 0 22, []⟩) ⟨n, q Int fun _ => (n : Int), ?_, ?_⟩ ?_
  · subst hq; exact ⟨by simp only [q0]; omega, by simp only [q0]; omega, by simp only [q0]; omega, fun j h _ => by simp only [q0] at h; omega⟩
  · cbv
  · rintro d σ ⟨k, ⟨h1, h2, rfl, h4⟩, rfl⟩ K hK
    (conv => cbv)
    obtain ⟨k, rfl⟩ := Int.eq_ofNat_of_zero_le h1
    split
    · rename_i h0
      rw [hq] at h0
      ((try simp (disch := omega) only [q0, nc, w64_id, wu64_id, wu32_id, wu8_id, Int.tdiv_eq_ediv_of_nonneg, Int.tmod_eq_emod_of_nonneg, Int.ofNat_eq_natCast, Int.natAbs_natCast, decide_eq_true_eq, decide_eq_false_iff_not, Bool.not_eq_true', Bool.not_eq_false', bne_iff_ne, bne_eq_false_iff_eq, beq_iff_eq, beq_eq_false_iff_ne, ne_eq] at h0); (try replace h0 := of_decide_eq_true h0); (try replace h0 := of_decide_eq_false h0))
      have e1 : (q Int fun _ => IntKind.i64.wrap ((k : Int) - 1)) = (k : Int) - 1 := by subst hq; (try simp (disch := omega) only [q0, nc, w64_id, wu64_id, wu32_id, wu8_id, Int.tdiv_eq_ediv_of_nonneg, Int.tmod_eq_emod_of_nonneg, Int.ofNat_eq_natCast, Int.natAbs_natCast, decide_eq_true_eq, decide_eq_false_iff_not, Bool.not_eq_true', bne_iff_ne, beq_iff_eq, ne_eq])
      rw [e1]
      refine Need.mk (by subst hq; (try simp (disch := omega) only [q0, nc, w64_id, wu64_id, wu32_id, wu8_id, Int.tdiv_eq_ediv_of_nonneg, Int.tmod_eq_emod_of_nonneg, Int.ofNat_eq_natCast, Int.natAbs_natCast, decide_eq_true_eq, decide_eq_false_iff_not, Bool.not_eq_true', bne_iff_ne, beq_iff_eq, ne_eq]); omega) ?_
      split
      · rename_i h5
        rw [hq] at h5
        ((try simp (disch := omega) only [q0, nc, w64_id, wu64_id, wu32_id, wu8_id, Int.tdiv_eq_ediv_of_nonneg, Int.tmod_eq_emod_of_nonneg, Int.ofNat_eq_natCast, Int.natAbs_natCast, decide_eq_true_eq, decide_eq_false_iff_not, Bool.not_eq_true', Bool.not_eq_false', bne_iff_ne, bne_eq_false_iff_eq, beq_iff_eq, beq_eq_false_iff_ne, ne_eq] at h5); (try replace h5 := of_decide_eq_true h5); (try replace h5 := of_decide_eq_false h5))
        refine hK _ ⟨_, ?_, _, ⟨?_, ?_, rfl, ?_⟩, rfl⟩ <;> try omega
        intro j hj hjn
        by_cases hjk : (j : Int) = k - 1
        · rw [hjk]; exact h5
        · exact h4 j (by omega) hjn
      · rename_i h5
        rw [hq] at h5
        ((try simp (disch := omega) only [q0, nc, w64_id, wu64_id, wu32_id, wu8_id, Int.tdiv_eq_ediv_of_nonneg, Int.tmod_eq_emod_of_nonneg, Int.ofNat_eq_natCast, Int.natAbs_natCast, decide_eq_true_eq, decide_eq_false_iff_not, Bool.not_eq_true', Bool.not_eq_false', bne_iff_ne, bne_eq_false_iff_eq, beq_iff_eq, beq_eq_false_iff_ne, ne_eq] at h5); (try replace h5 := of_decide_eq_true h5); (try replace h5 := of_decide_eq_false h5))
        exact hrest k (by omega) h2 h4 (fun _ => h5)
    · rename_i h0
      rw [hq] at h0
      ((try simp (disch := omega) only [q0, nc, w64_id, wu64_id, wu32_id, wu8_id, Int.tdiv_eq_ediv_of_nonneg, Int.tmod_eq_emod_of_nonneg, Int.ofNat_eq_natCast, Int.natAbs_natCast, decide_eq_true_eq, decide_eq_false_iff_not, Bool.not_eq_true', Bool.not_eq_false', bne_iff_ne, bne_eq_false_iff_eq, beq_iff_eq, beq_eq_false_iff_ne, ne_eq] at h0); (try replace h0 := of_decide_eq_true h0); (try replace h0 := of_decide_eq_false h0))
      exact hrest k (by omega) h2 h4 (fun h => by omega)

theorem nat_c (n : Nat) (V : Int → Int) (hn : n ≤ 100000000) (hV : ∀ i : Nat, i < n → 0 ≤ V i ∧ V i < 4294967296) : PureF Pg F.amortcostref1_nat (fun q => [.one (rowN q n V)]) (fun q => .one (natT q (valN V n))) := by
  refine walkF mixed tau_ok At.amortcostref1_nat (fun CN DN q R hCN hDN hq hR => ?_)
  (conv => cbv)
  refine LoopN.mr [0, 3, 4, 5] [(3, Ty.«uint32», 1)] (fun σd σ => ∃ (k c : Int) (Z : Int → Int) (G : Int → List T), (0 ≤ k ∧ k ≤ n ∧ σd = ((n : Int) - k).toNat ∧ 0 ≤ c ∧ c ≤ 5 ∧ (∀ i : Nat, (i : Int) < k → 0 ≤ Z i ∧ Z i < 1000000000 ∧ G i = [.int .u32 (Z i)]) ∧ valN Z k.toNat + c.toNat * Bs ^ k.toNat = valN V k.toNat) ∧
      σ = ⟨mkS [(0, .one (.t (rowN q n V))), (3, .one (.row 0 k)), (4, .one (.t (.int .u64 c))), (5, .one (.t (.int .i64 k)))] 0 36,
        [.sl Ty.«uint32» 1 k G]⟩) ⟨n, 0, 0, fun _ => 0, fun _ => [], ⟨by omega, by omega, by omega, by omega, by omega, fun i hi => by omega, rfl⟩, ?_⟩ ?_
  · cbv
  · rintro σd σ ⟨k, c, Z, G, ⟨h1, h2, rfl, h3, h4, h5, h6⟩, rfl⟩ K hK
    (conv => cbv)
    obtain ⟨k, rfl⟩ := Int.eq_ofNat_of_zero_le h1
    have go : ∀ (c' v : Int), 0 ≤ v → v < 1000000000 → 0 ≤ c' → c' ≤ 5 → v + c' * 1000000000 = V k + c → (k : Int) < n →
        K ⟨mkS [(0, .one (.t (rowN q n V))), (3, .one (.row 0 (q Int fun _ => (k : Int) + 1))), (4, .one (.t (.int .u64 c'))), (5, .one (.t (.int .i64 (q Int fun _ => IntKind.i64.wrap (k + 1)))))] 0 36,
          [.sl Ty.«uint32» 1 (q Int fun _ => (k : Int) + 1) (appFn k G (fun i => [[T.int .u32 v]].getD i.toNat []))]⟩ := by
      intro c' v p1 p2 p3 p4 p5 hk
      have e : (q Int fun _ => IntKind.i64.wrap ((k : Int) + 1)) = k + 1 := by subst hq; (try simp (disch := omega) only [q0, nc, w64_id, wu64_id, wu32_id, wu8_id, Int.tdiv_eq_ediv_of_nonneg, Int.tmod_eq_emod_of_nonneg, Int.ofNat_eq_natCast, Int.natAbs_natCast, decide_eq_true_eq, decide_eq_false_iff_not, Bool.not_eq_true', bne_iff_ne, beq_iff_eq, ne_eq])
      have e' : (q Int fun _ => (k : Int) + 1) = k + 1 := by subst hq; rfl
      rw [e, e']
      refine hK _ ⟨_, ?_, (k : Int) + 1, c', upd1 Z k v, _, ⟨by omega, by omega, rfl, p3, p4, fun i hi => ⟨?_, ?_, app_row1 (fun i hi => (h5 i hi).2.2) i (by omega)⟩, ?_⟩, rfl⟩
      · omega
      · by_cases hik : (i : Int) = k
        · rw [hik, upd1_at]; exact p1
        · rw [upd1_ne hik]; exact (h5 i (by omega)).1
      · by_cases hik : (i : Int) = k
        · rw [hik, upd1_at]; exact p2
        · rw [upd1_ne hik]; exact (h5 i (by omega)).2.1
      · exact norm_step h3 p3 p1 (hV k (by omega)).1 h6 p5
    split
    · rename_i g0
      rw [hq] at g0
      ((try simp (disch := omega) only [q0, nc, w64_id, wu64_id, wu32_id, wu8_id, Int.tdiv_eq_ediv_of_nonneg, Int.tmod_eq_emod_of_nonneg, Int.ofNat_eq_natCast, Int.natAbs_natCast, decide_eq_true_eq, decide_eq_false_iff_not, Bool.not_eq_true', Bool.not_eq_false', bne_iff_ne, bne_eq_false_iff_eq, beq_iff_eq, beq_eq_false_iff_ne, ne_eq] at g0); (try replace g0 := of_decide_eq_true g0); (try replace g0 := of_decide_eq_false g0))
      have hv := hV k (by omega)
      refine Need.mk (by subst hq; (try simp (disch := omega) only [q0, nc, w64_id, wu64_id, wu32_id, wu8_id, Int.tdiv_eq_ediv_of_nonneg, Int.tmod_eq_emod_of_nonneg, Int.ofNat_eq_natCast, Int.natAbs_natCast, decide_eq_true_eq, decide_eq_false_iff_not, Bool.not_eq_true', bne_iff_ne, beq_iff_eq, ne_eq]); omega) (Need.mk (by omega) (Need.mk (by subst hq; show ((k : Int) + 1) * 4 ≤ 140737488355328; omega) (Need.mk (by omega) (go _ _ ?_ ?_ ?_ ?_ ?_ (by omega)))))
      all_goals (subst hq; (try simp (disch := omega) only [q0, nc, w64_id, wu64_id, wu32_id, wu8_id, Int.tdiv_eq_ediv_of_nonneg, Int.tmod_eq_emod_of_nonneg, Int.ofNat_eq_natCast, Int.natAbs_natCast, decide_eq_true_eq, decide_eq_false_iff_not, Bool.not_eq_true', bne_iff_ne, beq_iff_eq, ne_eq]); omega)
    · rename_i g0
      rw [hq] at g0
      ((try simp (disch := omega) only [q0, nc, w64_id, wu64_id, wu32_id, wu8_id, Int.tdiv_eq_ediv_of_nonneg, Int.tmod_eq_emod_of_nonneg, Int.ofNat_eq_natCast, Int.natAbs_natCast, decide_eq_true_eq, decide_eq_false_iff_not, Bool.not_eq_true', Bool.not_eq_false', bne_iff_ne, bne_eq_false_iff_eq, beq_iff_eq, beq_eq_false_iff_ne, ne_eq] at g0); (try replace g0 := of_decide_eq_true g0); (try replace g0 := of_decide_eq_false g0))
      have hk : k = n := by omega
      subst hk
      simp only [Int.toNat_natCast] at h6
      split
      · rename_i g1
        rw [hq] at g1
        ((try simp (disch := omega) only [q0, nc, w64_id, wu64_id, wu32_id, wu8_id, Int.tdiv_eq_ediv_of_nonneg, Int.tmod_eq_emod_of_nonneg, Int.ofNat_eq_natCast, Int.natAbs_natCast, decide_eq_true_eq, decide_eq_false_iff_not, Bool.not_eq_true', Bool.not_eq_false', bne_iff_ne, bne_eq_false_iff_eq, beq_iff_eq, beq_eq_false_iff_ne, ne_eq] at g1); (try replace g1 := of_decide_eq_true g1); (try replace g1 := of_decide_eq_false g1))
        refine Need.mk (by subst hq; show ((k : Int) + 1) * 4 ≤ 140737488355328; omega) ?_
        have ec : (q Int fun _ => IntKind.u32.wrap c) = c := by subst hq; (try simp (disch := omega) only [q0, nc, w64_id, wu64_id, wu32_id, wu8_id, Int.tdiv_eq_ediv_of_nonneg, Int.tmod_eq_emod_of_nonneg, Int.ofNat_eq_natCast, Int.natAbs_natCast, decide_eq_true_eq, decide_eq_false_iff_not, Bool.not_eq_true', bne_iff_ne, beq_iff_eq, ne_eq])
        simp only [nc, ec]
        refine call_fz hCN 2 rfl ?_
        refine call_fn hq hCN ((cut_c (k + 1) (upd1 Z k c) (by omega) (fun i hi => ?_)).row1 (by subst hq; simp [q0]) (app_row1 (v := c) (fun i hi => (h5 i hi).2.2))) rfl ?_
        · by_cases hik : (i : Int) = k
          · rw [hik, upd1_at]; omega
          · rw [upd1_ne hik]; exact ⟨(h5 i (by omega)).1, (h5 i (by omega)).2.1⟩
        generalize hN : valN (upd1 Z k c) (k + 1) = N
        have e3 : N = valN V k := by rw [← hN, valN_push, h6]
        (conv => cbv)
        refine hR _ ?_
        subst hq
        rw [← e3]
        exact .refl
      · rename_i g1
        rw [hq] at g1
        ((try simp (disch := omega) only [q0, nc, w64_id, wu64_id, wu32_id, wu8_id, Int.tdiv_eq_ediv_of_nonneg, Int.tmod_eq_emod_of_nonneg, Int.ofNat_eq_natCast, Int.natAbs_natCast, decide_eq_true_eq, decide_eq_false_iff_not, Bool.not_eq_true', Bool.not_eq_false', bne_iff_ne, bne_eq_false_iff_eq, beq_iff_eq, beq_eq_false_iff_ne, ne_eq] at g1); (try replace g1 := of_decide_eq_true g1); (try replace g1 := of_decide_eq_false g1))
        have hc : c = 0 := by omega
        subst hc
        refine call_fz hCN 0 rfl ?_
        refine call_fn hq hCN ((cut_c k Z (by omega) (fun i hi => ⟨(h5 i (by omega)).1, (h5 i (by omega)).2.1⟩)).row1 rfl (fun i hi => (h5 i (by omega)).2.2)) rfl ?_
        generalize hN : valN Z k = N
        have e3 : N = valN V k := by rw [← hN, ← h6]; simp
        (conv => cbv)
        refine hR _ ?_
        subst hq
        rw [← e3]
        exact .refl

theorem limbs_c (u : Nat) (hu : u < 18446744073709551616) : PureF Pg F.amortcostref1_limbs (fun q => [.one (.int .u64 (q Int fun _ => (u : Int)))]) (fun q => .one (natT q u)) := by
  refine walkF mixed tau_ok At.amortcostref1_limbs (fun CN DN q R hCN hDN hq hR => ?_)
  (conv => cbv)
  have hul : len u ≤ 3 := len_le (Nat.lt_of_lt_of_le hu (by decide))
  refine LoopN.mr [0, 3] [(3, Ty.«uint32», 1)] (fun σd σ => ∃ (k c : Int) (G : Int → List T), (0 ≤ k ∧ k ≤ len u ∧ σd = c.toNat ∧ c = ((u / Bs ^ k.toNat : Nat) : Int) ∧ (∀ i : Nat, (i : Int) < k → G i = [.int .u32 (limb u i)])) ∧
      σ = ⟨mkS [(0, .one (.t (.int .u64 c))), (3, .one (.row 0 k))] 0 15,
        [.sl Ty.«uint32» 1 k G]⟩) ⟨u, 0, (q Int fun _ => (u : Int)), fun _ => [], ⟨by omega, by omega, ?_, ?_, fun i hi => by omega⟩, ?_⟩ ?_
  · subst hq; simp only [q0]; omega
  · subst hq; simp only [q0]; rw [show (0 : Int).toNat = 0 from rfl, Nat.pow_zero, Nat.div_one]
  · cbv
  · rintro σd σ ⟨k, c, G, ⟨h1, h2, rfl, h3, h5⟩, rfl⟩ K hK
    (conv => cbv)
    obtain ⟨k, rfl⟩ := Int.eq_ofNat_of_zero_le h1
    rw [Int.toNat_natCast] at h3
    have hc64 : c < 18446744073709551616 := by
      have := Nat.div_le_self u (Bs ^ k)
      omega
    split
    · rename_i g0
      rw [hq] at g0
      ((try simp (disch := omega) only [q0, nc, w64_id, wu64_id, wu32_id, wu8_id, Int.tdiv_eq_ediv_of_nonneg, Int.tmod_eq_emod_of_nonneg, Int.ofNat_eq_natCast, Int.natAbs_natCast, decide_eq_true_eq, decide_eq_false_iff_not, Bool.not_eq_true', Bool.not_eq_false', bne_iff_ne, bne_eq_false_iff_eq, beq_iff_eq, beq_eq_false_iff_ne, ne_eq] at g0); (try replace g0 := of_decide_eq_true g0); (try replace g0 := of_decide_eq_false g0))
      have hkl : k < len u := by
        rcases Nat.lt_or_ge k (len u) with h | h
        · exact h
        · rw [Nat.div_eq_of_lt (len_le_iff.1 h)] at h3
          omega
      refine Need.mk (by omega) (Need.mk (by subst hq; show ((k : Int) + 1) * 4 ≤ 140737488355328; omega) (Need.mk (by omega) ?_))
      have e' : (q Int fun _ => (k : Int) + Int.ofNat 1) = k + 1 := by subst hq; rfl
      have e1 : (q Int fun _ => IntKind.u32.wrap (q Int fun _ => c.tmod 1000000000)) = limb u k := by
        rw [limb_cast, Int.natCast_emod, ← h3]
        subst hq
        (try simp (disch := omega) only [q0, nc, w64_id, wu64_id, wu32_id, wu8_id, Int.tdiv_eq_ediv_of_nonneg, Int.tmod_eq_emod_of_nonneg, Int.ofNat_eq_natCast, Int.natAbs_natCast, decide_eq_true_eq, decide_eq_false_iff_not, Bool.not_eq_true', bne_iff_ne, beq_iff_eq, ne_eq])
        rfl
      have e2 : (q Int fun _ => IntKind.u64.wrap (c.tdiv 1000000000)) = ((u / Bs ^ (k + 1) : Nat) : Int) := by
        rw [Nat.pow_succ, ← Nat.div_div_eq_div_mul, Int.natCast_ediv, ← h3]
        subst hq
        (try simp (disch := omega) only [q0, nc, w64_id, wu64_id, wu32_id, wu8_id, Int.tdiv_eq_ediv_of_nonneg, Int.tmod_eq_emod_of_nonneg, Int.ofNat_eq_natCast, Int.natAbs_natCast, decide_eq_true_eq, decide_eq_false_iff_not, Bool.not_eq_true', bne_iff_ne, beq_iff_eq, ne_eq])
        rfl
      rw [e', e1, e2]
      refine hK _ ⟨_, ?_, (k : Int) + 1, _, _, ⟨by omega, by omega, rfl, ?_, fun i hi => ?_⟩, rfl⟩
      · have hlt : u / Bs ^ (k + 1) < u / Bs ^ k := by
          rw [Nat.pow_succ, ← Nat.div_div_eq_div_mul]
          exact Nat.div_lt_self (Int.ofNat_lt.1 (by rw [← h3]; exact g0)) (by decide)
        rw [h3, Int.toNat_natCast, Int.toNat_natCast]
        exact hlt
      · rw [show ((k : Int) + 1).toNat = k + 1 by omega]
      · unfold appFn
        by_cases hik : (i : Int) < k
        · rw [if_pos hik, h5 i hik]
        · rw [if_neg hik]
          have : (i : Int) = k := by omega
          rw [this]
          simp
    · rename_i g0
      rw [hq] at g0
      ((try simp (disch := omega) only [q0, nc, w64_id, wu64_id, wu32_id, wu8_id, Int.tdiv_eq_ediv_of_nonneg, Int.tmod_eq_emod_of_nonneg, Int.ofNat_eq_natCast, Int.natAbs_natCast, decide_eq_true_eq, decide_eq_false_iff_not, Bool.not_eq_true', Bool.not_eq_false', bne_iff_ne, bne_eq_false_iff_eq, beq_iff_eq, beq_eq_false_iff_ne, ne_eq] at g0); (try replace g0 := of_decide_eq_true g0); (try replace g0 := of_decide_eq_false g0))
      have hc : u / Bs ^ k = 0 := Nat.le_zero.1 (Int.ofNat_le.1 (by rw [← h3]; exact Int.not_lt.1 g0))
      have hkl : len u ≤ k := len_le (by
        rcases Nat.lt_or_ge u (Bs ^ k) with h | h
        · exact h
        · have := Nat.div_pos h (Bp_pos k); omega)
      have hk : (k : Int) = len u := by omega
      refine hR _ (.one ?_)
      refine TE.ext hk (fun i hi => ?_)
      rw [h5 i hi]
      rfl

theorem natCmp_c (a b : Nat) (ha : len a ≤ 1000000000) (hb : len b ≤ 1000000000) : PureF Pg F.amortcostref1_natCmp (fun q => [.one (natT q a), .one (natT q b)]) (fun q => .one (.int .i64 (cmpI a b))) := by
  refine walkF mixed tau_ok At.amortcostref1_natCmp (fun CN DN q R hCN hDN hq hR => ?_)
  (conv => cbv)
  have fin : ∀ x : Int, x = cmpI a b → R (.one (.int .i64 x)) := fun x hx => hR _ (by rw [hx]; exact .refl)
  split
  · rename_i h
    rw [hq] at h
    ((try simp (disch := omega) only [q0, nc, w64_id, wu64_id, wu32_id, wu8_id, Int.tdiv_eq_ediv_of_nonneg, Int.tmod_eq_emod_of_nonneg, Int.ofNat_eq_natCast, Int.natAbs_natCast, decide_eq_true_eq, decide_eq_false_iff_not, Bool.not_eq_true', Bool.not_eq_false', bne_iff_ne, bne_eq_false_iff_eq, beq_iff_eq, beq_eq_false_iff_ne, ne_eq] at h); (try replace h := of_decide_eq_true h); (try replace h := of_decide_eq_false h))
    split
    · rename_i h'
      rw [hq] at h'
      ((try simp (disch := omega) only [q0, nc, w64_id, wu64_id, wu32_id, wu8_id, Int.tdiv_eq_ediv_of_nonneg, Int.tmod_eq_emod_of_nonneg, Int.ofNat_eq_natCast, Int.natAbs_natCast, decide_eq_true_eq, decide_eq_false_iff_not, Bool.not_eq_true', Bool.not_eq_false', bne_iff_ne, bne_eq_false_iff_eq, beq_iff_eq, beq_eq_false_iff_ne, ne_eq] at h'); (try replace h' := of_decide_eq_true h'); (try replace h' := of_decide_eq_false h'))
      refine fin _ ?_
      unfold cmpI
      rw [if_pos (lt_of_len (by omega))]
    · rename_i h'
      rw [hq] at h'
      ((try simp (disch := omega) only [q0, nc, w64_id, wu64_id, wu32_id, wu8_id, Int.tdiv_eq_ediv_of_nonneg, Int.tmod_eq_emod_of_nonneg, Int.ofNat_eq_natCast, Int.natAbs_natCast, decide_eq_true_eq, decide_eq_false_iff_not, Bool.not_eq_true', Bool.not_eq_false', bne_iff_ne, bne_eq_false_iff_eq, beq_iff_eq, beq_eq_false_iff_ne, ne_eq] at h'); (try replace h' := of_decide_eq_true h'); (try replace h' := of_decide_eq_false h'))
      have := lt_of_len (N := b) (M := a) (by omega)
      refine fin _ ?_
      unfold cmpI
      rw [if_neg (by omega), if_neg (by omega)]
  · rename_i h
    rw [hq] at h
    simp only [q0, nc, bne_eq_false_iff_eq] at h
    refine LoopN.mk [0, 1, 5] (fun d σ => ∃ k : Int, (-1 ≤ k ∧ k < len a ∧ d = (k + 1).toNat ∧ a / Bs ^ (k + 1).toNat = b / Bs ^ (k + 1).toNat) ∧
      σ = ⟨mkS [(0, .one (.t (natT q a))), (1, .one (.t (natT q b))), (5, .one (.t (.int .i64 k)))] 0 41, []⟩) ⟨len a, (q Int fun _ => IntKind.i64.wrap ((q Int fun _ => (len a : Int)) - 1)), ?_, ?_⟩ ?_
    · have e : (q Int fun _ => IntKind.i64.wrap ((q Int fun _ => (len a : Int)) - 1)) = (len a : Int) - 1 := by subst hq; (try simp (disch := omega) only [q0, nc, w64_id, wu64_id, wu32_id, wu8_id, Int.tdiv_eq_ediv_of_nonneg, Int.tmod_eq_emod_of_nonneg, Int.ofNat_eq_natCast, Int.natAbs_natCast, decide_eq_true_eq, decide_eq_false_iff_not, Bool.not_eq_true', bne_iff_ne, beq_iff_eq, ne_eq])
      rw [e]
      refine ⟨by omega, by omega, by omega, ?_⟩
      have h1 := lt_pow_len a
      have h2 := lt_pow_len b
      rw [show len b = len a by omega] at h2
      rw [show ((len a : Int) - 1 + 1).toNat = len a by omega, Nat.div_eq_of_lt h1, Nat.div_eq_of_lt h2]
    · cbv
    · rintro d σ ⟨k, ⟨h1, h2, rfl, h4⟩, rfl⟩ K hK
      (conv => cbv)
      split
      · rename_i g0
        rw [hq] at g0
        ((try simp (disch := omega) only [q0, nc, w64_id, wu64_id, wu32_id, wu8_id, Int.tdiv_eq_ediv_of_nonneg, Int.tmod_eq_emod_of_nonneg, Int.ofNat_eq_natCast, Int.natAbs_natCast, decide_eq_true_eq, decide_eq_false_iff_not, Bool.not_eq_true', Bool.not_eq_false', bne_iff_ne, bne_eq_false_iff_eq, beq_iff_eq, beq_eq_false_iff_ne, ne_eq] at g0); (try replace g0 := of_decide_eq_true g0); (try replace g0 := of_decide_eq_false g0))
        obtain ⟨k, rfl⟩ := Int.eq_ofNat_of_zero_le g0
        have e1 : ((k : Int) + 1).toNat = k + 1 := by omega
        rw [e1] at h4
        refine Need.mk (by (exact ⟨by kernel_rfl, by kernel_rfl⟩)) (Need.mk (by subst hq; (try simp (disch := omega) only [q0, nc, w64_id, wu64_id, wu32_id, wu8_id, Int.tdiv_eq_ediv_of_nonneg, Int.tmod_eq_emod_of_nonneg, Int.ofNat_eq_natCast, Int.natAbs_natCast, decide_eq_true_eq, decide_eq_false_iff_not, Bool.not_eq_true', bne_iff_ne, beq_iff_eq, ne_eq]); omega) (Need.mk (by subst hq; (try simp (disch := omega) only [q0, nc, w64_id, wu64_id, wu32_id, wu8_id, Int.tdiv_eq_ediv_of_nonneg, Int.tmod_eq_emod_of_nonneg, Int.ofNat_eq_natCast, Int.natAbs_natCast, decide_eq_true_eq, decide_eq_false_iff_not, Bool.not_eq_true', bne_iff_ne, beq_iff_eq, ne_eq]); omega) ?_))
        split
        · rename_i g1
          rw [hq] at g1
          ((try simp (disch := omega) only [q0, nc, w64_id, wu64_id, wu32_id, wu8_id, Int.tdiv_eq_ediv_of_nonneg, Int.tmod_eq_emod_of_nonneg, Int.ofNat_eq_natCast, Int.natAbs_natCast, decide_eq_true_eq, decide_eq_false_iff_not, Bool.not_eq_true', Bool.not_eq_false', bne_iff_ne, bne_eq_false_iff_eq, beq_iff_eq, beq_eq_false_iff_ne, ne_eq] at g1); (try replace g1 := of_decide_eq_true g1); (try replace g1 := of_decide_eq_false g1))
          have := lt_of_limb h4 g1
          exact fin _ (by unfold cmpI; rw [if_pos this])
        · rename_i g1
          rw [hq] at g1
          ((try simp (disch := omega) only [q0, nc, w64_id, wu64_id, wu32_id, wu8_id, Int.tdiv_eq_ediv_of_nonneg, Int.tmod_eq_emod_of_nonneg, Int.ofNat_eq_natCast, Int.natAbs_natCast, decide_eq_true_eq, decide_eq_false_iff_not, Bool.not_eq_true', Bool.not_eq_false', bne_iff_ne, bne_eq_false_iff_eq, beq_iff_eq, beq_eq_false_iff_ne, ne_eq] at g1); (try replace g1 := of_decide_eq_true g1); (try replace g1 := of_decide_eq_false g1))
          refine Need.mk (by (exact ⟨by kernel_rfl, by kernel_rfl⟩)) (Need.mk (by subst hq; (try simp (disch := omega) only [q0, nc, w64_id, wu64_id, wu32_id, wu8_id, Int.tdiv_eq_ediv_of_nonneg, Int.tmod_eq_emod_of_nonneg, Int.ofNat_eq_natCast, Int.natAbs_natCast, decide_eq_true_eq, decide_eq_false_iff_not, Bool.not_eq_true', bne_iff_ne, beq_iff_eq, ne_eq]); omega) (Need.mk (by subst hq; (try simp (disch := omega) only [q0, nc, w64_id, wu64_id, wu32_id, wu8_id, Int.tdiv_eq_ediv_of_nonneg, Int.tmod_eq_emod_of_nonneg, Int.ofNat_eq_natCast, Int.natAbs_natCast, decide_eq_true_eq, decide_eq_false_iff_not, Bool.not_eq_true', bne_iff_ne, beq_iff_eq, ne_eq]); omega) ?_))
          split
          · rename_i g2
            rw [hq] at g2
            ((try simp (disch := omega) only [q0, nc, w64_id, wu64_id, wu32_id, wu8_id, Int.tdiv_eq_ediv_of_nonneg, Int.tmod_eq_emod_of_nonneg, Int.ofNat_eq_natCast, Int.natAbs_natCast, decide_eq_true_eq, decide_eq_false_iff_not, Bool.not_eq_true', Bool.not_eq_false', bne_iff_ne, bne_eq_false_iff_eq, beq_iff_eq, beq_eq_false_iff_ne, ne_eq] at g2); (try replace g2 := of_decide_eq_true g2); (try replace g2 := of_decide_eq_false g2))
            have := lt_of_limb h4.symm g2
            exact fin _ (by unfold cmpI; rw [if_neg (by omega), if_neg (by omega)])
          · rename_i g2
            rw [hq] at g2
            ((try simp (disch := omega) only [q0, nc, w64_id, wu64_id, wu32_id, wu8_id, Int.tdiv_eq_ediv_of_nonneg, Int.tmod_eq_emod_of_nonneg, Int.ofNat_eq_natCast, Int.natAbs_natCast, decide_eq_true_eq, decide_eq_false_iff_not, Bool.not_eq_true', Bool.not_eq_false', bne_iff_ne, bne_eq_false_iff_eq, beq_iff_eq, beq_eq_false_iff_ne, ne_eq] at g2); (try replace g2 := of_decide_eq_true g2); (try replace g2 := of_decide_eq_false g2))
            have e2 : (q Int fun _ => IntKind.i64.wrap ((k : Int) - 1)) = (k : Int) - 1 := by subst hq; (try simp (disch := omega) only [q0, nc, w64_id, wu64_id, wu32_id, wu8_id, Int.tdiv_eq_ediv_of_nonneg, Int.tmod_eq_emod_of_nonneg, Int.ofNat_eq_natCast, Int.natAbs_natCast, decide_eq_true_eq, decide_eq_false_iff_not, Bool.not_eq_true', bne_iff_ne, beq_iff_eq, ne_eq])
            rw [e2]
            refine hK _ ⟨_, ?_, _, ⟨?_, ?_, rfl, ?_⟩, rfl⟩
            · omega
            · omega
            · omega
            · rw [show ((k : Int) - 1 + 1).toNat = k by omega]
              exact div_limb h4 (by omega)
      · rename_i g0
        rw [hq] at g0
        ((try simp (disch := omega) only [q0, nc, w64_id, wu64_id, wu32_id, wu8_id, Int.tdiv_eq_ediv_of_nonneg, Int.tmod_eq_emod_of_nonneg, Int.ofNat_eq_natCast, Int.natAbs_natCast, decide_eq_true_eq, decide_eq_false_iff_not, Bool.not_eq_true', Bool.not_eq_false', bne_iff_ne, bne_eq_false_iff_eq, beq_iff_eq, beq_eq_false_iff_ne, ne_eq] at g0); (try replace g0 := of_decide_eq_true g0); (try replace g0 := of_decide_eq_false g0))
        rw [show (k + 1).toNat = 0 by omega] at h4
        simp only [Nat.pow_zero, Nat.div_one] at h4
        exact fin _ (by unfold cmpI; rw [if_neg (by omega), if_pos h4])
end Sx

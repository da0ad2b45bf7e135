/- A part of the proof of PolyReadsSaid: texts SxRef2. -/
import Derived.Test.YtlnpmgmpakjhgaaGreatSxBO
set_option linter.all false
set_option maxRecDepth 100000
namespace Sx
open Go

theorem natSub_c (x y : Nat) (hxl : len x ≤ 100000000) (hyx : y ≤ x) : PureF Pg F.amortcostref1_natSub (fun q => [.one (natT q x), .one (natT q y)]) (fun q => .one (natT q (x - y))) := by
  have hyl : len y ≤ len x := len_mono hyx
  refine walkF mixed tau_ok At.amortcostref1_natSub (fun CN DN q R hCN hDN hq hR => ?_)
  (conv => cbv)
  refine Need.mk (by subst hq; show (0 : Int) ≤ (len x : Int) ∧ (len x : Int) ≤ (len x : Int) ∧ (len x : Int) * 4 ≤ 140737488355328; omega) ?_
  refine LoopN.mk [0, 1, 5, 6, 7] (fun d σ => ∃ (k c : Int) (Z : Int → Int), (0 ≤ k ∧ k ≤ len x ∧ d = ((len x : Int) - k).toNat ∧ 0 ≤ c ∧ c ≤ 1 ∧ (∀ i : Nat, (i : Int) < k → 0 ≤ Z i ∧ Z i < 1000000000) ∧ valN Z k.toNat + y % Bs ^ k.toNat = x % Bs ^ k.toNat + c.toNat * Bs ^ k.toNat) ∧
      σ = ⟨mkS [(0, .one (.t (natT q x))), (1, .one (.t (natT q y))), (5, .one (.row 0 (q Int fun _ => (len x : Int)))), (6, .one (.t (.int .u32 c))), (7, .one (.t (.int .i64 k)))] 0 56,
        [.sl Ty.«uint32» 1 (q Int fun _ => (len x : Int)) (fun i => [.int .u32 (Z i)])]⟩) ⟨len x, 0, 0, fun _ => 0, ⟨by omega, by omega, by omega, by omega, by omega, fun i hi => by omega, by simp [valN, Nat.mod_one]⟩, ?_⟩ ?_
  · cbv
  · rintro d σ ⟨k, c, Z, ⟨h1, h2, rfl, h3, h4, h5, h6⟩, rfl⟩ K hK
    (conv => cbv)
    obtain ⟨k, rfl⟩ := Int.eq_ofNat_of_zero_le h1
    have hlx := limb_lt x k
    have hly := limb_lt y k
    have hlx0 := limb_nonneg x k
    have hly0 := limb_nonneg y k
    have hyk : (len y : Int) ≤ k → limb y k = 0 := fun h => limb_high (by omega)
    have go : ∀ (c' v : Int), (0 ≤ v ∧ v < 1000000000 ∧ 0 ≤ c' ∧ c' ≤ 1 ∧ v + (c + limb y k) = limb x k + c' * 1000000000) → (k : Int) < len x →
        K ⟨mkS [(0, .one (.t (natT q x))), (1, .one (.t (natT q y))), (5, .one (.row 0 (q Int fun _ => (len x : Int)))), (6, .one (.t (.int .u32 c'))), (7, .one (.t (.int .i64 (q Int fun _ => IntKind.i64.wrap (k + 1)))))] 0 56,
          [.sl Ty.«uint32» 1 (q Int fun _ => (len x : Int)) (updFn (fun i => [.int .u32 (Z i)]) k [.int .u32 v])]⟩ := by
      intro c' v ⟨p1, p2, p3, p4, p5⟩ hk
      rw [updFn_row]
      have e : (q Int fun _ => IntKind.i64.wrap ((k : Int) + 1)) = k + 1 := by subst hq; (try simp (disch := omega) only [q0, nc, w64_id, wu64_id, wu32_id, wu8_id, Int.tdiv_eq_ediv_of_nonneg, Int.tmod_eq_emod_of_nonneg, Int.ofNat_eq_natCast, Int.natAbs_natCast, decide_eq_true_eq, decide_eq_false_iff_not, Bool.not_eq_true', bne_iff_ne, beq_iff_eq, ne_eq])
      rw [e]
      refine hK _ ⟨_, ?_, (k : Int) + 1, c', upd1 Z k v, ⟨by omega, by omega, rfl, p3, p4, fun i hi => ?_, ?_⟩, rfl⟩
      · omega
      · by_cases hik : (i : Int) = k
        · rw [hik, upd1_at]; exact ⟨p1, p2⟩
        · rw [upd1_ne hik]; exact h5 i (by omega)
      · exact sub_step h3 p3 p1 h6 p5
    split
    · rename_i g0
      rw [hq] at g0
      ((try simp (disch := omega) only [q0, nc, w64_id, wu64_id, wu32_id, wu8_id, Int.tdiv_eq_ediv_of_nonneg, Int.tmod_eq_emod_of_nonneg, Int.ofNat_eq_natCast, Int.natAbs_natCast, decide_eq_true_eq, decide_eq_false_iff_not, Bool.not_eq_true', Bool.not_eq_false', bne_iff_ne, bne_eq_false_iff_eq, beq_iff_eq, beq_eq_false_iff_ne, ne_eq] at g0); (try replace g0 := of_decide_eq_true g0); (try replace g0 := of_decide_eq_false g0))
      split
      · rename_i g1
        rw [hq] at g1
        ((try simp (disch := omega) only [q0, nc, w64_id, wu64_id, wu32_id, wu8_id, Int.tdiv_eq_ediv_of_nonneg, Int.tmod_eq_emod_of_nonneg, Int.ofNat_eq_natCast, Int.natAbs_natCast, decide_eq_true_eq, decide_eq_false_iff_not, Bool.not_eq_true', Bool.not_eq_false', bne_iff_ne, bne_eq_false_iff_eq, beq_iff_eq, beq_eq_false_iff_ne, ne_eq] at g1); (try replace g1 := of_decide_eq_true g1); (try replace g1 := of_decide_eq_false g1))
        refine Need.mk (by subst hq; (try simp (disch := omega) only [q0, nc, w64_id, wu64_id, wu32_id, wu8_id, Int.tdiv_eq_ediv_of_nonneg, Int.tmod_eq_emod_of_nonneg, Int.ofNat_eq_natCast, Int.natAbs_natCast, decide_eq_true_eq, decide_eq_false_iff_not, Bool.not_eq_true', bne_iff_ne, beq_iff_eq, ne_eq]); omega) (Need.mk (by subst hq; (try simp (disch := omega) only [q0, nc, w64_id, wu64_id, wu32_id, wu8_id, Int.tdiv_eq_ediv_of_nonneg, Int.tmod_eq_emod_of_nonneg, Int.ofNat_eq_natCast, Int.natAbs_natCast, decide_eq_true_eq, decide_eq_false_iff_not, Bool.not_eq_true', bne_iff_ne, beq_iff_eq, ne_eq]); omega) ?_)
        split
        · rename_i g2
          rw [hq] at g2
          ((try simp (disch := omega) only [q0, nc, w64_id, wu64_id, wu32_id, wu8_id, Int.tdiv_eq_ediv_of_nonneg, Int.tmod_eq_emod_of_nonneg, Int.ofNat_eq_natCast, Int.natAbs_natCast, decide_eq_true_eq, decide_eq_false_iff_not, Bool.not_eq_true', Bool.not_eq_false', bne_iff_ne, bne_eq_false_iff_eq, beq_iff_eq, beq_eq_false_iff_ne, ne_eq] at g2); (try replace g2 := of_decide_eq_true g2); (try replace g2 := of_decide_eq_false g2))
          refine Need.mk (by subst hq; (try simp (disch := omega) only [q0, nc, w64_id, wu64_id, wu32_id, wu8_id, Int.tdiv_eq_ediv_of_nonneg, Int.tmod_eq_emod_of_nonneg, Int.ofNat_eq_natCast, Int.natAbs_natCast, decide_eq_true_eq, decide_eq_false_iff_not, Bool.not_eq_true', bne_iff_ne, beq_iff_eq, ne_eq]); omega) (Need.mk (by subst hq; (try simp (disch := omega) only [q0, nc, w64_id, wu64_id, wu32_id, wu8_id, Int.tdiv_eq_ediv_of_nonneg, Int.tmod_eq_emod_of_nonneg, Int.ofNat_eq_natCast, Int.natAbs_natCast, decide_eq_true_eq, decide_eq_false_iff_not, Bool.not_eq_true', bne_iff_ne, beq_iff_eq, ne_eq]); omega) (go _ _ ⟨?_, ?_, ?_, ?_, ?_⟩ (by omega)))
          all_goals (subst hq; (try simp (disch := omega) only [q0, nc, w64_id, wu64_id, wu32_id, wu8_id, Int.tdiv_eq_ediv_of_nonneg, Int.tmod_eq_emod_of_nonneg, Int.ofNat_eq_natCast, Int.natAbs_natCast, decide_eq_true_eq, decide_eq_false_iff_not, Bool.not_eq_true', bne_iff_ne, beq_iff_eq, ne_eq]); omega)
        · rename_i g2
          rw [hq] at g2
          ((try simp (disch := omega) only [q0, nc, w64_id, wu64_id, wu32_id, wu8_id, Int.tdiv_eq_ediv_of_nonneg, Int.tmod_eq_emod_of_nonneg, Int.ofNat_eq_natCast, Int.natAbs_natCast, decide_eq_true_eq, decide_eq_false_iff_not, Bool.not_eq_true', Bool.not_eq_false', bne_iff_ne, bne_eq_false_iff_eq, beq_iff_eq, beq_eq_false_iff_ne, ne_eq] at g2); (try replace g2 := of_decide_eq_true g2); (try replace g2 := of_decide_eq_false g2))
          refine Need.mk (by subst hq; (try simp (disch := omega) only [q0, nc, w64_id, wu64_id, wu32_id, wu8_id, Int.tdiv_eq_ediv_of_nonneg, Int.tmod_eq_emod_of_nonneg, Int.ofNat_eq_natCast, Int.natAbs_natCast, decide_eq_true_eq, decide_eq_false_iff_not, Bool.not_eq_true', bne_iff_ne, beq_iff_eq, ne_eq]); omega) (Need.mk (by subst hq; (try simp (disch := omega) only [q0, nc, w64_id, wu64_id, wu32_id, wu8_id, Int.tdiv_eq_ediv_of_nonneg, Int.tmod_eq_emod_of_nonneg, Int.ofNat_eq_natCast, Int.natAbs_natCast, decide_eq_true_eq, decide_eq_false_iff_not, Bool.not_eq_true', bne_iff_ne, beq_iff_eq, ne_eq]); omega) (go _ _ ⟨?_, ?_, ?_, ?_, ?_⟩ (by omega)))
          all_goals (subst hq; (try simp (disch := omega) only [q0, nc, w64_id, wu64_id, wu32_id, wu8_id, Int.tdiv_eq_ediv_of_nonneg, Int.tmod_eq_emod_of_nonneg, Int.ofNat_eq_natCast, Int.natAbs_natCast, decide_eq_true_eq, decide_eq_false_iff_not, Bool.not_eq_true', bne_iff_ne, beq_iff_eq, ne_eq]); omega)
      · rename_i g1
        rw [hq] at g1
        ((try simp (disch := omega) only [q0, nc, w64_id, wu64_id, wu32_id, wu8_id, Int.tdiv_eq_ediv_of_nonneg, Int.tmod_eq_emod_of_nonneg, Int.ofNat_eq_natCast, Int.natAbs_natCast, decide_eq_true_eq, decide_eq_false_iff_not, Bool.not_eq_true', Bool.not_eq_false', bne_iff_ne, bne_eq_false_iff_eq, beq_iff_eq, beq_eq_false_iff_ne, ne_eq] at g1); (try replace g1 := of_decide_eq_true g1); (try replace g1 := of_decide_eq_false g1))
        have hz := hyk (by omega)
        refine Need.mk (by subst hq; (try simp (disch := omega) only [q0, nc, w64_id, wu64_id, wu32_id, wu8_id, Int.tdiv_eq_ediv_of_nonneg, Int.tmod_eq_emod_of_nonneg, Int.ofNat_eq_natCast, Int.natAbs_natCast, decide_eq_true_eq, decide_eq_false_iff_not, Bool.not_eq_true', bne_iff_ne, beq_iff_eq, ne_eq]); omega) ?_
        split
        · rename_i g2
          rw [hq] at g2
          ((try simp (disch := omega) only [q0, nc, w64_id, wu64_id, wu32_id, wu8_id, Int.tdiv_eq_ediv_of_nonneg, Int.tmod_eq_emod_of_nonneg, Int.ofNat_eq_natCast, Int.natAbs_natCast, decide_eq_true_eq, decide_eq_false_iff_not, Bool.not_eq_true', Bool.not_eq_false', bne_iff_ne, bne_eq_false_iff_eq, beq_iff_eq, beq_eq_false_iff_ne, ne_eq] at g2); (try replace g2 := of_decide_eq_true g2); (try replace g2 := of_decide_eq_false g2))
          refine Need.mk (by subst hq; (try simp (disch := omega) only [q0, nc, w64_id, wu64_id, wu32_id, wu8_id, Int.tdiv_eq_ediv_of_nonneg, Int.tmod_eq_emod_of_nonneg, Int.ofNat_eq_natCast, Int.natAbs_natCast, decide_eq_true_eq, decide_eq_false_iff_not, Bool.not_eq_true', bne_iff_ne, beq_iff_eq, ne_eq]); omega) (Need.mk (by subst hq; (try simp (disch := omega) only [q0, nc, w64_id, wu64_id, wu32_id, wu8_id, Int.tdiv_eq_ediv_of_nonneg, Int.tmod_eq_emod_of_nonneg, Int.ofNat_eq_natCast, Int.natAbs_natCast, decide_eq_true_eq, decide_eq_false_iff_not, Bool.not_eq_true', bne_iff_ne, beq_iff_eq, ne_eq]); omega) (go _ _ ⟨?_, ?_, ?_, ?_, ?_⟩ (by omega)))
          all_goals (subst hq; (try simp (disch := omega) only [q0, nc, w64_id, wu64_id, wu32_id, wu8_id, Int.tdiv_eq_ediv_of_nonneg, Int.tmod_eq_emod_of_nonneg, Int.ofNat_eq_natCast, Int.natAbs_natCast, decide_eq_true_eq, decide_eq_false_iff_not, Bool.not_eq_true', bne_iff_ne, beq_iff_eq, ne_eq]); omega)
        · rename_i g2
          rw [hq] at g2
          ((try simp (disch := omega) only [q0, nc, w64_id, wu64_id, wu32_id, wu8_id, Int.tdiv_eq_ediv_of_nonneg, Int.tmod_eq_emod_of_nonneg, Int.ofNat_eq_natCast, Int.natAbs_natCast, decide_eq_true_eq, decide_eq_false_iff_not, Bool.not_eq_true', Bool.not_eq_false', bne_iff_ne, bne_eq_false_iff_eq, beq_iff_eq, beq_eq_false_iff_ne, ne_eq] at g2); (try replace g2 := of_decide_eq_true g2); (try replace g2 := of_decide_eq_false g2))
          refine Need.mk (by subst hq; (try simp (disch := omega) only [q0, nc, w64_id, wu64_id, wu32_id, wu8_id, Int.tdiv_eq_ediv_of_nonneg, Int.tmod_eq_emod_of_nonneg, Int.ofNat_eq_natCast, Int.natAbs_natCast, decide_eq_true_eq, decide_eq_false_iff_not, Bool.not_eq_true', bne_iff_ne, beq_iff_eq, ne_eq]); omega) (Need.mk (by subst hq; (try simp (disch := omega) only [q0, nc, w64_id, wu64_id, wu32_id, wu8_id, Int.tdiv_eq_ediv_of_nonneg, Int.tmod_eq_emod_of_nonneg, Int.ofNat_eq_natCast, Int.natAbs_natCast, decide_eq_true_eq, decide_eq_false_iff_not, Bool.not_eq_true', bne_iff_ne, beq_iff_eq, ne_eq]); omega) (go _ _ ⟨?_, ?_, ?_, ?_, ?_⟩ (by omega)))
          all_goals (subst hq; (try simp (disch := omega) only [q0, nc, w64_id, wu64_id, wu32_id, wu8_id, Int.tdiv_eq_ediv_of_nonneg, Int.tmod_eq_emod_of_nonneg, Int.ofNat_eq_natCast, Int.natAbs_natCast, decide_eq_true_eq, decide_eq_false_iff_not, Bool.not_eq_true', bne_iff_ne, beq_iff_eq, ne_eq]); omega)
    · rename_i g0
      rw [hq] at g0
      ((try simp (disch := omega) only [q0, nc, w64_id, wu64_id, wu32_id, wu8_id, Int.tdiv_eq_ediv_of_nonneg, Int.tmod_eq_emod_of_nonneg, Int.ofNat_eq_natCast, Int.natAbs_natCast, decide_eq_true_eq, decide_eq_false_iff_not, Bool.not_eq_true', Bool.not_eq_false', bne_iff_ne, bne_eq_false_iff_eq, beq_iff_eq, beq_eq_false_iff_ne, ne_eq] at g0); (try replace g0 := of_decide_eq_true g0); (try replace g0 := of_decide_eq_false g0))
      refine call_fz hCN 0 rfl ?_
      refine call_fn hq hCN (cut_c (len x) Z (by omega) (fun i hi => h5 i (by omega))) rfl ?_
      generalize hN : valN Z (len x) = N
      have e3 : N = x - y := by
        rw [← hN]
        rw [show len x = k by omega] at hN ⊢
        exact sub_end (by omega) hyx h3 (fun i hi => h5 i (by omega)) (by simpa using h6)
      (conv => cbv)
      refine hR _ ?_
      subst hq
      rw [← e3]
      exact .refl

theorem len_max {x y : Nat} : max (len x) (len y) ≤ len (x + y) := Nat.max_le.2 ⟨len_mono (by omega), len_mono (by omega)⟩
theorem natAdd_c (x y : Nat) (hxl : len x ≤ 100000000) (hyl : len y ≤ 100000000) : PureF Pg F.amortcostref1_natAdd (fun q => [.one (natT q x), .one (natT q y)]) (fun q => .one (natT q (x + y))) := by
  refine walkF mixed tau_ok At.amortcostref1_natAdd (fun CN DN q R hCN hDN hq hR => ?_)
  (conv => cbv)
  have hmx := @len_max x y
  refine LoopN.mr [0, 1, 5, 6, 7] [(5, Ty.«uint32», 1)] (fun d σ => ∃ (k c : Int) (Z : Int → Int) (G : Int → List T), (0 ≤ k ∧ k ≤ max (len x) (len y) + 1 ∧ d = ((max (len x) (len y) : Int) + 1 - k).toNat ∧ 0 ≤ c ∧ c ≤ 1 ∧ (k = max (len x) (len y) + 1 → c = 0 ∧ k = len (x + y)) ∧ (∀ i : Nat, (i : Int) < k → 0 ≤ Z i ∧ Z i < 1000000000 ∧ G i = [.int .u32 (Z i)]) ∧ valN Z k.toNat + c.toNat * Bs ^ k.toNat = x % Bs ^ k.toNat + y % Bs ^ k.toNat) ∧
      σ = ⟨mkS [(0, .one (.t (natT q x))), (1, .one (.t (natT q y))), (5, .one (.row 0 k)), (6, .one (.t (.int .u32 c))), (7, .one (.t (.int .i64 k)))] 0 54,
        [.sl Ty.«uint32» 1 k G]⟩) ⟨max (len x) (len y) + 1, 0, 0, fun _ => 0, fun _ => [], ⟨by omega, by omega, by omega, by omega, by omega, fun h => by omega, fun i hi => by omega, by simp [valN, Nat.mod_one]⟩, ?_⟩ ?_
  · cbv
  · rintro d σ ⟨k, c, Z, G, ⟨h1, h2, rfl, h3, h4, h7, h5, h6⟩, rfl⟩ K hK
    (conv => cbv)
    obtain ⟨k, rfl⟩ := Int.eq_ofNat_of_zero_le h1
    have hlx := limb_lt x k
    have hly := limb_lt y k
    have hlx0 := limb_nonneg x k
    have hly0 := limb_nonneg y k
    have hxk : (len x : Int) ≤ k → limb x k = 0 := fun h => limb_high (by omega)
    have hyk : (len y : Int) ≤ k → limb y k = 0 := fun h => limb_high (by omega)
    have go : ∀ (c' v : Int), (0 ≤ v ∧ v < 1000000000 ∧ 0 ≤ c' ∧ c' ≤ 1 ∧ v + c' * 1000000000 = limb x k + c + limb y k) → ((k : Int) < len x ∨ (k : Int) < len y ∨ 0 < c) →
        K ⟨mkS [(0, .one (.t (natT q x))), (1, .one (.t (natT q y))), (5, .one (.row 0 (q Int fun _ => (k : Int) + 1))), (6, .one (.t (.int .u32 c'))), (7, .one (.t (.int .i64 (q Int fun _ => IntKind.i64.wrap (k + 1)))))] 0 54,
          [.sl Ty.«uint32» 1 (q Int fun _ => (k : Int) + 1) (appFn k G (fun i => [[T.int .u32 v]].getD i.toNat []))]⟩ := by
      intro c' v ⟨p1, p2, p3, p4, p5⟩ hk
      have e : (q Int fun _ => IntKind.i64.wrap ((k : Int) + 1)) = k + 1 := by subst hq; (try simp (disch := omega) only [q0, nc, w64_id, wu64_id, wu32_id, wu8_id, Int.tdiv_eq_ediv_of_nonneg, Int.tmod_eq_emod_of_nonneg, Int.ofNat_eq_natCast, Int.natAbs_natCast, decide_eq_true_eq, decide_eq_false_iff_not, Bool.not_eq_true', bne_iff_ne, beq_iff_eq, ne_eq])
      have e' : (q Int fun _ => (k : Int) + 1) = k + 1 := by subst hq; rfl
      rw [e, e']
      have hst := add_step h3 p3 p1 (by rw [Int.toNat_natCast] at h6; exact h6) p5
      refine hK _ ⟨_, ?_, (k : Int) + 1, c', upd1 Z k v, _, ⟨by omega, by omega, rfl, p3, p4, fun h => ?_, fun i hi => ⟨?_, ?_, app_row1 (fun i hi => (h5 i hi).2.2) i (by omega)⟩, by rw [show ((k : Int) + 1).toNat = k + 1 by omega]; exact hst⟩, rfl⟩
      · omega
      · have hkm : k = max (len x) (len y) := by omega
        have hc : c = 1 := by omega
        have h8 := hxk (by omega)
        have h9 := hyk (by omega)
        refine ⟨by omega, ?_⟩
        have h10 : valN Z k + 1 * Bs ^ k = x + y := by
          rw [Int.toNat_natCast, hc, mod_len x (by omega), mod_len y (by omega)] at h6
          exact h6
        have h11 : ¬ len (x + y) ≤ k := fun h => by have := len_le_iff.1 h; omega
        have h12 := len_add x y
        omega
      · by_cases hik : (i : Int) = k
        · rw [hik, upd1_at]; exact p1
        · rw [upd1_ne hik]; exact (h5 i (by omega)).1
      · by_cases hik : (i : Int) = k
        · rw [hik, upd1_at]; exact p2
        · rw [upd1_ne hik]; exact (h5 i (by omega)).2.1
    split
    · rename_i g1
      rw [hq] at g1
      ((try simp (disch := omega) only [q0, nc, w64_id, wu64_id, wu32_id, wu8_id, Int.tdiv_eq_ediv_of_nonneg, Int.tmod_eq_emod_of_nonneg, Int.ofNat_eq_natCast, Int.natAbs_natCast, decide_eq_true_eq, decide_eq_false_iff_not, Bool.not_eq_true', Bool.not_eq_false', bne_iff_ne, bne_eq_false_iff_eq, beq_iff_eq, beq_eq_false_iff_ne, ne_eq] at g1); (try replace g1 := of_decide_eq_true g1); (try replace g1 := of_decide_eq_false g1))
      dsimp only
      refine Need.mk (by subst hq; (try simp (disch := omega) only [q0, nc, w64_id, wu64_id, wu32_id, wu8_id, Int.tdiv_eq_ediv_of_nonneg, Int.tmod_eq_emod_of_nonneg, Int.ofNat_eq_natCast, Int.natAbs_natCast, decide_eq_true_eq, decide_eq_false_iff_not, Bool.not_eq_true', bne_iff_ne, beq_iff_eq, ne_eq]); omega) ?_
      split
      · rename_i b2
        rw [hq] at b2
        ((try simp (disch := omega) only [q0, nc, w64_id, wu64_id, wu32_id, wu8_id, Int.tdiv_eq_ediv_of_nonneg, Int.tmod_eq_emod_of_nonneg, Int.ofNat_eq_natCast, Int.natAbs_natCast, decide_eq_true_eq, decide_eq_false_iff_not, Bool.not_eq_true', Bool.not_eq_false', bne_iff_ne, bne_eq_false_iff_eq, beq_iff_eq, beq_eq_false_iff_ne, ne_eq] at b2); (try replace b2 := of_decide_eq_true b2); (try replace b2 := of_decide_eq_false b2))
        refine Need.mk (by subst hq; (try simp (disch := omega) only [q0, nc, w64_id, wu64_id, wu32_id, wu8_id, Int.tdiv_eq_ediv_of_nonneg, Int.tmod_eq_emod_of_nonneg, Int.ofNat_eq_natCast, Int.natAbs_natCast, decide_eq_true_eq, decide_eq_false_iff_not, Bool.not_eq_true', bne_iff_ne, beq_iff_eq, ne_eq]); omega) ?_
        refine Need.mk (by omega) (Need.mk (by omega) (Need.mk (by subst hq; show ((k : Int) + 1) * 4 ≤ 140737488355328; omega) (go _ _ ⟨?_, ?_, ?_, ?_, ?_⟩ (by omega))))
        all_goals (subst hq; (try simp (disch := omega) only [q0, nc, w64_id, wu64_id, wu32_id, wu8_id, Int.tdiv_eq_ediv_of_nonneg, Int.tmod_eq_emod_of_nonneg, Int.ofNat_eq_natCast, Int.natAbs_natCast, decide_eq_true_eq, decide_eq_false_iff_not, Bool.not_eq_true', bne_iff_ne, beq_iff_eq, ne_eq]); omega)
      · rename_i b2
        rw [hq] at b2
        ((try simp (disch := omega) only [q0, nc, w64_id, wu64_id, wu32_id, wu8_id, Int.tdiv_eq_ediv_of_nonneg, Int.tmod_eq_emod_of_nonneg, Int.ofNat_eq_natCast, Int.natAbs_natCast, decide_eq_true_eq, decide_eq_false_iff_not, Bool.not_eq_true', Bool.not_eq_false', bne_iff_ne, bne_eq_false_iff_eq, beq_iff_eq, beq_eq_false_iff_ne, ne_eq] at b2); (try replace b2 := of_decide_eq_true b2); (try replace b2 := of_decide_eq_false b2))
        have hy0 := hyk (by omega)
        refine Need.mk (by omega) (Need.mk (by omega) (Need.mk (by subst hq; show ((k : Int) + 1) * 4 ≤ 140737488355328; omega) (go _ _ ⟨?_, ?_, ?_, ?_, ?_⟩ (by omega))))
        all_goals (subst hq; (try simp (disch := omega) only [q0, nc, w64_id, wu64_id, wu32_id, wu8_id, Int.tdiv_eq_ediv_of_nonneg, Int.tmod_eq_emod_of_nonneg, Int.ofNat_eq_natCast, Int.natAbs_natCast, decide_eq_true_eq, decide_eq_false_iff_not, Bool.not_eq_true', bne_iff_ne, beq_iff_eq, ne_eq]); omega)
    · rename_i g1
      rw [hq] at g1
      ((try simp (disch := omega) only [q0, nc, w64_id, wu64_id, wu32_id, wu8_id, Int.tdiv_eq_ediv_of_nonneg, Int.tmod_eq_emod_of_nonneg, Int.ofNat_eq_natCast, Int.natAbs_natCast, decide_eq_true_eq, decide_eq_false_iff_not, Bool.not_eq_true', Bool.not_eq_false', bne_iff_ne, bne_eq_false_iff_eq, beq_iff_eq, beq_eq_false_iff_ne, ne_eq] at g1); (try replace g1 := of_decide_eq_true g1); (try replace g1 := of_decide_eq_false g1))
      split
      · rename_i g2
        rw [hq] at g2
        ((try simp (disch := omega) only [q0, nc, w64_id, wu64_id, wu32_id, wu8_id, Int.tdiv_eq_ediv_of_nonneg, Int.tmod_eq_emod_of_nonneg, Int.ofNat_eq_natCast, Int.natAbs_natCast, decide_eq_true_eq, decide_eq_false_iff_not, Bool.not_eq_true', Bool.not_eq_false', bne_iff_ne, bne_eq_false_iff_eq, beq_iff_eq, beq_eq_false_iff_ne, ne_eq] at g2); (try replace g2 := of_decide_eq_true g2); (try replace g2 := of_decide_eq_false g2))
        dsimp only
        have hx0 := hxk (by omega)
        refine Need.mk (by subst hq; (try simp (disch := omega) only [q0, nc, w64_id, wu64_id, wu32_id, wu8_id, Int.tdiv_eq_ediv_of_nonneg, Int.tmod_eq_emod_of_nonneg, Int.ofNat_eq_natCast, Int.natAbs_natCast, decide_eq_true_eq, decide_eq_false_iff_not, Bool.not_eq_true', bne_iff_ne, beq_iff_eq, ne_eq]); omega) ?_
        refine Need.mk (by omega) (Need.mk (by omega) (Need.mk (by subst hq; show ((k : Int) + 1) * 4 ≤ 140737488355328; omega) (go _ _ ⟨?_, ?_, ?_, ?_, ?_⟩ (by omega))))
        all_goals (subst hq; (try simp (disch := omega) only [q0, nc, w64_id, wu64_id, wu32_id, wu8_id, Int.tdiv_eq_ediv_of_nonneg, Int.tmod_eq_emod_of_nonneg, Int.ofNat_eq_natCast, Int.natAbs_natCast, decide_eq_true_eq, decide_eq_false_iff_not, Bool.not_eq_true', bne_iff_ne, beq_iff_eq, ne_eq]); omega)
      · rename_i g2
        rw [hq] at g2
        ((try simp (disch := omega) only [q0, nc, w64_id, wu64_id, wu32_id, wu8_id, Int.tdiv_eq_ediv_of_nonneg, Int.tmod_eq_emod_of_nonneg, Int.ofNat_eq_natCast, Int.natAbs_natCast, decide_eq_true_eq, decide_eq_false_iff_not, Bool.not_eq_true', Bool.not_eq_false', bne_iff_ne, bne_eq_false_iff_eq, beq_iff_eq, beq_eq_false_iff_ne, ne_eq] at g2); (try replace g2 := of_decide_eq_true g2); (try replace g2 := of_decide_eq_false g2))
        split
        · rename_i g3
          rw [hq] at g3
          ((try simp (disch := omega) only [q0, nc, w64_id, wu64_id, wu32_id, wu8_id, Int.tdiv_eq_ediv_of_nonneg, Int.tmod_eq_emod_of_nonneg, Int.ofNat_eq_natCast, Int.natAbs_natCast, decide_eq_true_eq, decide_eq_false_iff_not, Bool.not_eq_true', Bool.not_eq_false', bne_iff_ne, bne_eq_false_iff_eq, beq_iff_eq, beq_eq_false_iff_ne, ne_eq] at g3); (try replace g3 := of_decide_eq_true g3); (try replace g3 := of_decide_eq_false g3))
          dsimp only
          have hx0 := hxk (by omega)
          have hy0 := hyk (by omega)
          refine Need.mk (by omega) (Need.mk (by omega) (Need.mk (by subst hq; show ((k : Int) + 1) * 4 ≤ 140737488355328; omega) (go _ _ ⟨?_, ?_, ?_, ?_, ?_⟩ (by omega))))
          all_goals (subst hq; (try simp (disch := omega) only [q0, nc, w64_id, wu64_id, wu32_id, wu8_id, Int.tdiv_eq_ediv_of_nonneg, Int.tmod_eq_emod_of_nonneg, Int.ofNat_eq_natCast, Int.natAbs_natCast, decide_eq_true_eq, decide_eq_false_iff_not, Bool.not_eq_true', bne_iff_ne, beq_iff_eq, ne_eq]); omega)
        · rename_i g3
          rw [hq] at g3
          ((try simp (disch := omega) only [q0, nc, w64_id, wu64_id, wu32_id, wu8_id, Int.tdiv_eq_ediv_of_nonneg, Int.tmod_eq_emod_of_nonneg, Int.ofNat_eq_natCast, Int.natAbs_natCast, decide_eq_true_eq, decide_eq_false_iff_not, Bool.not_eq_true', Bool.not_eq_false', bne_iff_ne, bne_eq_false_iff_eq, beq_iff_eq, beq_eq_false_iff_ne, ne_eq] at g3); (try replace g3 := of_decide_eq_true g3); (try replace g3 := of_decide_eq_false g3))
          have hc : c = 0 := by omega
          subst hc
          have h8 : valN Z k = x + y := by
            rw [Int.toNat_natCast, mod_len x (by omega), mod_len y (by omega), Int.toNat_zero, Nat.zero_mul, Nat.add_zero] at h6
            exact h6
          have hZb : ∀ i : Nat, i < k → 0 ≤ Z i ∧ Z i < 1000000000 := fun i hi => ⟨(h5 i (by omega)).1, (h5 i (by omega)).2.1⟩
          have h9 : len (x + y) ≤ k := by rw [← h8]; exact len_le (valN_lt hZb)
          have h10 : (k : Int) = len (x + y) := by
            by_cases h : (k : Int) = max (len x) (len y) + 1
            · exact (h7 (by omega)).2
            · omega
          refine hR _ (.one (TE.ext h10 (fun i hi => ?_)))
          rw [(h5 i hi).2.2, ← h8]
          show [T.int .u32 (Z i)] = [T.int .u32 (limb (valN Z k) i)]
          rw [limb_valN hZb i (by omega)]
end Sx

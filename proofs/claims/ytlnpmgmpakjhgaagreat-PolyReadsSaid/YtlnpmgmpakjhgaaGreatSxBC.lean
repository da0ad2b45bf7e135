/- A part of the proof of PolyReadsSaid: texts SxRat10 SxRat11. -/
import Derived.Test.YtlnpmgmpakjhgaaGreatSxBA
import Derived.Test.YtlnpmgmpakjhgaaGreatSxBB
import Derived.Test.YtlnpmgmpakjhgaaGreatSxAX
set_option linter.all false
section
set_option maxRecDepth 100000
namespace Sx
open Go

theorem TE.nil0 {sz : Nat} {g : Int → List T} : TE (.sl sz 0 g) (natT q0 0) := by
  have e : natT q0 0 = .sl 1 0 (fun i => [.int .u32 (limb 0 i)]) := by
    unfold natT q0
    rw [len_zero]
    rfl
  rw [e]
  refine TE.sl ?_ ?_ ?_
  · intro h; exact absurd h (by decide)
  · intro i h; exact absurd h (by omega)
  · intro i j a b h; exact absurd h (by omega)
theorem div_c (x y : Nat) (hy : y ≠ 0) (hx : len x ≤ 100000000) (hyl : len y ≤ 100000000) : PureF Pg F.rational_div (fun q => [.one (natT q x), .one (natT q y)]) (fun q => .tup [.one (natT q (x / y)), .one (natT q (x % y))]) := by
  refine walkF mixed tau_ok At.rational_div (fun CN DN q R hCN hDN hq hR => ?_)
  (conv => cbv)
  refine call_fn hq hCN (cmp_c x y (by omega) (by omega)) rfl ?_
  generalize hc : cmpI x y = c
  (conv => cbv)
  split
  · rename_i g0
    rw [hq] at g0
    ((try simp (disch := omega) only [q0, nc, w64_id, wu64_id, wu32_id, wu8_id, Int.tdiv_eq_ediv_of_nonneg, Int.tmod_eq_emod_of_nonneg, Int.ofNat_eq_natCast, Int.natAbs_natCast, decide_eq_true_eq, decide_eq_false_iff_not, Bool.not_eq_true', Bool.not_eq_false', bne_iff_ne, bne_eq_false_iff_eq, beq_iff_eq, beq_eq_false_iff_ne, ne_eq] at g0); (try replace g0 := of_decide_eq_true g0); (try replace g0 := of_decide_eq_false g0))
    have hlt : x < y := by
      rw [← hc] at g0
      unfold cmpI at g0
      by_cases h : x < y
      · exact h
      · exfalso
        rw [if_neg h] at g0
        split at g0 <;> omega
    refine hR _ ?_
    rw [Nat.div_eq_of_lt hlt, Nat.mod_eq_of_lt hlt]
    refine .tup rfl (fun j a b ha hb => ?_)
    rcases j with _ | _ | j
    · simp at ha hb
      subst ha; subst hb
      exact .one TE.nil0
    · simp at ha hb
      subst ha; subst hb; subst hq
      exact .refl
    · simp at ha
  · rename_i g0
    rw [hq] at g0
    ((try simp (disch := omega) only [q0, nc, w64_id, wu64_id, wu32_id, wu8_id, Int.tdiv_eq_ediv_of_nonneg, Int.tmod_eq_emod_of_nonneg, Int.ofNat_eq_natCast, Int.natAbs_natCast, decide_eq_true_eq, decide_eq_false_iff_not, Bool.not_eq_true', Bool.not_eq_false', bne_iff_ne, bne_eq_false_iff_eq, beq_iff_eq, beq_eq_false_iff_ne, ne_eq] at g0); (try replace g0 := of_decide_eq_true g0); (try replace g0 := of_decide_eq_false g0))
    have hle : y ≤ x := by
      rw [← hc] at g0
      unfold cmpI at g0
      by_cases h : x < y
      · rw [if_pos h] at g0; omega
      · omega
    clear hc g0
    have hlp := len_pos hy
    have hlm := len_mono hle
    split
    · rename_i g1
      rw [hq] at g1
      ((try simp (disch := omega) only [q0, nc, w64_id, wu64_id, wu32_id, wu8_id, Int.tdiv_eq_ediv_of_nonneg, Int.tmod_eq_emod_of_nonneg, Int.ofNat_eq_natCast, Int.natAbs_natCast, decide_eq_true_eq, decide_eq_false_iff_not, Bool.not_eq_true', Bool.not_eq_false', bne_iff_ne, bne_eq_false_iff_eq, beq_iff_eq, beq_eq_false_iff_ne, ne_eq] at g1); (try replace g1 := of_decide_eq_true g1); (try replace g1 := of_decide_eq_false g1))
      have g1' : len y = 1 := by omega
      have hyB : y < 1000000000 := by
        have h := lt_pow_len y
        rw [g1', Nat.pow_one] at h
        exact h
      have e0 : (q Int fun _ => limb y 0) = q Int fun _ => (y : Int) := by
        subst hq
        show limb y ((0 : Nat) : Int) = (y : Int)
        rw [limb_cast, Nat.pow_zero, Nat.div_one, Nat.mod_eq_of_lt (show y < Bs from hyB)]
      rw [e0]
      refine Need.mk (by subst hq; (try simp (disch := omega) only [q0, nc, w64_id, wu64_id, wu32_id, wu8_id, Int.tdiv_eq_ediv_of_nonneg, Int.tmod_eq_emod_of_nonneg, Int.ofNat_eq_natCast, Int.natAbs_natCast, decide_eq_true_eq, decide_eq_false_iff_not, Bool.not_eq_true', bne_iff_ne, beq_iff_eq, ne_eq]); omega) ?_
      refine call_fn hq hCN (divSmall_c x y hx (Nat.pos_of_ne_zero hy) hyB) rfl ?_
      have hrB := Nat.mod_lt x (Nat.pos_of_ne_zero hy)
      generalize x / y = Qn at *
      generalize x % y = Rn at *
      (conv => cbv)
      refine call_fz hCN 0 rfl ?_
      refine call_fn hq hCN ((trim_c 1 (fun _ => (Rn : Int)) (by omega) (fun i hi => ?_)).row1 rfl (fun i hi => ?_)) rfl ?_
      · constructor <;> omega
      · have h0 : i = 0 := by omega
        subst h0
        subst hq
        rfl
      generalize hN : valN (fun _ => (Rn : Int)) 1 = N
      have e3 : N = Rn := by
        rw [← hN, valN, valN, Int.toNat_natCast, Nat.pow_zero, Nat.mul_one, Nat.zero_add]
      (conv => cbv)
      refine hR _ ?_
      rw [← e3]
      subst hq
      exact .refl
    · rename_i g1
      rw [hq] at g1
      have g1' : 2 ≤ len y := by
        simp only [q0, nc, beq_eq_false_iff_ne, ne_eq] at g1
        omega
      clear g1
      obtain ⟨yt, eyt⟩ := Int.eq_ofNat_of_zero_le (limb_nonneg y ((len y : Int) - 1))
      have hytB := limb_lt y ((len y : Int) - 1)
      have hyt0 := limb_top hy
      rw [eyt] at hytB hyt0
      obtain ⟨d, hd⟩ : ∃ d, d = 1000000000 / (yt + 1) := ⟨_, rfl⟩
      obtain ⟨hd0, hd1, hd2⟩ := scale_half (y := yt) (by omega) (by omega)
      rw [← hd] at hd0 hd1 hd2
      have hdB : d < 1000000000 := by
        have : d * 2 ≤ d * (yt + 1) := Nat.mul_le_mul_left _ (by omega)
        omega
      have ey : (q Int fun _ => IntKind.u64.wrap ((q Int fun _ => IntKind.u64.wrap (q Int fun _ => limb y (q Int fun _ => IntKind.i64.wrap ((q Int fun _ => (len y : Int)) - 1)))) + 1)) = (yt : Int) + 1 := by
        subst hq
        simp (disch := omega) only [q0, w64_id, eyt, Int.ofNat_eq_natCast, wu64_id]
      have es : (q Int fun _ => IntKind.u32.wrap (q Int fun _ => IntKind.u64.wrap (Int.tdiv 1000000000 ((yt : Int) + 1)))) = q Int fun _ => (d : Int) := by
        subst hq
        have e1 : (1000000000 : Int) / ((yt : Int) + 1) = (d : Int) := by rw [hd]; rfl
        simp (disch := omega) only [q0, Int.tdiv_eq_ediv_of_nonneg, e1, wu64_id, wu32_id]
      rw [ey, es]
      refine Need.mk (by subst hq; (try simp (disch := omega) only [q0, nc, w64_id, wu64_id, wu32_id, wu8_id, Int.tdiv_eq_ediv_of_nonneg, Int.tmod_eq_emod_of_nonneg, Int.ofNat_eq_natCast, Int.natAbs_natCast, decide_eq_true_eq, decide_eq_false_iff_not, Bool.not_eq_true', bne_iff_ne, beq_iff_eq, ne_eq]); omega) (Need.mk (by omega) ?_)
      refine call_fn hq hCN (mulSmall_c y d hyl hdB) rfl ?_
      obtain ⟨l1, hl1⟩ : ∃ l1, l1 = len y + 1 := ⟨_, rfl⟩
      obtain ⟨Y, hY⟩ : ∃ Y, Y = y * d := ⟨_, rfl⟩
      rw [← hl1, ← hY]
      (conv => cbv)
      refine Need.mk (by subst hq; (try simp (disch := omega) only [q0, nc, w64_id, wu64_id, wu32_id, wu8_id, Int.tdiv_eq_ediv_of_nonneg, Int.tmod_eq_emod_of_nonneg, Int.ofNat_eq_natCast, Int.natAbs_natCast, decide_eq_true_eq, decide_eq_false_iff_not, Bool.not_eq_true', bne_iff_ne, beq_iff_eq, ne_eq]); omega) ?_
      refine call_own hq hCN (mulSmall_o x d hx hdB) rfl ?_
      rintro v h ⟨Z, hZ, hZv, rfl, rfl⟩
      (conv => cbv)
      have hXY : x * d / Bs ^ (len x + 1 - len y) < Y := by rw [hY]; exact div_start hy hd0 hlm
      have hYlt : Y < Bs ^ len y := by rw [hY]; exact len_scaled hy hd0 (by rw [eyt, Int.toNat_natCast]; exact hd2)
      have hYtop : 500000000 ≤ limb Y ((len y : Int) - 1) := by rw [hY]; exact top_scaled hy (by rw [← hY]; exact hYlt) (by rw [eyt, Int.toNat_natCast]; exact hd1)
      have hYp : 0 < Y := by rw [hY]; exact Nat.mul_pos (Nat.pos_of_ne_zero hy) hd0
      have hquo : x * d / Y = x / y := by rw [hY]; exact Nat.mul_div_mul_right x y hd0
      have hmod : x * d % Y = x % y * d := by rw [hY]; exact Nat.mul_mod_mul_right d x y
      have hqfit := len_div (x := x) hy hlm
      obtain ⟨X, hX⟩ : ∃ X, X = x * d := ⟨_, rfl⟩
      rw [← hX] at hZv hXY hquo hmod
      obtain ⟨n, hn⟩ : ∃ n, n = len y := ⟨_, rfl⟩
      obtain ⟨m, hm⟩ : ∃ m, m = len x + 1 := ⟨_, rfl⟩
      obtain ⟨t0, ht0⟩ : ∃ t0, t0 = m - n := ⟨_, rfl⟩
      obtain ⟨nI, hnI⟩ : ∃ nI, nI = q Int fun _ => (len y : Int) := ⟨_, rfl⟩
      obtain ⟨mI, hmI⟩ : ∃ mI, mI = q Int fun _ => ((len x + 1 : Nat) : Int) := ⟨_, rfl⟩
      rw [← hnI, ← hmI]
      have hnI' : nI = (n : Int) := by rw [hnI, hn]; subst hq; rfl
      have hmI' : mI = (m : Int) := by rw [hmI, hm]; subst hq; rfl
      obtain ⟨tI, htI⟩ : ∃ tI, tI = q Int fun _ => IntKind.i64.wrap (mI - nI) := ⟨_, rfl⟩
      rw [← htI]
      have htI' : tI = (t0 : Int) := by rw [htI]; subst hq; (try simp (disch := omega) only [q0, nc, w64_id, wu64_id, wu32_id, wu8_id, Int.tdiv_eq_ediv_of_nonneg, Int.tmod_eq_emod_of_nonneg, Int.ofNat_eq_natCast, Int.natAbs_natCast, decide_eq_true_eq, decide_eq_false_iff_not, Bool.not_eq_true', bne_iff_ne, beq_iff_eq, ne_eq]); omega
      rw [← hm] at hZ hZv hXY hqfit
      rw [← hn] at hXY hYlt hYtop hqfit g1'
      rw [← ht0] at hXY hqfit
      have hm1 : m ≤ 100000001 := by omega
      have hmn : n + t0 = m := by omega
      refine Need.mk ⟨by omega, by omega, by show tI * 4 ≤ 140737488355328; omega⟩ ?_
      generalize hQ1 : seqK (awp CN DN q tau 0 _) _ = Q1
      refine LoopN.mk [8, 9, 10, 11, 12, 56, 62, 63] (fun σd σ => ∃ (k : Int) (U W : Int → Int), (0 ≤ k ∧ k ≤ t0 ∧ σd = ((t0 : Int) - k).toNat ∧ (∀ i : Nat, i < m → 0 ≤ U i ∧ U i < 1000000000) ∧ (∀ i : Nat, (i : Int) < t0 - k → U i = limb X i) ∧ valN (fun i => U ((((t0 : Int) - k).toNat : Int) + i)) n = X / Bs ^ ((t0 : Int) - k).toNat % Y ∧ (∀ i : Nat, (t0 : Int) - k ≤ i → i < t0 → W i = limb (x / y) i)) ∧
          σ = ⟨mkS [(8, .one (.t (.int .i64 nI))), (9, .one (.t (.int .u32 (q Int fun _ => (d : Int))))), (10, .one (.t (.sl 1 nI (fun i => [.int .u32 (limb Y i)])))), (11, .one (.row 0 mI)), (12, .one (.row 1 tI)), (56, .one (.row 0 mI)), (62, .one (.t (.int .i64 tI))), (63, .one (.t (.int .i64 k)))] 0 96,
            [.sl Ty.«uint32» 1 mI (fun i => [.int .u32 (U i)]), .sl Ty.«uint32» 1 tI (fun i => [.int .u32 (W i)])]⟩) ⟨t0, 0, Z, fun _ => 0, ⟨by omega, by omega, by omega, hZ, ?_, ?_, fun i h1 h2 => by omega⟩, ?_⟩ ?_
      · intro i hi
        rw [← hZv]
        exact (limb_valN hZ i (by omega)).symm
      · have e1 : ((t0 : Int) - 0).toNat = t0 := by omega
        rw [e1, Nat.mod_eq_of_lt hXY]
        have h1 := valN_split Z t0 n
        rw [Nat.add_comm t0 n, hmn, hZv] at h1
        have h2 : valN Z t0 < Bs ^ t0 := valN_lt (fun i hi => hZ i (by omega))
        rw [h1, Nat.mul_comm, Nat.add_mul_div_right _ _ (Bp_pos t0), Nat.div_eq_of_lt h2, Nat.zero_add]
      · cbv
      · rintro σd σ ⟨k, U, W, ⟨h1, h2, rfl, h3, h4, h5, h6⟩, rfl⟩ K hK
        (conv => cbv)
        split
        · rename_i g0
          rw [hq] at g0
          ((try simp (disch := omega) only [q0, nc, w64_id, wu64_id, wu32_id, wu8_id, Int.tdiv_eq_ediv_of_nonneg, Int.tmod_eq_emod_of_nonneg, Int.ofNat_eq_natCast, Int.natAbs_natCast, decide_eq_true_eq, decide_eq_false_iff_not, Bool.not_eq_true', Bool.not_eq_false', bne_iff_ne, bne_eq_false_iff_eq, beq_iff_eq, beq_eq_false_iff_ne, ne_eq] at g0); (try replace g0 := of_decide_eq_true g0); (try replace g0 := of_decide_eq_false g0))
          obtain ⟨j, hj⟩ : ∃ j : Nat, (t0 : Int) - 1 - k = j := ⟨((t0 : Int) - 1 - k).toNat, by omega⟩
          obtain ⟨jI, hjI⟩ : ∃ jI : Int, jI = j := ⟨_, rfl⟩
          have ej : (q Int fun _ => IntKind.i64.wrap ((q Int fun _ => IntKind.i64.wrap (tI - 1)) - k)) = jI := by subst hq; (try simp (disch := omega) only [q0, nc, w64_id, wu64_id, wu32_id, wu8_id, Int.tdiv_eq_ediv_of_nonneg, Int.tmod_eq_emod_of_nonneg, Int.ofNat_eq_natCast, Int.natAbs_natCast, decide_eq_true_eq, decide_eq_false_iff_not, Bool.not_eq_true', bne_iff_ne, beq_iff_eq, ne_eq]); omega
          have ejn : (q Int fun _ => IntKind.i64.wrap ((q Int fun _ => IntKind.i64.wrap (jI + nI)) + 1)) = jI + nI + 1 := by subst hq; (try simp (disch := omega) only [q0, nc, w64_id, wu64_id, wu32_id, wu8_id, Int.tdiv_eq_ediv_of_nonneg, Int.tmod_eq_emod_of_nonneg, Int.ofNat_eq_natCast, Int.natAbs_natCast, decide_eq_true_eq, decide_eq_false_iff_not, Bool.not_eq_true', bne_iff_ne, beq_iff_eq, ne_eq])
          have ekn : (q Int fun _ => jI + nI + 1 - jI) = (n : Int) + 1 := by subst hq; simp only [q0]; omega
          have et : ((t0 : Int) - k).toNat = j + 1 := by omega
          rw [et] at h5
          rw [ej, ejn, ekn]
          refine Need.mk ⟨by omega, by omega, by omega⟩ ?_
          have hw := div_window (U := U) (h4 j (by omega)) h5
          have hYv : valN (limb Y) n = Y := by rw [valN_limb, Nat.mod_eq_of_lt hYlt]
          refine step_call (j := j) (n := n) (m := m) (U := U) (V := limb Y) hq hCN hjI rfl hnI' hmI' (by omega) g1' (by omega) h3 (fun i _ => ⟨limb_nonneg _ _, limb_lt _ _⟩) hYtop (by rw [hw, hYv]; exact div_window_lt hYp) (fun U' a1 a2 a3 => ?_)
          obtain ⟨d1, d2⟩ := div_digit X j hYp
          rw [hw, hYv] at a3 ⊢
          rw [d2] at a3
          rw [d1, hquo]
          have hdg : ((x / y / Bs ^ j % Bs : Nat) : Int) = limb (x / y) j := (limb_cast _ _).symm
          rw [hdg]
          obtain ⟨dg, hdg2⟩ : ∃ dg, dg = limb (x / y) j := ⟨_, rfl⟩
          rw [← hdg2]
          (conv => cbv)
          rw [updFn_row]
          refine Need.mk ⟨by omega, by omega⟩ ?_
          have ek : (q Int fun _ => IntKind.i64.wrap (k + 1)) = k + 1 := by subst hq; (try simp (disch := omega) only [q0, nc, w64_id, wu64_id, wu32_id, wu8_id, Int.tdiv_eq_ediv_of_nonneg, Int.tmod_eq_emod_of_nonneg, Int.ofNat_eq_natCast, Int.natAbs_natCast, decide_eq_true_eq, decide_eq_false_iff_not, Bool.not_eq_true', bne_iff_ne, beq_iff_eq, ne_eq])
          rw [ek]
          refine hK _ ⟨_, ?_, k + 1, U', upd1 W jI dg, ⟨by omega, by omega, rfl, a1, fun i hi => ?_, ?_, fun i h7 h8 => ?_⟩, rfl⟩
          · omega
          · rw [a2 i (.inl (by omega))]; exact h4 i (by omega)
          · rw [show ((t0 : Int) - (k + 1)).toNat = j by omega]
            rw [valN_fit, a3]
            rw [a3]
            exact Nat.lt_trans (Nat.mod_lt _ hYp) hYlt
          · by_cases hi : (i : Int) = jI
            · have hij : i = j := by omega
              rw [hi, upd1_at, hdg2, hjI]
            · rw [upd1_ne hi]; exact h6 i (by omega) h8
        · rename_i g0
          rw [hq] at g0
          ((try simp (disch := omega) only [q0, nc, w64_id, wu64_id, wu32_id, wu8_id, Int.tdiv_eq_ediv_of_nonneg, Int.tmod_eq_emod_of_nonneg, Int.ofNat_eq_natCast, Int.natAbs_natCast, decide_eq_true_eq, decide_eq_false_iff_not, Bool.not_eq_true', Bool.not_eq_false', bne_iff_ne, bne_eq_false_iff_eq, beq_iff_eq, beq_eq_false_iff_ne, ne_eq] at g0); (try replace g0 := of_decide_eq_true g0); (try replace g0 := of_decide_eq_false g0))
          have hk : k = t0 := by omega
          have e0 : ((t0 : Int) - k).toNat = 0 := by omega
          rw [e0, Nat.pow_zero, Nat.div_one, hmod] at h5
          have h5' : valN U n = x % y * d := by
            rw [← h5]
            refine valN_congr (fun i _ => ?_)
            show U i = U (((0 : Nat) : Int) + i)
            congr 1
            omega
          rw [← hQ1]
          clear hQ1
          (conv => cbv)
          refine Need.mk (by omega) ?_
          refine call_fz hCN 0 rfl ?_
          refine call_fn hq hCN ((trim_c n U (by omega) (fun i hi => h3 i (by omega))).row1 hnI' (fun i _ => rfl)) rfl ?_
          generalize valN U n = M at *
          (conv => cbv)
          have hML : len M ≤ 100000000 := by
            rw [h5', ← hmod]
            have := len_le (Nat.lt_trans (Nat.mod_lt X hYp) hYlt)
            omega
          refine call_fn hq hCN (divSmall_c M d hML hd0 hdB) rfl ?_
          have hMd : M / d = x % y := by rw [h5', Nat.mul_div_cancel _ hd0]
          rw [hMd]
          generalize M % d = Md
          obtain ⟨Rn, hRn⟩ : ∃ Rn, Rn = x % y := ⟨_, rfl⟩
          rw [← hRn]
          (conv => cbv)
          refine call_fz hCN 1 rfl ?_
          have hW : ∀ i : Nat, i < t0 → W i = limb (x / y) i := fun i hi => h6 i (by omega) hi
          refine call_fn hq hCN ((trim_c t0 W (by omega) (fun i hi => ?_)).row1 htI' (fun i _ => rfl)) rfl ?_
          · rw [hW i hi]; exact ⟨limb_nonneg _ _, limb_lt _ _⟩
          generalize hN : valN W t0 = N
          have e3 : N = x / y := by
            rw [← hN, valN_congr hW, valN_limb, Nat.mod_eq_of_lt hqfit]
          (conv => cbv)
          refine hR _ ?_
          rw [← e3, ← hRn]
          subst hq
          exact .refl
end Sx
end

section
set_option maxRecDepth 100000
namespace Sx
open Go

theorem gcd_c (x y : Nat) (hx : len x ≤ 100000000) (hy : len y ≤ 100000000) : PureF Pg F.rational_gcd (fun q => [.one (natT q x), .one (natT q y)]) (fun q => .one (natT q (Nat.gcd x y))) := by
  refine walkF mixed tau_ok At.rational_gcd (fun CN DN q R hCN hDN hq hR => ?_)
  (conv => cbv)
  refine LoopN.mk [0, 1] (fun d σ => ∃ a b : Nat, (d = b ∧ Nat.gcd a b = Nat.gcd x y ∧ len a ≤ 100000000 ∧ len b ≤ 100000000) ∧
    σ = ⟨mkS [(0, .one (.t (natT q a))), (1, .one (.t (natT q b)))] 0 19, []⟩) ⟨y, x, y, ⟨rfl, rfl, hx, hy⟩, ?_⟩ ?_
  · cbv
  · rintro d σ ⟨a, b, ⟨rfl, h1, h2, h3⟩, rfl⟩ K hK
    (conv => cbv)
    split
    · rename_i g0
      rw [hq] at g0
      ((try simp (disch := omega) only [q0, nc, w64_id, wu64_id, wu32_id, wu8_id, Int.tdiv_eq_ediv_of_nonneg, Int.tmod_eq_emod_of_nonneg, Int.ofNat_eq_natCast, Int.natAbs_natCast, decide_eq_true_eq, decide_eq_false_iff_not, Bool.not_eq_true', Bool.not_eq_false', bne_iff_ne, bne_eq_false_iff_eq, beq_iff_eq, beq_eq_false_iff_ne, ne_eq] at g0); (try replace g0 := of_decide_eq_true g0); (try replace g0 := of_decide_eq_false g0))
      have hb : d ≠ 0 := fun h => by rw [h, len_zero] at g0; omega
      refine call_fn hq hCN (div_c a d hb h2 h3) rfl ?_
      have hlt := Nat.mod_lt a (Nat.pos_of_ne_zero hb)
      have hg : Nat.gcd d (a % d) = Nat.gcd x y := by rw [← h1, Nat.gcd_comm, ← Nat.gcd_rec, Nat.gcd_comm]
      have hl := len_mono (Nat.le_of_lt hlt)
      generalize a / d = Q at *
      generalize a % d = Rn at *
      (conv => cbv)
      exact hK _ ⟨Rn, hlt, d, Rn, ⟨rfl, hg, h3, by omega⟩, rfl⟩
    · rename_i g0
      rw [hq] at g0
      ((try simp (disch := omega) only [q0, nc, w64_id, wu64_id, wu32_id, wu8_id, Int.tdiv_eq_ediv_of_nonneg, Int.tmod_eq_emod_of_nonneg, Int.ofNat_eq_natCast, Int.natAbs_natCast, decide_eq_true_eq, decide_eq_false_iff_not, Bool.not_eq_true', Bool.not_eq_false', bne_iff_ne, bne_eq_false_iff_eq, beq_iff_eq, beq_eq_false_iff_ne, ne_eq] at g0); (try replace g0 := of_decide_eq_true g0); (try replace g0 := of_decide_eq_false g0))
      have hb : d = 0 := len_eq_zero.1 (by omega)
      subst hb
      rw [Nat.gcd_zero_right] at h1
      refine hR _ ?_
      rw [← h1]
      subst hq
      exact .refl
theorem TE.ext {sz : Nat} {n n' : Int} {g g' : Int → List T} (hn : n = n') (h : ∀ i : Nat, (i : Int) < n → g i = g' i) : TE (.sl sz n g) (.sl sz n' g') := by
  subst hn
  refine .sl (fun _ => rfl) (fun i hi => by rw [h i hi]) (fun i j a b hi ha hb => ?_)
  rw [h i hi, hb] at ha
  cases ha
  exact .refl
theorem TE.one1 : TE (.sl 1 (Int.ofNat 1) (fun i => [[T.int .u32 1]].getD i.toNat [])) (natT q0 1) := by
  have e1 : len 1 = 1 := by
    rw [len_succ (by decide), show 1 / Bs = 0 from by decide, len_zero]
  refine TE.ext ?_ (fun i hi => ?_)
  · show (1 : Int) = (len 1 : Int)
    rw [e1]
    rfl
  · have h0 : i = 0 := by
      have : (i : Int) < 1 := hi
      omega
    subst h0
    rfl
theorem VE.agg3 {a b c a' b' c' : T} (h1 : TE a a') (h2 : TE b b') (h3 : TE c c') : VE (.agg [a, b, c]) (.agg [a', b', c']) := by
  refine .agg rfl (fun j x y hx hy => ?_)
  rcases j with _ | _ | _ | j
  · simp at hx hy; subst hx; subst hy; exact h1
  · simp at hx hy; subst hx; subst hy; exact h2
  · simp at hx hy; subst hx; subst hy; exact h3
  · simp at hx
theorem clone32_c (x : Nat) (hx : len x ≤ 100000000) : PureF Pg F.slices_Clone_uint32_uint32 (fun q => [.one (natT q x)]) (fun q => .one (natT q x)) := by
  refine walkF mixed tau_ok At.slices_Clone_uint32_uint32 (fun CN DN q R hCN hDN hq hR => ?_)
  (conv => cbv)
  refine .mk (fun b hb => ?_)
  cases b
  · (conv => cbv)
    refine Need.mk ?_ (hR _ (.one (TE.ext ?_ (fun i hi => ?_))))
    · show ((0 : Int) + q Int fun _ => (len x : Int)) * 4 ≤ 140737488355328
      subst hq; simp only [q0]; omega
    · show (q Int fun _ => (0 : Int) + q Int fun _ => (len x : Int)) = (len x : Int)
      subst hq; simp only [q0]; omega
    · subst hq
      show (if (i : Int) < 0 then _ else [T.int .u32 (limb x ((i : Int) - 0))]) = [T.int .u32 (limb x i)]
      rw [if_neg (by omega), Int.sub_zero]
  · (conv => cbv)
    have h0 : x = 0 := by
      refine len_eq_zero.1 ?_
      subst hq
      simp only [q0] at hb
      by_cases h : (len x : Int) = 0
      · omega
      · exact absurd (hb h) (by decide)
    subst h0
    exact hR _ (.one TE.nil0)
theorem ratL_zero : ratL q0 0 = [.bool false, natT q0 0, natT q0 1] := rfl
theorem made_nil : PureF Pg F.rational_made (fun q => [.one (.bool false), .one (.sl 0 0 (fun _ => [])), .one (.sl 0 0 (fun _ => []))]) (fun q => .agg (ratL q 0)) := by
  refine walkF mixed tau_ok At.rational_made (fun CN DN q R hCN hDN hq hR => ?_)
  (conv => cbv)
  split
  · refine hR _ ?_
    rw [ratL_zero]
    exact VE.agg3 .refl TE.nil0 TE.one1
  · rename_i g0
    subst hq
    exact absurd g0 (by decide)
theorem made_c (neg : Bool) (n d : Nat) (hd : d ≠ 0) (hn : len n ≤ 100000000) (hdl : len d ≤ 100000000) : PureF Pg F.rational_made (fun q => [.one (.bool neg), .one (natT q n), .one (natT q d)]) (fun q => .agg (ratL q (mkRat (sg neg n) d))) := by
  refine walkF mixed tau_ok At.rational_made (fun CN DN q R hCN hDN hq hR => ?_)
  (conv => cbv)
  split
  · rename_i g0
    rw [hq] at g0
    ((try simp (disch := omega) only [q0, nc, w64_id, wu64_id, wu32_id, wu8_id, Int.tdiv_eq_ediv_of_nonneg, Int.tmod_eq_emod_of_nonneg, Int.ofNat_eq_natCast, Int.natAbs_natCast, decide_eq_true_eq, decide_eq_false_iff_not, Bool.not_eq_true', Bool.not_eq_false', bne_iff_ne, bne_eq_false_iff_eq, beq_iff_eq, beq_eq_false_iff_ne, ne_eq] at g0); (try replace g0 := of_decide_eq_true g0); (try replace g0 := of_decide_eq_false g0))
    have h0 : n = 0 := len_eq_zero.1 (by omega)
    subst h0
    refine hR _ ?_
    rw [mk_zero, ratL_zero]
    exact VE.agg3 .refl TE.nil0 TE.one1
  · rename_i g0
    rw [hq] at g0
    ((try simp (disch := omega) only [q0, nc, w64_id, wu64_id, wu32_id, wu8_id, Int.tdiv_eq_ediv_of_nonneg, Int.tmod_eq_emod_of_nonneg, Int.ofNat_eq_natCast, Int.natAbs_natCast, decide_eq_true_eq, decide_eq_false_iff_not, Bool.not_eq_true', Bool.not_eq_false', bne_iff_ne, bne_eq_false_iff_eq, beq_iff_eq, beq_eq_false_iff_ne, ne_eq] at g0); (try replace g0 := of_decide_eq_true g0); (try replace g0 := of_decide_eq_false g0))
    have hn0 : n ≠ 0 := fun h => by rw [h, len_zero] at g0; exact g0 rfl
    refine call_fn hq hCN (gcd_c n d hn hdl) rfl ?_
    have hgp : 0 < Nat.gcd n d := Nat.gcd_pos_of_pos_left _ (Nat.pos_of_ne_zero hn0)
    have hgl : len (Nat.gcd n d) ≤ 100000000 := Nat.le_trans (len_mono (Nat.gcd_le_left d (Nat.pos_of_ne_zero hn0))) hn
    have e1 := mk_neg neg hn0 hd
    have e2 := mk_abs neg n hd
    have e3 := mk_den neg n hd
    generalize mkRat (sg neg n) d = M at *
    generalize Nat.gcd n d = g at *
    have fin : ∀ (b : Bool) (x y : Nat), b = neg → x = n / g → y = d / g → R (.agg [.bool b, natT q x, natT q y]) := by
      intro b x y h1 h2 h3
      refine hR _ ?_
      subst hq
      show VE _ (.agg [.bool (decide (M.num < 0)), natT q0 M.num.natAbs, natT q0 M.den])
      rw [e1, e2, e3, h1, h2, h3]
      exact .refl
    obtain ⟨nq, hnq⟩ : ∃ k, k = n / g := ⟨_, rfl⟩
    obtain ⟨dq, hdq⟩ : ∃ k, k = d / g := ⟨_, rfl⟩
    have hnl : len nq ≤ 100000000 := by rw [hnq]; exact Nat.le_trans (len_mono (Nat.div_le_self _ _)) hn
    have hdl2 : len dq ≤ 100000000 := by rw [hdq]; exact Nat.le_trans (len_mono (Nat.div_le_self _ _)) hdl
    (conv => cbv)
    split
    · rename_i g1
      refine call_fn hq hCN (div_c n g (by omega) hn hgl) rfl ?_
      generalize n % g = rn
      rw [← hnq]
      (conv => cbv)
      refine call_fn hq hCN (div_c d g (by omega) hdl hgl) rfl ?_
      generalize d % g = rd
      rw [← hdq]
      (conv => cbv)
      refine call_fn hq hCN (clone32_c nq hnl) rfl ?_
      (conv => cbv)
      refine call_fn hq hCN (clone32_c dq hdl2) rfl ?_
      (conv => cbv)
      exact fin _ _ _ rfl hnq hdq
    · rename_i g1
      rw [hq] at g1
      ((try simp (disch := omega) only [q0, nc, w64_id, wu64_id, wu32_id, wu8_id, Int.tdiv_eq_ediv_of_nonneg, Int.tmod_eq_emod_of_nonneg, Int.ofNat_eq_natCast, Int.natAbs_natCast, decide_eq_true_eq, decide_eq_false_iff_not, Bool.not_eq_true', Bool.not_eq_false', bne_iff_ne, bne_eq_false_iff_eq, beq_iff_eq, beq_eq_false_iff_ne, ne_eq] at g1); (try replace g1 := of_decide_eq_true g1); (try replace g1 := of_decide_eq_false g1))
      have hgp2 := len_pos (Nat.pos_iff_ne_zero.1 hgp)
      refine Need.mk (by subst hq; (try simp (disch := omega) only [q0, nc, w64_id, wu64_id, wu32_id, wu8_id, Int.tdiv_eq_ediv_of_nonneg, Int.tmod_eq_emod_of_nonneg, Int.ofNat_eq_natCast, Int.natAbs_natCast, decide_eq_true_eq, decide_eq_false_iff_not, Bool.not_eq_true', bne_iff_ne, beq_iff_eq, ne_eq]); omega) ?_
      have hgB : g < 1000000000 := by
        have h := lt_pow_len g
        rw [show len g = 1 by omega, Nat.pow_one] at h
        exact h
      have e0 : (q Int fun _ => limb g 0) = q Int fun _ => (g : Int) := by
        subst hq
        show limb g ((0 : Nat) : Int) = (g : Int)
        rw [limb_cast, Nat.pow_zero, Nat.div_one, Nat.mod_eq_of_lt (show g < Bs from hgB)]
      rw [e0]
      split
      · rename_i g2
        refine call_fn hq hCN (div_c n g (by omega) hn hgl) rfl ?_
        generalize n % g = rn
        rw [← hnq]
        (conv => cbv)
        refine call_fn hq hCN (div_c d g (by omega) hdl hgl) rfl ?_
        generalize d % g = rd
        rw [← hdq]
        (conv => cbv)
        refine call_fn hq hCN (clone32_c nq hnl) rfl ?_
        (conv => cbv)
        refine call_fn hq hCN (clone32_c dq hdl2) rfl ?_
        (conv => cbv)
        exact fin _ _ _ rfl hnq hdq
      · rename_i g2
        rw [hq] at g2
        ((try simp (disch := omega) only [q0, nc, w64_id, wu64_id, wu32_id, wu8_id, Int.tdiv_eq_ediv_of_nonneg, Int.tmod_eq_emod_of_nonneg, Int.ofNat_eq_natCast, Int.natAbs_natCast, decide_eq_true_eq, decide_eq_false_iff_not, Bool.not_eq_true', Bool.not_eq_false', bne_iff_ne, bne_eq_false_iff_eq, beq_iff_eq, beq_eq_false_iff_ne, ne_eq] at g2); (try replace g2 := of_decide_eq_true g2); (try replace g2 := of_decide_eq_false g2))
        have hg1 : g = 1 := by omega
        rw [hg1, Nat.div_one] at hnq hdq
        refine call_fn hq hCN (clone32_c n hn) rfl ?_
        (conv => cbv)
        refine call_fn hq hCN (clone32_c d hdl) rfl ?_
        (conv => cbv)
        exact fin _ _ _ rfl (by rw [hg1, Nat.div_one]) (by rw [hg1, Nat.div_one])
end Sx
end

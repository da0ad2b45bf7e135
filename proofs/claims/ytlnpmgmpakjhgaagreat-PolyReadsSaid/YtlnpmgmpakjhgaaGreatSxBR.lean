/- A part of the proof of PolyReadsSaid: texts SxRef5. -/
import Derived.Test.YtlnpmgmpakjhgaaGreatSxBQ
import Derived.Test.YtlnpmgmpakjhgaaGreatSxBK
set_option linter.all false
set_option maxRecDepth 100000
namespace Sx
open Go

theorem limbs_i (c : Int) (h0 : 0 ≤ c) (h1 : c < 18446744073709551616) : PureF Pg F.amortcostref1_limbs (fun _ => [.one (.int .u64 c)]) (fun q => .one (natT q c.toNat)) := by
  obtain ⟨u, rfl⟩ := Int.eq_ofNat_of_zero_le h0
  exact limbs_c u (by omega)
theorem cut_nat (x : Nat) (hx : len x ≤ 1000000000) : PureF Pg F.amortcostref1_cut (fun q => [.one (natT q x)]) (fun q => .one (natT q x)) := by
  have h := cut_c (len x) (limb x) hx (fun i _ => ⟨limb_nonneg _ _, limb_lt _ _⟩)
  rw [valN_len x (Nat.le_refl _)] at h
  exact h
def pushV (a : Int) (V : Int → Int) : Int → Int := fun i => if i = 0 then a else V (i - 1)
theorem valN_pushV (a : Int) (V : Int → Int) (n : Nat) : valN (pushV a V) (n + 1) = a.toNat + Bs * valN V n := by
  rw [valN_low]
  have e : (fun i : Int => pushV a V (i + 1)) = fun i => if i + 1 = 0 then a else V i := by
    funext i
    unfold pushV
    split
    · rfl
    · congr 1; omega
  have e2 : valN (fun i => if i + 1 = 0 then a else V i) n = valN V n := valN_congr (fun i hi => by rw [if_neg (by omega)])
  rw [e, e2]
  rfl
theorem natDiv_c (x y : Nat) (hy : y ≠ 0) (hx : len x ≤ 10000000) (hyl : len y ≤ 10000000) : PureF Pg F.amortcostref1_natDiv (fun q => [.one (natT q x), .one (natT q y)]) (fun q => .tup [.one (natT q (x / y)), .one (natT q (x % y))]) := by
  refine walkF mixed tau_ok At.amortcostref1_natDiv (fun CN DN q R hCN hDN hq hR => ?_)
  (conv => cbv)
  refine call_fn hq hCN (natCmp_c x y (by omega) (by omega)) rfl ?_
  generalize hc : cmpI x y = c
  (conv => cbv)
  split
  · rename_i g0
    rw [hq] at g0
    ((try simp (disch := omega) only [q0, nc, w64_id, wu64_id, wu32_id, wu8_id, Int.tdiv_eq_ediv_of_nonneg, Int.tmod_eq_emod_of_nonneg, Int.ofNat_eq_natCast, Int.natAbs_natCast, decide_eq_true_eq, decide_eq_false_iff_not, Bool.not_eq_true', Bool.not_eq_false', bne_iff_ne, bne_eq_false_iff_eq, beq_iff_eq, beq_eq_false_iff_ne, ne_eq] at g0); (try replace g0 := of_decide_eq_true g0); (try replace g0 := of_decide_eq_false g0))
    have hlt : x < y := by
      rw [← hc] at g0
      unfold cmpI at g0
      by_cases h : x < y
      · exact h
      · exfalso
        rw [if_neg h] at g0
        split at g0 <;> omega
    refine call_fn hq hCN (cut_nat x (by omega)) rfl ?_
    (conv => cbv)
    refine hR _ ?_
    rw [Nat.div_eq_of_lt hlt, Nat.mod_eq_of_lt hlt]
    refine .tup rfl (fun j a b ha hb => ?_)
    rcases j with _ | _ | j
    · simp at ha hb
      subst ha; subst hb
      exact .one TE.nil0
    · simp at ha hb
      subst ha; subst hb; subst hq
      exact .refl
    · simp at ha
  · rename_i g0
    rw [hq] at g0
    ((try simp (disch := omega) only [q0, nc, w64_id, wu64_id, wu32_id, wu8_id, Int.tdiv_eq_ediv_of_nonneg, Int.tmod_eq_emod_of_nonneg, Int.ofNat_eq_natCast, Int.natAbs_natCast, decide_eq_true_eq, decide_eq_false_iff_not, Bool.not_eq_true', Bool.not_eq_false', bne_iff_ne, bne_eq_false_iff_eq, beq_iff_eq, beq_eq_false_iff_ne, ne_eq] at g0); (try replace g0 := of_decide_eq_true g0); (try replace g0 := of_decide_eq_false g0))
    have hle : y ≤ x := by
      rw [← hc] at g0
      unfold cmpI at g0
      by_cases h : x < y
      · rw [if_pos h] at g0; omega
      · omega
    clear hc g0
    have hlp := len_pos hy
    have hlm := len_mono hle
    have hyp := Nat.pos_of_ne_zero hy
    split
    · rename_i g1
      rw [hq] at g1
      ((try simp (disch := omega) only [q0, nc, w64_id, wu64_id, wu32_id, wu8_id, Int.tdiv_eq_ediv_of_nonneg, Int.tmod_eq_emod_of_nonneg, Int.ofNat_eq_natCast, Int.natAbs_natCast, decide_eq_true_eq, decide_eq_false_iff_not, Bool.not_eq_true', Bool.not_eq_false', bne_iff_ne, bne_eq_false_iff_eq, beq_iff_eq, beq_eq_false_iff_ne, ne_eq] at g1); (try replace g1 := of_decide_eq_true g1); (try replace g1 := of_decide_eq_false g1))
      have g1' : len y = 1 := by omega
      have hyB : y < 1000000000 := by
        have h := lt_pow_len y
        rw [g1', Nat.pow_one] at h
        exact h
      have e0 : (q Int fun _ => IntKind.u64.wrap (q Int fun _ => limb y 0)) = q Int fun _ => (y : Int) := by
        subst hq
        show IntKind.u64.wrap (limb y ((0 : Nat) : Int)) = (y : Int)
        rw [limb_cast, Nat.pow_zero, Nat.div_one, Nat.mod_eq_of_lt (show y < Bs from hyB), wu64_id (by omega)]
      rw [e0]
      refine Need.mk (by subst hq; (try simp (disch := omega) only [q0, nc, w64_id, wu64_id, wu32_id, wu8_id, Int.tdiv_eq_ediv_of_nonneg, Int.tmod_eq_emod_of_nonneg, Int.ofNat_eq_natCast, Int.natAbs_natCast, decide_eq_true_eq, decide_eq_false_iff_not, Bool.not_eq_true', bne_iff_ne, beq_iff_eq, ne_eq]); omega) ?_
      refine call_fn hq hCN (natSmall_c x y (by omega) hyp hyB) rfl ?_
      have hrB := Nat.mod_lt x hyp
      generalize x / y = Qn at *
      generalize x % y = Rn at *
      (conv => cbv)
      refine call_fn hq hCN (limbs_c Rn (by omega)) rfl ?_
      (conv => cbv)
      refine hR _ ?_
      subst hq
      exact .refl
    · rename_i g1
      rw [hq] at g1
      ((try simp (disch := omega) only [q0, nc, w64_id, wu64_id, wu32_id, wu8_id, Int.tdiv_eq_ediv_of_nonneg, Int.tmod_eq_emod_of_nonneg, Int.ofNat_eq_natCast, Int.natAbs_natCast, decide_eq_true_eq, decide_eq_false_iff_not, Bool.not_eq_true', Bool.not_eq_false', bne_iff_ne, bne_eq_false_iff_eq, beq_iff_eq, beq_eq_false_iff_ne, ne_eq] at g1); (try replace g1 := of_decide_eq_true g1); (try replace g1 := of_decide_eq_false g1))
      have g1' : 2 ≤ len y := by omega
      clear g1
      refine Need.mk (by subst hq; show (0 : Int) ≤ (len x : Int) ∧ (len x : Int) ≤ (len x : Int) ∧ (len x : Int) * 4 ≤ 140737488355328; omega) ?_
      obtain ⟨k0, hk0⟩ : ∃ k0 : Int, k0 = (len x : Int) - 1 := ⟨_, rfl⟩
      have e1 : (q Int fun _ => IntKind.i64.wrap ((q Int fun _ => (len x : Int)) - 1)) = k0 := by subst hq; (try simp (disch := omega) only [q0, nc, w64_id, wu64_id, wu32_id, wu8_id, Int.tdiv_eq_ediv_of_nonneg, Int.tmod_eq_emod_of_nonneg, Int.ofNat_eq_natCast, Int.natAbs_natCast, decide_eq_true_eq, decide_eq_false_iff_not, Bool.not_eq_true', bne_iff_ne, beq_iff_eq, ne_eq]); omega
      rw [e1]
      generalize hQ1 : seqK (awp CN DN q tau 0 _) _ = Q1
      refine LoopN.mr [0, 1, 8, 9, 10] [(9, frz, 1)] (fun σd σ => ∃ (k rn : Int) (rg : Int → List T) (Z : Int → Int), (-1 ≤ k ∧ k < len x ∧ σd = (k + 1).toNat ∧ rn = len (x / Bs ^ (k + 1).toNat % y) ∧ (∀ i : Nat, (i : Int) < rn → rg i = [.int .u32 (limb (x / Bs ^ (k + 1).toNat % y) i)]) ∧ (∀ i : Nat, k < i → i < len x → Z i = limb (x / y) i)) ∧
          σ = ⟨mkS [(0, .one (.t (natT q x))), (1, .one (.t (natT q y))), (8, .one (.row 0 (q Int fun _ => (len x : Int)))), (9, .one (.t (.sl 1 rn rg))), (10, .one (.t (.int .i64 k)))] 0 90,
            [.sl Ty.«uint32» 1 (q Int fun _ => (len x : Int)) (fun i => [.int .u32 (Z i)])]⟩) ⟨len x, k0, 0, fun _ => [], fun _ => 0, ⟨by omega, by omega, by omega, ?_, fun i hi => by omega, fun i hi hi' => by omega⟩, ?_⟩ ?_
      · rw [show (k0 + 1).toNat = len x by omega, Nat.div_eq_of_lt (lt_pow_len x), Nat.zero_mod, len_zero]
        rfl
      · cbv
      · rintro σd σ ⟨k, rn, rg, Z, ⟨h1, h2, rfl, h3, h4, h5⟩, rfl⟩ K hK
        (conv => cbv)
        split
        · rename_i g0
          rw [hq] at g0
          ((try simp (disch := omega) only [q0, nc, w64_id, wu64_id, wu32_id, wu8_id, Int.tdiv_eq_ediv_of_nonneg, Int.tmod_eq_emod_of_nonneg, Int.ofNat_eq_natCast, Int.natAbs_natCast, decide_eq_true_eq, decide_eq_false_iff_not, Bool.not_eq_true', Bool.not_eq_false', bne_iff_ne, bne_eq_false_iff_eq, beq_iff_eq, beq_eq_false_iff_ne, ne_eq] at g0); (try replace g0 := of_decide_eq_true g0); (try replace g0 := of_decide_eq_false g0))
          obtain ⟨i, rfl⟩ := Int.eq_ofNat_of_zero_le g0
          obtain ⟨Rr, hRr⟩ : ∃ Rr, Rr = x / Bs ^ ((i : Int) + 1).toNat % y := ⟨_, rfl⟩
          rw [← hRr] at h3 h4
          rw [show ((i : Int) + 1).toNat = i + 1 by omega] at hRr
          have hRy : Rr < y := by rw [hRr]; exact Nat.mod_lt _ hyp
          have hRl := len_mono (Nat.le_of_lt hRy)
          obtain ⟨a, ha⟩ : ∃ a : Int, a = q Int fun _ => limb x (i : Int) := ⟨_, rfl⟩
          have ha' : a = limb x (i : Int) := by rw [ha]; subst hq; rfl
          have hal := limb_lt x (i : Int)
          have hal0 := limb_nonneg x (i : Int)
          rw [← ha]
          refine Need.mk (by subst hq; (try simp (disch := omega) only [q0, nc, w64_id, wu64_id, wu32_id, wu8_id, Int.tdiv_eq_ediv_of_nonneg, Int.tmod_eq_emod_of_nonneg, Int.ofNat_eq_natCast, Int.natAbs_natCast, decide_eq_true_eq, decide_eq_false_iff_not, Bool.not_eq_true', bne_iff_ne, beq_iff_eq, ne_eq]); omega) (Need.mk (by show ((1 : Int) + rn) * 4 ≤ 140737488355328; omega) ?_)
          refine call_fz hCN 2 rfl ?_
          refine call_fn hq hCN ((cut_c (len Rr + 1) (pushV a (limb Rr)) (by omega) (fun j hj => ?_)).row1 (by subst hq; show (1 : Int) + rn = ((len Rr + 1 : Nat) : Int); omega) (fun j hj => ?_)) rfl ?_
          · unfold pushV
            split
            · omega
            · exact ⟨limb_nonneg _ _, limb_lt _ _⟩
          · show (if (j : Int) < 1 then [[T.int .u32 a]].getD (j : Int).toNat [] else rg ((j : Int) - 1)) = [.int .u32 (if (j : Int) = 0 then a else limb Rr ((j : Int) - 1))]
            by_cases hj0 : j = 0
            · subst hj0
              rfl
            · rw [if_neg (by omega), if_neg (by omega)]
              have e : (j : Int) - 1 = ((j - 1 : Nat) : Int) := by omega
              rw [e, h4 (j - 1) (by omega)]
          generalize hN : valN (pushV a (limb Rr)) (len Rr + 1) = N
          have hN' : N = Rr * Bs + x / Bs ^ i % Bs := by
            rw [← hN, valN_pushV, valN_len Rr (Nat.le_refl _), ha', limb_toNat, Nat.mul_comm]
            omega
          have hNy : N < y * Bs := by rw [hN', hRr]; exact div_window_lt hyp
          have hNl : len N ≤ len y + 1 := len_le (by
            rw [Nat.pow_succ]
            exact Nat.lt_of_lt_of_le hNy (Nat.mul_le_mul_right _ (Nat.le_of_lt (lt_pow_len y))))
          clear hN
          (conv => cbv)
          refine call_rel hq hCN (ts := fun q => [.one (natT q N), .one (natT q y)]) (guess_c N y g1' (by omega) hNl) rfl ?_
          rintro r ⟨d0, hd0, rfl⟩
          obtain ⟨dI, hdI⟩ : ∃ dI : Int, dI = d0 := ⟨_, rfl⟩
          rw [← hdI]
          (conv => cbv)
          generalize hQ2 : blockK 2 (seqK _ _) = Q2
          have hyd : ∀ d : Nat, d < 1000000000 → len (y * d) ≤ 20000000 := fun d hd => by
            have h1 := len_mul y d
            have h2 : len d ≤ 1 := len_le (by rw [Nat.pow_one]; exact hd)
            omega
          have hdig := div_digit x i hyp
          rw [← hRr, ← hN'] at hdig
          have hdl : N / y < 1000000000 := by
            rw [Nat.div_lt_iff_lt_mul hyp, Nat.mul_comm]
            exact hNy
          have hrest2 : ∀ d : Int, 0 ≤ d → d < 1000000000 → y * d.toNat ≤ N → Q2 (.exit 2) ⟨mkS [(0, .one (.t (natT q x))), (1, .one (.t (natT q y))), (8, .one (.row 0 (q Int fun _ => (len x : Int)))), (9, .one (.t (natT q N))), (10, .one (.t (.int .i64 i))), (11, .one (.t (.int .u64 d)))] 0 90, [.sl Ty.«uint32» 1 (q Int fun _ => (len x : Int)) (fun i => [.int .u32 (Z i)])]⟩ := by
            intro d hd1 hd2 hd3
            rw [← hQ2]
            clear hQ2
            (conv => cbv)
            refine call_fn hq hCN (limbs_i d hd1 (by omega)) rfl ?_
            obtain ⟨dN, hdN⟩ : ∃ dN, dN = d.toNat := ⟨_, rfl⟩
            rw [← hdN] at hd3 ⊢
            (conv => cbv)
            refine call_fn hq hCN (natMul_c y dN (by omega) (by have h2 : len dN ≤ 1 := len_le (by rw [Nat.pow_one]; show dN < 1000000000; omega); omega)) rfl ?_
            obtain ⟨yd, hyd2⟩ : ∃ yd, yd = y * dN := ⟨_, rfl⟩
            rw [← hyd2] at hd3 ⊢
            (conv => cbv)
            refine call_fn hq hCN (natSub_c N yd (by omega) hd3) rfl ?_
            obtain ⟨r1, hr1⟩ : ∃ r1, r1 = N - yd := ⟨_, rfl⟩
            rw [← hr1]
            (conv => cbv)
            generalize hQ3 : blockK 4 (seqK _ _) = Q3
            have hrest3 : ∀ (d : Int) (r : Nat), 0 ≤ d → r + y * d.toNat = N → r < y → Q3 (.exit 4) ⟨mkS [(0, .one (.t (natT q x))), (1, .one (.t (natT q y))), (8, .one (.row 0 (q Int fun _ => (len x : Int)))), (9, .one (.t (natT q r))), (10, .one (.t (.int .i64 i))), (11, .one (.t (.int .u64 d)))] 0 90, [.sl Ty.«uint32» 1 (q Int fun _ => (len x : Int)) (fun i => [.int .u32 (Z i)])]⟩ := by
              intro d r hd1 hd2 hd3
              rw [← hQ3]
              clear hQ3
              have e1 : N / y = d.toNat := by
                rw [← hd2, Nat.add_mul_div_left _ _ hyp, Nat.div_eq_of_lt hd3, Nat.zero_add]
              have e2 : N % y = r := by
                rw [← hd2, Nat.add_mul_mod_self_left, Nat.mod_eq_of_lt hd3]
              (conv => cbv)
              have ed : (q Int fun _ => IntKind.u32.wrap d) = limb (x / y) i := by
                rw [limb_cast, ← hdig.1, e1]
                rw [e1] at hdl
                subst hq
                show IntKind.u32.wrap d = _
                rw [wu32_id (by omega)]
                omega
              have ei : (q Int fun _ => IntKind.i64.wrap ((i : Int) - 1)) = (i : Int) - 1 := by subst hq; (try simp (disch := omega) only [q0, nc, w64_id, wu64_id, wu32_id, wu8_id, Int.tdiv_eq_ediv_of_nonneg, Int.tmod_eq_emod_of_nonneg, Int.ofNat_eq_natCast, Int.natAbs_natCast, decide_eq_true_eq, decide_eq_false_iff_not, Bool.not_eq_true', bne_iff_ne, beq_iff_eq, ne_eq])
              rw [updFn_row]
              simp only [nc, Int.ofNat_eq_natCast]
              rw [ed, ei]
              refine Need.mk (by subst hq; (try simp (disch := omega) only [q0, nc, w64_id, wu64_id, wu32_id, wu8_id, Int.tdiv_eq_ediv_of_nonneg, Int.tmod_eq_emod_of_nonneg, Int.ofNat_eq_natCast, Int.natAbs_natCast, decide_eq_true_eq, decide_eq_false_iff_not, Bool.not_eq_true', bne_iff_ne, beq_iff_eq, ne_eq]); omega) ?_
              refine hK _ ⟨_, ?_, (i : Int) - 1, _, _, upd1 Z i (limb (x / y) i), ⟨by omega, by omega, rfl, ?_, fun j hj => ?_, fun j hj hj' => ?_⟩, rfl⟩
              · omega
              · rw [show ((i : Int) - 1 + 1).toNat = i by omega, ← hdig.2, e2]
                subst hq
                rfl
              · rw [show ((i : Int) - 1 + 1).toNat = i by omega, ← hdig.2, e2]
                subst hq
                rfl
              · by_cases hji : (j : Int) = i
                · rw [hji, upd1_at]
                · rw [upd1_ne hji]; exact h5 j (by omega) hj'
            clear hQ3
            refine LoopN.mk [0, 1, 8, 9, 10, 11] (fun σd σ => ∃ (d : Int) (r : Nat), (0 ≤ d ∧ σd = r ∧ r + y * d.toNat = N) ∧ σ = ⟨mkS [(0, .one (.t (natT q x))), (1, .one (.t (natT q y))), (8, .one (.row 0 (q Int fun _ => (len x : Int)))), (9, .one (.t (natT q r))), (10, .one (.t (.int .i64 i))), (11, .one (.t (.int .u64 d)))] 0 90, [.sl Ty.«uint32» 1 (q Int fun _ => (len x : Int)) (fun i => [.int .u32 (Z i)])]⟩) ⟨r1, d, r1, ⟨hd1, rfl, by rw [← hdN, ← hyd2]; omega⟩, ?_⟩ ?_
            · cbv
            · rintro σd σ ⟨d, r, ⟨hd1, rfl, hd2⟩, rfl⟩ K' hK'
              (conv => cbv)
              have hrl : len σd ≤ len y + 1 := Nat.le_trans (len_mono (by omega)) hNl
              refine call_fn hq hCN (natCmp_c σd y (by omega) (by omega)) rfl ?_
              obtain ⟨c, hc⟩ : ∃ c, c = cmpI σd y := ⟨_, rfl⟩
              rw [← hc]
              (conv => cbv)
              split
              · rename_i g0
                rw [hq] at g0
                ((try simp (disch := omega) only [q0, nc, w64_id, wu64_id, wu32_id, wu8_id, Int.tdiv_eq_ediv_of_nonneg, Int.tmod_eq_emod_of_nonneg, Int.ofNat_eq_natCast, Int.natAbs_natCast, decide_eq_true_eq, decide_eq_false_iff_not, Bool.not_eq_true', Bool.not_eq_false', bne_iff_ne, bne_eq_false_iff_eq, beq_iff_eq, beq_eq_false_iff_ne, ne_eq] at g0); (try replace g0 := of_decide_eq_true g0); (try replace g0 := of_decide_eq_false g0))
                have hle : y ≤ σd := by
                  unfold cmpI at hc
                  by_cases h : σd < y
                  · rw [if_pos h] at hc; omega
                  · omega
                refine call_fn hq hCN (natSub_c σd y (by omega) hle) rfl ?_
                obtain ⟨r2, hr2⟩ : ∃ r2, r2 = σd - y := ⟨_, rfl⟩
                rw [← hr2]
                (conv => cbv)
                have hd4 : y * (d.toNat + 1) ≤ N := by rw [Nat.mul_add, Nat.mul_one]; omega
                have hd5 : d.toNat + 1 ≤ N / y := (Nat.le_div_iff_mul_le hyp).2 (by rw [Nat.mul_comm]; exact hd4)
                have ed : (q Int fun _ => IntKind.u64.wrap (d + 1)) = d + 1 := by subst hq; (try simp (disch := omega) only [q0, nc, w64_id, wu64_id, wu32_id, wu8_id, Int.tdiv_eq_ediv_of_nonneg, Int.tmod_eq_emod_of_nonneg, Int.ofNat_eq_natCast, Int.natAbs_natCast, decide_eq_true_eq, decide_eq_false_iff_not, Bool.not_eq_true', bne_iff_ne, beq_iff_eq, ne_eq])
                rw [ed]
                refine hK' _ ⟨_, ?_, d + 1, r2, ⟨by omega, rfl, ?_⟩, rfl⟩
                · omega
                · rw [show (d + 1).toNat = d.toNat + 1 by omega, Nat.mul_add, Nat.mul_one]
                  omega
              · rename_i g0
                rw [hq] at g0
                ((try simp (disch := omega) only [q0, nc, w64_id, wu64_id, wu32_id, wu8_id, Int.tdiv_eq_ediv_of_nonneg, Int.tmod_eq_emod_of_nonneg, Int.ofNat_eq_natCast, Int.natAbs_natCast, decide_eq_true_eq, decide_eq_false_iff_not, Bool.not_eq_true', Bool.not_eq_false', bne_iff_ne, bne_eq_false_iff_eq, beq_iff_eq, beq_eq_false_iff_ne, ne_eq] at g0); (try replace g0 := of_decide_eq_true g0); (try replace g0 := of_decide_eq_false g0))
                have hlt : σd < y := by
                  unfold cmpI at hc
                  by_cases h : σd < y
                  · exact h
                  · rw [if_neg h] at hc
                    split at hc <;> omega
                exact hrest3 d σd hd1 hd2 hlt
          clear hQ2
          refine LoopN.mk [0, 1, 8, 9, 10, 11] (fun σd σ => ∃ d : Int, (0 ≤ d ∧ d < 1000000000 ∧ σd = d.toNat) ∧ σ = ⟨mkS [(0, .one (.t (natT q x))), (1, .one (.t (natT q y))), (8, .one (.row 0 (q Int fun _ => (len x : Int)))), (9, .one (.t (natT q N))), (10, .one (.t (.int .i64 i))), (11, .one (.t (.int .u64 d)))] 0 90, [.sl Ty.«uint32» 1 (q Int fun _ => (len x : Int)) (fun i => [.int .u32 (Z i)])]⟩) ⟨dI.toNat, dI, ⟨by omega, by omega, rfl⟩, ?_⟩ ?_
          · cbv
          · rintro σd σ ⟨d, ⟨hd1, hd2, rfl⟩, rfl⟩ K' hK'
            (conv => cbv)
            split
            · rename_i g0
              rw [hq] at g0
              ((try simp (disch := omega) only [q0, nc, w64_id, wu64_id, wu32_id, wu8_id, Int.tdiv_eq_ediv_of_nonneg, Int.tmod_eq_emod_of_nonneg, Int.ofNat_eq_natCast, Int.natAbs_natCast, decide_eq_true_eq, decide_eq_false_iff_not, Bool.not_eq_true', Bool.not_eq_false', bne_iff_ne, bne_eq_false_iff_eq, beq_iff_eq, beq_eq_false_iff_ne, ne_eq] at g0); (try replace g0 := of_decide_eq_true g0); (try replace g0 := of_decide_eq_false g0))
              refine call_fn hq hCN (limbs_i d hd1 (by omega)) rfl ?_
              obtain ⟨dN, hdN⟩ : ∃ dN, dN = d.toNat := ⟨_, rfl⟩
              rw [← hdN]
              (conv => cbv)
              refine call_fn hq hCN (natMul_c y dN (by omega) (by have h2 : len dN ≤ 1 := len_le (by rw [Nat.pow_one]; show dN < 1000000000; omega); omega)) rfl ?_
              have hydl := hyd dN (by omega)
              obtain ⟨yd, hyd2⟩ : ∃ yd, yd = y * dN := ⟨_, rfl⟩
              rw [← hyd2] at hydl ⊢
              (conv => cbv)
              refine call_fn hq hCN (natCmp_c yd N (by omega) (by omega)) rfl ?_
              obtain ⟨c, hc⟩ : ∃ c, c = cmpI yd N := ⟨_, rfl⟩
              rw [← hc]
              (conv => cbv)
              split
              · rename_i g1
                rw [hq] at g1
                ((try simp (disch := omega) only [q0, nc, w64_id, wu64_id, wu32_id, wu8_id, Int.tdiv_eq_ediv_of_nonneg, Int.tmod_eq_emod_of_nonneg, Int.ofNat_eq_natCast, Int.natAbs_natCast, decide_eq_true_eq, decide_eq_false_iff_not, Bool.not_eq_true', Bool.not_eq_false', bne_iff_ne, bne_eq_false_iff_eq, beq_iff_eq, beq_eq_false_iff_ne, ne_eq] at g1); (try replace g1 := of_decide_eq_true g1); (try replace g1 := of_decide_eq_false g1))
                have ed : (q Int fun _ => IntKind.u64.wrap (d - 1)) = d - 1 := by subst hq; (try simp (disch := omega) only [q0, nc, w64_id, wu64_id, wu32_id, wu8_id, Int.tdiv_eq_ediv_of_nonneg, Int.tmod_eq_emod_of_nonneg, Int.ofNat_eq_natCast, Int.natAbs_natCast, decide_eq_true_eq, decide_eq_false_iff_not, Bool.not_eq_true', bne_iff_ne, beq_iff_eq, ne_eq])
                rw [ed]
                refine hK' _ ⟨_, ?_, d - 1, ⟨by omega, by omega, rfl⟩, rfl⟩
                omega
              · rename_i g1
                rw [hq] at g1
                ((try simp (disch := omega) only [q0, nc, w64_id, wu64_id, wu32_id, wu8_id, Int.tdiv_eq_ediv_of_nonneg, Int.tmod_eq_emod_of_nonneg, Int.ofNat_eq_natCast, Int.natAbs_natCast, decide_eq_true_eq, decide_eq_false_iff_not, Bool.not_eq_true', Bool.not_eq_false', bne_iff_ne, bne_eq_false_iff_eq, beq_iff_eq, beq_eq_false_iff_ne, ne_eq] at g1); (try replace g1 := of_decide_eq_true g1); (try replace g1 := of_decide_eq_false g1))
                refine hrest2 d hd1 hd2 ?_
                rw [← hdN, ← hyd2]
                unfold cmpI at hc
                by_cases h : yd < N
                · omega
                · rw [if_neg h] at hc
                  split at hc <;> omega
            · rename_i g0
              rw [hq] at g0
              ((try simp (disch := omega) only [q0, nc, w64_id, wu64_id, wu32_id, wu8_id, Int.tdiv_eq_ediv_of_nonneg, Int.tmod_eq_emod_of_nonneg, Int.ofNat_eq_natCast, Int.natAbs_natCast, decide_eq_true_eq, decide_eq_false_iff_not, Bool.not_eq_true', Bool.not_eq_false', bne_iff_ne, bne_eq_false_iff_eq, beq_iff_eq, beq_eq_false_iff_ne, ne_eq] at g0); (try replace g0 := of_decide_eq_true g0); (try replace g0 := of_decide_eq_false g0))
              exact hrest2 d hd1 hd2 (by rw [show d.toNat = 0 by omega, Nat.mul_zero]; exact Nat.zero_le _)
        · rename_i g0
          rw [hq] at g0
          ((try simp (disch := omega) only [q0, nc, w64_id, wu64_id, wu32_id, wu8_id, Int.tdiv_eq_ediv_of_nonneg, Int.tmod_eq_emod_of_nonneg, Int.ofNat_eq_natCast, Int.natAbs_natCast, decide_eq_true_eq, decide_eq_false_iff_not, Bool.not_eq_true', Bool.not_eq_false', bne_iff_ne, bne_eq_false_iff_eq, beq_iff_eq, beq_eq_false_iff_ne, ne_eq] at g0); (try replace g0 := of_decide_eq_true g0); (try replace g0 := of_decide_eq_false g0))
          have hk : k = -1 := by omega
          subst hk
          rw [show ((-1 : Int) + 1).toNat = 0 from rfl, Nat.pow_zero, Nat.div_one] at h3 h4
          rw [← hQ1]
          clear hQ1
          (conv => cbv)
          refine call_fz hCN 0 rfl ?_
          have hZ : ∀ j : Nat, j < len x → Z j = limb (x / y) j := fun j hj => h5 j (by omega) hj
          refine call_fn hq hCN (cut_c (len x) Z (by omega) (fun j hj => ?_)) rfl ?_
          · rw [hZ j hj]; exact ⟨limb_nonneg _ _, limb_lt _ _⟩
          generalize hN : valN Z (len x) = N
          have e3 : N = x / y := by
            rw [← hN, valN_congr hZ, valN_len]
            exact len_mono (Nat.div_le_self _ _)
          (conv => cbv)
          refine hR _ ?_
          rw [← e3]
          refine .tup rfl (fun j a b ha hb => ?_)
          rcases j with _ | _ | j
          · simp at ha hb
            subst ha; subst hb; subst hq
            exact .refl
          · simp at ha hb
            subst ha; subst hb
            refine .one (TE.ext h3 (fun j hj => ?_))
            exact h4 j hj
          · simp at ha
end Sx

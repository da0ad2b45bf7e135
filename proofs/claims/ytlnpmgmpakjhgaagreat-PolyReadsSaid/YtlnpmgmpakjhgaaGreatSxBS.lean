/- A part of the proof of PolyReadsSaid: texts SxRef6. -/
import Derived.Test.YtlnpmgmpakjhgaaGreatSxBR
import Derived.Test.YtlnpmgmpakjhgaaGreatSxBH
set_option linter.all false
set_option maxRecDepth 100000
namespace Sx
open Go

theorem natGcd_c (x y : Nat) (hx : len x ≤ 10000000) (hy : len y ≤ 10000000) : PureF Pg F.amortcostref1_natGcd (fun q => [.one (natT q x), .one (natT q y)]) (fun q => .one (natT q (Nat.gcd x y))) := by
  refine walkF mixed tau_ok At.amortcostref1_natGcd (fun CN DN q R hCN hDN hq hR => ?_)
  (conv => cbv)
  refine LoopN.mk [0, 1] (fun d σ => ∃ a b : Nat, (d = b ∧ Nat.gcd a b = Nat.gcd x y ∧ len a ≤ 10000000 ∧ len b ≤ 10000000) ∧
    σ = ⟨mkS [(0, .one (.t (natT q a))), (1, .one (.t (natT q b)))] 0 19, []⟩) ⟨y, x, y, ⟨rfl, rfl, hx, hy⟩, ?_⟩ ?_
  · cbv
  · rintro d σ ⟨a, b, ⟨rfl, h1, h2, h3⟩, rfl⟩ K hK
    (conv => cbv)
    split
    · rename_i g0
      rw [hq] at g0
      ((try simp (disch := omega) only [q0, nc, w64_id, wu64_id, wu32_id, wu8_id, Int.tdiv_eq_ediv_of_nonneg, Int.tmod_eq_emod_of_nonneg, Int.ofNat_eq_natCast, Int.natAbs_natCast, decide_eq_true_eq, decide_eq_false_iff_not, Bool.not_eq_true', Bool.not_eq_false', bne_iff_ne, bne_eq_false_iff_eq, beq_iff_eq, beq_eq_false_iff_ne, ne_eq] at g0); (try replace g0 := of_decide_eq_true g0); (try replace g0 := of_decide_eq_false g0))
      have hb : d ≠ 0 := fun h => by rw [h, len_zero] at g0; omega
      refine call_fn hq hCN (natDiv_c a d hb h2 h3) rfl ?_
      have hlt := Nat.mod_lt a (Nat.pos_of_ne_zero hb)
      have hg : Nat.gcd d (a % d) = Nat.gcd x y := by rw [← h1, Nat.gcd_comm, ← Nat.gcd_rec, Nat.gcd_comm]
      have hl := len_mono (Nat.le_of_lt hlt)
      generalize a / d = Q at *
      generalize a % d = Rn at *
      (conv => cbv)
      exact hK _ ⟨Rn, hlt, d, Rn, ⟨rfl, hg, h3, by omega⟩, rfl⟩
    · rename_i g0
      rw [hq] at g0
      ((try simp (disch := omega) only [q0, nc, w64_id, wu64_id, wu32_id, wu8_id, Int.tdiv_eq_ediv_of_nonneg, Int.tmod_eq_emod_of_nonneg, Int.ofNat_eq_natCast, Int.natAbs_natCast, decide_eq_true_eq, decide_eq_false_iff_not, Bool.not_eq_true', Bool.not_eq_false', bne_iff_ne, bne_eq_false_iff_eq, beq_iff_eq, beq_eq_false_iff_ne, ne_eq] at g0); (try replace g0 := of_decide_eq_true g0); (try replace g0 := of_decide_eq_false g0))
      have hb : d = 0 := len_eq_zero.1 (by omega)
      subst hb
      rw [Nat.gcd_zero_right] at h1
      refine hR _ ?_
      rw [← h1]
      subst hq
      exact .refl

theorem build_c (neg : Bool) (n : Nat) (V : Int → Int) (m : Nat) (W : Int → Int) (hn : n ≤ 1000000) (hm : m ≤ 1000000) (hV : ∀ i : Nat, i < n → 0 ≤ V i ∧ V i < 4294967296) (hW : ∀ i : Nat, i < m → 0 ≤ W i ∧ W i < 4294967296) :
    PureF Pg F.amortcostref1_build (fun q => [.one (.bool neg), .one (rowN q n V), .one (rowN q m W)]) (fun q => .agg (ratL q (mkRat (sg neg (valN V n)) (valN W m)))) := by
  refine walkF mixed tau_ok At.amortcostref1_build (fun CN DN q R hCN hDN hq hR => ?_)
  have hnl := len_wide hV
  have hdl := len_wide hW
  (conv => cbv)
  refine call_fn hq hCN (nat_c n V (by omega) hV) rfl ?_
  generalize valN V n = x at *
  (conv => cbv)
  refine call_fn hq hCN (nat_c m W (by omega) hW) rfl ?_
  generalize valN W m = d at *
  (conv => cbv)
  have zero : x = 0 ∨ d = 0 → R (.agg [.bool false, .sl 0 0 (fun _ => []), .sl 1 (Int.ofNat 1) (fun i => [[T.int .u32 1]].getD i.toNat [])]) := by
    intro h
    refine hR _ ?_
    rcases h with h | h
    · subst h
      rw [mk_zero, ratL_zero]
      exact VE.agg3 .refl TE.nil0 TE.one1
    · subst h
      rw [Rat.mkRat_zero, ratL_zero]
      exact VE.agg3 .refl TE.nil0 TE.one1
  split
  · rename_i g0
    rw [hq] at g0
    ((try simp (disch := omega) only [q0, nc, w64_id, wu64_id, wu32_id, wu8_id, Int.tdiv_eq_ediv_of_nonneg, Int.tmod_eq_emod_of_nonneg, Int.ofNat_eq_natCast, Int.natAbs_natCast, decide_eq_true_eq, decide_eq_false_iff_not, Bool.not_eq_true', Bool.not_eq_false', bne_iff_ne, bne_eq_false_iff_eq, beq_iff_eq, beq_eq_false_iff_ne, ne_eq] at g0); (try replace g0 := of_decide_eq_true g0); (try replace g0 := of_decide_eq_false g0))
    exact zero (.inl (len_eq_zero.1 (by omega)))
  · rename_i g0
    rw [hq] at g0
    ((try simp (disch := omega) only [q0, nc, w64_id, wu64_id, wu32_id, wu8_id, Int.tdiv_eq_ediv_of_nonneg, Int.tmod_eq_emod_of_nonneg, Int.ofNat_eq_natCast, Int.natAbs_natCast, decide_eq_true_eq, decide_eq_false_iff_not, Bool.not_eq_true', Bool.not_eq_false', bne_iff_ne, bne_eq_false_iff_eq, beq_iff_eq, beq_eq_false_iff_ne, ne_eq] at g0); (try replace g0 := of_decide_eq_true g0); (try replace g0 := of_decide_eq_false g0))
    have hx0 : x ≠ 0 := fun h => by rw [h, len_zero] at g0; exact g0 rfl
    split
    · rename_i g1
      rw [hq] at g1
      ((try simp (disch := omega) only [q0, nc, w64_id, wu64_id, wu32_id, wu8_id, Int.tdiv_eq_ediv_of_nonneg, Int.tmod_eq_emod_of_nonneg, Int.ofNat_eq_natCast, Int.natAbs_natCast, decide_eq_true_eq, decide_eq_false_iff_not, Bool.not_eq_true', Bool.not_eq_false', bne_iff_ne, bne_eq_false_iff_eq, beq_iff_eq, beq_eq_false_iff_ne, ne_eq] at g1); (try replace g1 := of_decide_eq_true g1); (try replace g1 := of_decide_eq_false g1))
      exact zero (.inr (len_eq_zero.1 (by omega)))
    · rename_i g1
      rw [hq] at g1
      ((try simp (disch := omega) only [q0, nc, w64_id, wu64_id, wu32_id, wu8_id, Int.tdiv_eq_ediv_of_nonneg, Int.tmod_eq_emod_of_nonneg, Int.ofNat_eq_natCast, Int.natAbs_natCast, decide_eq_true_eq, decide_eq_false_iff_not, Bool.not_eq_true', Bool.not_eq_false', bne_iff_ne, bne_eq_false_iff_eq, beq_iff_eq, beq_eq_false_iff_ne, ne_eq] at g1); (try replace g1 := of_decide_eq_true g1); (try replace g1 := of_decide_eq_false g1))
      have hd : d ≠ 0 := fun h => by rw [h, len_zero] at g1; exact g1 rfl
      clear zero
      refine call_fn hq hCN (natGcd_c x d (by omega) (by omega)) rfl ?_
      have hgp : 0 < Nat.gcd x d := Nat.gcd_pos_of_pos_left _ (Nat.pos_of_ne_zero hx0)
      have hgl : len (Nat.gcd x d) ≤ 10000000 := Nat.le_trans (len_mono (Nat.gcd_le_left d (Nat.pos_of_ne_zero hx0))) (by omega)
      have e1 := mk_neg neg hx0 hd
      have e2 := mk_abs neg x hd
      have e3 := mk_den neg x hd
      generalize mkRat (sg neg x) d = M at *
      generalize Nat.gcd x d = g at *
      have fin : ∀ (b : Bool) (y z : Nat), b = neg → y = x / g → z = d / g → R (.agg [.bool b, natT q y, natT q z]) := by
        intro b y z h1 h2 h3
        refine hR _ ?_
        subst hq
        show VE _ (.agg [.bool (decide (M.num < 0)), natT q0 M.num.natAbs, natT q0 M.den])
        rw [e1, e2, e3, h1, h2, h3]
        exact .refl
      obtain ⟨nq, hnq⟩ : ∃ k, k = x / g := ⟨_, rfl⟩
      obtain ⟨dq, hdq⟩ : ∃ k, k = d / g := ⟨_, rfl⟩
      (conv => cbv)
      split
      · rename_i g2
        refine call_fn hq hCN (natDiv_c x g (by omega) (by omega) hgl) rfl ?_
        generalize x % g = rn
        rw [← hnq]
        (conv => cbv)
        refine call_fn hq hCN (natDiv_c d g (by omega) (by omega) hgl) rfl ?_
        generalize d % g = rd
        rw [← hdq]
        (conv => cbv)
        exact fin _ _ _ rfl hnq hdq
      · rename_i g2
        rw [hq] at g2
        ((try simp (disch := omega) only [q0, nc, w64_id, wu64_id, wu32_id, wu8_id, Int.tdiv_eq_ediv_of_nonneg, Int.tmod_eq_emod_of_nonneg, Int.ofNat_eq_natCast, Int.natAbs_natCast, decide_eq_true_eq, decide_eq_false_iff_not, Bool.not_eq_true', Bool.not_eq_false', bne_iff_ne, bne_eq_false_iff_eq, beq_iff_eq, beq_eq_false_iff_ne, ne_eq] at g2); (try replace g2 := of_decide_eq_true g2); (try replace g2 := of_decide_eq_false g2))
        have e0 : (q Int fun _ => limb g 0) = (g : Int) := by
          have hgB : g < 1000000000 := by
            have h := lt_pow_len g
            rw [show len g = 1 by omega, Nat.pow_one] at h
            exact h
          subst hq
          show limb g ((0 : Nat) : Int) = (g : Int)
          rw [limb_cast, Nat.pow_zero, Nat.div_one, Nat.mod_eq_of_lt (show g < Bs from hgB)]
        rw [e0]
        refine Need.mk (by subst hq; (try simp (disch := omega) only [q0, nc, w64_id, wu64_id, wu32_id, wu8_id, Int.tdiv_eq_ediv_of_nonneg, Int.tmod_eq_emod_of_nonneg, Int.ofNat_eq_natCast, Int.natAbs_natCast, decide_eq_true_eq, decide_eq_false_iff_not, Bool.not_eq_true', bne_iff_ne, beq_iff_eq, ne_eq]); omega) ?_
        split
        · rename_i g3
          refine call_fn hq hCN (natDiv_c x g (by omega) (by omega) hgl) rfl ?_
          generalize x % g = rn
          rw [← hnq]
          (conv => cbv)
          refine call_fn hq hCN (natDiv_c d g (by omega) (by omega) hgl) rfl ?_
          generalize d % g = rd
          rw [← hdq]
          (conv => cbv)
          exact fin _ _ _ rfl hnq hdq
        · rename_i g3
          rw [hq] at g3
          ((try simp (disch := omega) only [q0, nc, w64_id, wu64_id, wu32_id, wu8_id, Int.tdiv_eq_ediv_of_nonneg, Int.tmod_eq_emod_of_nonneg, Int.ofNat_eq_natCast, Int.natAbs_natCast, decide_eq_true_eq, decide_eq_false_iff_not, Bool.not_eq_true', Bool.not_eq_false', bne_iff_ne, bne_eq_false_iff_eq, beq_iff_eq, beq_eq_false_iff_ne, ne_eq] at g3); (try replace g3 := of_decide_eq_true g3); (try replace g3 := of_decide_eq_false g3))
          have hg1 : g = 1 := by omega
          exact fin _ _ _ rfl (by rw [hg1, Nat.div_one]) (by rw [hg1, Nat.div_one])
theorem build_n (neg : Bool) (n d : Nat) (hn : len n ≤ 1000000) (hd : len d ≤ 1000000) : PureF Pg F.amortcostref1_build (fun q => [.one (.bool neg), .one (natT q n), .one (natT q d)]) (fun q => .agg (ratL q (mkRat (sg neg n) d))) := by
  have h := build_c neg (len n) (limb n) (len d) (limb d) hn hd (fun i _ => ⟨limb_nonneg _ _, by have := limb_lt n i; omega⟩) (fun i _ => ⟨limb_nonneg _ _, by have := limb_lt d i; omega⟩)
  rw [valN_len n (Nat.le_refl _), valN_len d (Nat.le_refl _)] at h
  exact h
theorem build_one (neg : Bool) (n : Nat) (hn : len n ≤ 1000000) : PureF Pg F.amortcostref1_build (fun q => [.one (.bool neg), .one (natT q n), .one (.sl 1 (Int.ofNat 1) (fun i => [[T.int .u32 1]].getD i.toNat []))]) (fun q => .agg (ratL q (mkRat (sg neg n) 1))) :=
  PureC.args (build_n neg n 1 hn (by rw [len_succ (by decide), show 1 / Bs = 0 from by decide, len_zero]; decide)) rfl (fun j a b ha hb => by
    rcases j with _ | _ | _ | j
    · simp at ha hb; subst ha; subst hb; exact .refl
    · simp at ha hb; subst ha; subst hb; exact .refl
    · simp at ha hb; subst ha; subst hb; exact .one TE.one1.symm
    · simp at ha)
theorem rcanon_c (a : Raw) {k : Nat} (h : a.Ok k) (hk : k ≤ 1000000) : PureF Pg F.amortcostref1_Canonical (fun q => [.agg (a.L q)]) (fun q => .agg (ratL q a.val)) := by
  obtain ⟨hn, hm, hV, hW⟩ := h
  obtain ⟨neg, n, V, m, W⟩ := a
  refine walkF mixed tau_ok At.amortcostref1_Canonical (fun CN DN q R hCN hDN hq hR => ?_)
  have hc := build_c neg n V m W (Nat.le_trans hn hk) (Nat.le_trans hm hk) hV hW
  have hval : Raw.val ⟨neg, n, V, m, W⟩ = mkRat (sg neg (valN V n)) (valN W m) := rfl
  rw [hval] at hR
  generalize mkRat (sg neg (valN V n)) (valN W m) = M at *
  (conv => cbv)
  refine call_fn hq hCN hc rfl ?_
  obtain ⟨b, x, y, e, hb, hx, hy⟩ := ratL_open q M
  rw [e]
  (conv => cbv)
  exact hR _ (VE.rat hq (by rw [hb]; subst hq; rfl) hx hy)
theorem rfromInt_c (n : Int) (h0 : -9223372036854775808 ≤ n) (h1 : n ≤ 9223372036854775807) : PureF Pg F.amortcostref1_FromInt (fun q => [.one (.int .i64 n)]) (fun q => .agg (ratL q (n : Rat))) := by
  refine walkF mixed tau_ok At.amortcostref1_FromInt (fun CN DN q R hCN hDN hq hR => ?_)
  obtain ⟨u, hu⟩ : ∃ u, u = n.natAbs := ⟨_, rfl⟩
  have hu64 : u < 18446744073709551616 := by omega
  have hul : len u ≤ 1000000 := Nat.le_trans (len_le (n := 3) (Nat.lt_of_lt_of_le hu64 (by decide))) (by decide)
  (conv => cbv)
  split
  · rename_i g0
    rw [hq] at g0
    ((try simp (disch := omega) only [q0, nc, w64_id, wu64_id, wu32_id, wu8_id, Int.tdiv_eq_ediv_of_nonneg, Int.tmod_eq_emod_of_nonneg, Int.ofNat_eq_natCast, Int.natAbs_natCast, decide_eq_true_eq, decide_eq_false_iff_not, Bool.not_eq_true', Bool.not_eq_false', bne_iff_ne, bne_eq_false_iff_eq, beq_iff_eq, beq_eq_false_iff_ne, ne_eq] at g0); (try replace g0 := of_decide_eq_true g0); (try replace g0 := of_decide_eq_false g0))
    have eu : (q Int fun _ => IntKind.u64.wrap ((q Int fun _ => IntKind.u64.wrap (q Int fun _ => IntKind.i64.wrap (0 - q Int fun _ => IntKind.i64.wrap (n + 1)))) + 1)) = q Int fun _ => (u : Int) := by
      subst hq
      simp (disch := omega) only [q0, w64_id, wu64_id]
      omega
    rw [eu]
    refine call_fn hq hCN (limbs_c u hu64) rfl ?_
    (conv => cbv)
    refine call_fz hCN 1 rfl ?_
    refine call_fn hq hCN (build_one true u hul) rfl ?_
    have hM : mkRat (sg true u) 1 = (n : Rat) := by
      rw [show sg true u = n from by unfold sg; simp; omega]
      exact Rat.mkRat_one_int n
    rw [hM]
    obtain ⟨b, x, y, e, hb, hx, hy⟩ := ratL_open q (n : Rat)
    rw [e]
    (conv => cbv)
    exact hR _ (VE.rat hq (by rw [hb]; subst hq; rfl) hx hy)
  · rename_i g0
    rw [hq] at g0
    ((try simp (disch := omega) only [q0, nc, w64_id, wu64_id, wu32_id, wu8_id, Int.tdiv_eq_ediv_of_nonneg, Int.tmod_eq_emod_of_nonneg, Int.ofNat_eq_natCast, Int.natAbs_natCast, decide_eq_true_eq, decide_eq_false_iff_not, Bool.not_eq_true', Bool.not_eq_false', bne_iff_ne, bne_eq_false_iff_eq, beq_iff_eq, beq_eq_false_iff_ne, ne_eq] at g0); (try replace g0 := of_decide_eq_true g0); (try replace g0 := of_decide_eq_false g0))
    have eu : (q Int fun _ => IntKind.u64.wrap n) = q Int fun _ => (u : Int) := by
      subst hq
      simp (disch := omega) only [q0, wu64_id]
      omega
    rw [eu]
    refine call_fn hq hCN (limbs_c u hu64) rfl ?_
    (conv => cbv)
    refine call_fz hCN 1 rfl ?_
    refine call_fn hq hCN (build_one false u hul) rfl ?_
    have hM : mkRat (sg false u) 1 = (n : Rat) := by
      rw [show sg false u = n from by unfold sg; simp; omega]
      exact Rat.mkRat_one_int n
    rw [hM]
    obtain ⟨b, x, y, e, hb, hx, hy⟩ := ratL_open q (n : Rat)
    rw [e]
    (conv => cbv)
    exact hR _ (VE.rat hq (by rw [hb]; subst hq; rfl) hx hy)

theorem refSign_c (a : Raw) {k : Nat} (h : a.Ok k) (hk : k ≤ 1000000) : PureF Pg F.amortcostref1_Sign (fun q => [.agg (a.L q)]) (fun q => .one (.int .i64 (sgnI a.val))) := by
  refine walkF mixed tau_ok At.amortcostref1_Sign (fun CN DN q R hCN hDN hq hR => ?_)
  have hc := rcanon_c a h hk
  generalize a.val = M at *
  obtain ⟨neg, n, V, m, W⟩ := a
  (conv => cbv)
  refine call_fn hq hCN hc rfl ?_
  obtain ⟨b, x, y, e, hb, hx, hy⟩ := ratL_open q M
  rw [e]
  (conv => cbv)
  have hz : x = 0 ↔ M.num = 0 := by rw [hx]; omega
  split
  · rename_i g0
    rw [hq] at g0
    ((try simp (disch := omega) only [q0, nc, w64_id, wu64_id, wu32_id, wu8_id, Int.tdiv_eq_ediv_of_nonneg, Int.tmod_eq_emod_of_nonneg, Int.ofNat_eq_natCast, Int.natAbs_natCast, decide_eq_true_eq, decide_eq_false_iff_not, Bool.not_eq_true', Bool.not_eq_false', bne_iff_ne, bne_eq_false_iff_eq, beq_iff_eq, beq_eq_false_iff_ne, ne_eq] at g0); (try replace g0 := of_decide_eq_true g0); (try replace g0 := of_decide_eq_false g0))
    have h0 : x = 0 := len_eq_zero.1 (by omega)
    have e2 : sgnI M = 0 := by
      unfold sgnI
      rw [if_neg (by have := hz.1 h0; omega), if_pos (hz.1 h0)]
    exact hR _ (by rw [e2]; exact .refl)
  · rename_i g0
    rw [hq] at g0
    ((try simp (disch := omega) only [q0, nc, w64_id, wu64_id, wu32_id, wu8_id, Int.tdiv_eq_ediv_of_nonneg, Int.tmod_eq_emod_of_nonneg, Int.ofNat_eq_natCast, Int.natAbs_natCast, decide_eq_true_eq, decide_eq_false_iff_not, Bool.not_eq_true', Bool.not_eq_false', bne_iff_ne, bne_eq_false_iff_eq, beq_iff_eq, beq_eq_false_iff_ne, ne_eq] at g0); (try replace g0 := of_decide_eq_true g0); (try replace g0 := of_decide_eq_false g0))
    have h0 : M.num ≠ 0 := fun h => by rw [hz.2 h, len_zero] at g0; exact g0 rfl
    have hb' : b = decide (M.num < 0) := by rw [hb]; subst hq; rfl
    cases b
    · have h1 := of_decide_eq_false hb'.symm
      exact hR _ (by unfold sgnI; rw [if_neg h1, if_neg h0]; exact .refl)
    · have h1 := of_decide_eq_true hb'.symm
      exact hR _ (by unfold sgnI; rw [if_pos h1]; exact .refl)
theorem refAdd_c (a b : Raw) {k : Nat} (ha : a.Ok k) (hb : b.Ok k) (hk : k ≤ 100000) : PureF Pg F.amortcostref1_Add (fun q => [.agg (a.L q), .agg (b.L q)]) (fun q => .agg (ratL q (a.val + b.val))) := by
  refine walkF mixed tau_ok At.amortcostref1_Add (fun CN DN q R hCN hDN hq hR => ?_)
  have hca := rcanon_c a ha (by omega)
  have hcb := rcanon_c b hb (by omega)
  have hla := rlen_raw ha
  have hlb := rlen_raw hb
  generalize a.val = A at *
  generalize b.val = B at *
  obtain ⟨neg, n, V, m, W⟩ := a
  obtain ⟨neg', n', V', m', W'⟩ := b
  (conv => cbv)
  refine Need.mk (by (exact ⟨by kernel_rfl, by kernel_rfl⟩)) ?_
  refine call_fd hq hDN hca rfl ?_
  obtain ⟨s1, x1, y1, e1, hs1, hx1, hy1⟩ := ratL_open q A
  rw [e1]
  (conv => cbv)
  refine call_fd hq hDN hcb rfl ?_
  obtain ⟨s2, x2, y2, e2, hs2, hx2, hy2⟩ := ratL_open q B
  rw [e2]
  (conv => cbv)
  have hd1 : y1 ≠ 0 := by rw [hy1]; exact A.den_nz
  have hd2 : y2 ≠ 0 := by rw [hy2]; exact B.den_nz
  have lx1 : len x1 ≤ k + 1 := by rw [hx1]; exact Nat.le_trans (Nat.le_max_left _ _) hla
  have ly1 : len y1 ≤ k + 1 := by rw [hy1]; exact Nat.le_trans (Nat.le_max_right _ _) hla
  have lx2 : len x2 ≤ k + 1 := by rw [hx2]; exact Nat.le_trans (Nat.le_max_left _ _) hlb
  have ly2 : len y2 ≤ k + 1 := by rw [hy2]; exact Nat.le_trans (Nat.le_max_right _ _) hlb
  refine Need.mk (by (exact ⟨by kernel_rfl, by kernel_rfl⟩)) ?_
  refine call_fd hq hDN (natMul_c x1 y2 (by omega) (by omega)) rfl ?_
  obtain ⟨p, hp⟩ : ∃ k, k = x1 * y2 := ⟨_, rfl⟩
  rw [← hp]
  (conv => cbv)
  refine call_fd hq hDN (natMul_c x2 y1 (by omega) (by omega)) rfl ?_
  obtain ⟨t, ht⟩ : ∃ k, k = x2 * y1 := ⟨_, rfl⟩
  rw [← ht]
  (conv => cbv)
  refine call_fn hq hCN (natMul_c y1 y2 (by omega) (by omega)) rfl ?_
  obtain ⟨dn, hdn⟩ : ∃ k, k = y1 * y2 := ⟨_, rfl⟩
  rw [← hdn]
  (conv => cbv)
  have lp : len p ≤ 2 * k + 2 := by have := len_mul x1 y2; rw [hp]; omega
  have lt : len t ≤ 2 * k + 2 := by have := len_mul x2 y1; rw [ht]; omega
  have ld : len dn ≤ 2 * k + 2 := by have := len_mul y1 y2; rw [hdn]; omega
  have hdn0 : dn ≠ 0 := by rw [hdn]; exact Nat.mul_ne_zero hd1 hd2
  have hs1' : decide (A.num < 0) = s1 := by rw [hs1]; subst hq; rfl
  have hs2' : decide (B.num < 0) = s2 := by rw [hs2]; subst hq; rfl
  rw [hx1, hy2] at hp
  rw [hx2, hy1] at ht
  rw [hy1, hy2] at hdn
  split
  · rename_i g0
    rw [hq] at g0
    ((try simp (disch := omega) only [q0, nc, w64_id, wu64_id, wu32_id, wu8_id, Int.tdiv_eq_ediv_of_nonneg, Int.tmod_eq_emod_of_nonneg, Int.ofNat_eq_natCast, Int.natAbs_natCast, decide_eq_true_eq, decide_eq_false_iff_not, Bool.not_eq_true', Bool.not_eq_false', bne_iff_ne, bne_eq_false_iff_eq, beq_iff_eq, beq_eq_false_iff_ne, ne_eq] at g0); (try replace g0 := of_decide_eq_true g0); (try replace g0 := of_decide_eq_false g0))
    have hM : mkRat (sg s1 (p + t)) dn = A + B := by rw [hp, ht, hdn]; exact (add_same hs1' (by rw [g0]; exact hs2')).symm
    refine Need.mk (by (exact ⟨by kernel_rfl, by kernel_rfl⟩)) ?_
    refine call_fd hq hDN (natAdd_c p t (by omega) (by omega)) rfl ?_
    obtain ⟨u, hu⟩ : ∃ k, k = p + t := ⟨_, rfl⟩
    rw [← hu]
    (conv => cbv)
    have lu : len u ≤ 2 * k + 3 := by have := len_add p t; rw [hu]; omega
    refine call_fd hq hDN (build_n s1 u dn (by omega) (by omega)) rfl ?_
    rw [← hu] at hM
    rw [hM]
    obtain ⟨b, x, y, e, hb, hx, hy⟩ := ratL_open q (A + B)
    rw [e]
    (conv => cbv)
    exact hR _ (VE.rat hq (by rw [hb]; subst hq; rfl) hx hy)
  · rename_i g0
    rw [hq] at g0
    have hne : s1 ≠ s2 := by
      intro h
      rw [h] at g0
      simp [q0] at g0
    refine call_fn hq hCN (natCmp_c p t (by omega) (by omega)) rfl ?_
    obtain ⟨c, hc⟩ : ∃ c, c = cmpI p t := ⟨_, rfl⟩
    rw [← hc]
    (conv => cbv)
    split
    · rename_i g1
      rw [hq] at g1
      ((try simp (disch := omega) only [q0, nc, w64_id, wu64_id, wu32_id, wu8_id, Int.tdiv_eq_ediv_of_nonneg, Int.tmod_eq_emod_of_nonneg, Int.ofNat_eq_natCast, Int.natAbs_natCast, decide_eq_true_eq, decide_eq_false_iff_not, Bool.not_eq_true', Bool.not_eq_false', bne_iff_ne, bne_eq_false_iff_eq, beq_iff_eq, beq_eq_false_iff_ne, ne_eq] at g1); (try replace g1 := of_decide_eq_true g1); (try replace g1 := of_decide_eq_false g1))
      have hle : t ≤ p := by
        unfold cmpI at hc
        by_cases h : p < t
        · rw [if_pos h] at hc; omega
        · omega
      have hM : mkRat (sg s1 (p - t)) dn = A + B := by rw [hp, ht, hdn]; exact (add_less hne hs1' hs2' (by rw [← hp, ← ht]; exact hle)).symm
      refine Need.mk (by (exact ⟨by kernel_rfl, by kernel_rfl⟩)) ?_
      refine call_fd hq hDN (natSub_c p t (by omega) hle) rfl ?_
      obtain ⟨u, hu⟩ : ∃ k, k = p - t := ⟨_, rfl⟩
      rw [← hu]
      (conv => cbv)
      have lu : len u ≤ 2 * k + 2 := by rw [hu]; exact Nat.le_trans (len_mono (Nat.sub_le _ _)) lp
      refine call_fd hq hDN (build_n s1 u dn (by omega) (by omega)) rfl ?_
      rw [← hu] at hM
      rw [hM]
      obtain ⟨b, x, y, e, hb, hx, hy⟩ := ratL_open q (A + B)
      rw [e]
      (conv => cbv)
      exact hR _ (VE.rat hq (by rw [hb]; subst hq; rfl) hx hy)
    · rename_i g1
      rw [hq] at g1
      ((try simp (disch := omega) only [q0, nc, w64_id, wu64_id, wu32_id, wu8_id, Int.tdiv_eq_ediv_of_nonneg, Int.tmod_eq_emod_of_nonneg, Int.ofNat_eq_natCast, Int.natAbs_natCast, decide_eq_true_eq, decide_eq_false_iff_not, Bool.not_eq_true', Bool.not_eq_false', bne_iff_ne, bne_eq_false_iff_eq, beq_iff_eq, beq_eq_false_iff_ne, ne_eq] at g1); (try replace g1 := of_decide_eq_true g1); (try replace g1 := of_decide_eq_false g1))
      have hle : p ≤ t := by
        unfold cmpI at hc
        by_cases h : p < t
        · omega
        · rw [if_neg h] at hc
          split at hc <;> omega
      have hM : mkRat (sg s2 (t - p)) dn = A + B := by rw [hp, ht, hdn]; exact (add_more hne hs1' hs2' (by rw [← hp, ← ht]; exact hle)).symm
      refine Need.mk (by (exact ⟨by kernel_rfl, by kernel_rfl⟩)) ?_
      refine call_fd hq hDN (natSub_c t p (by omega) hle) rfl ?_
      obtain ⟨u, hu⟩ : ∃ k, k = t - p := ⟨_, rfl⟩
      rw [← hu]
      (conv => cbv)
      have lu : len u ≤ 2 * k + 2 := by rw [hu]; exact Nat.le_trans (len_mono (Nat.sub_le _ _)) lt
      refine call_fd hq hDN (build_n s2 u dn (by omega) (by omega)) rfl ?_
      rw [← hu] at hM
      rw [hM]
      obtain ⟨b, x, y, e, hb, hx, hy⟩ := ratL_open q (A + B)
      rw [e]
      (conv => cbv)
      exact hR _ (VE.rat hq (by rw [hb]; subst hq; rfl) hx hy)
end Sx

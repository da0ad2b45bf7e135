/- A part of the proof of PolyReadsSaid: texts SxRat12. -/
import Derived.Test.YtlnpmgmpakjhgaaGreatSxBC
import Derived.Test.YtlnpmgmpakjhgaaGreatSxBF
import Derived.Test.YtlnpmgmpakjhgaaGreatSxBG
set_option linter.all false
set_option maxRecDepth 100000
namespace Sx
open Go

theorem ratL_open (q : Qt) (M : Rat) : ∃ b x y, ratL q M = [.bool b, natT q x, natT q y] ∧ b = (q Bool fun _ => decide (M.num < 0)) ∧ x = M.num.natAbs ∧ y = M.den := ⟨_, _, _, rfl, rfl, rfl, rfl⟩
theorem VE.rat {q : Qt} (hq : q = q0) {M : Rat} {b : Bool} {x y : Nat} (hb : b = decide (M.num < 0)) (hx : x = M.num.natAbs) (hy : y = M.den) : VE (.agg [.bool b, natT q x, natT q y]) (.agg (ratL q0 M)) := by
  subst hq; subst hb; subst hx; subst hy
  exact .refl

theorem canon_c (a : Raw) {k : Nat} (h : a.Ok k) (hk : k ≤ 10000000) : PureF Pg F.rational_Canonical (fun q => [.agg (a.L q)]) (fun q => .agg (ratL q a.val)) := by
  obtain ⟨hn, hm, hV, hW⟩ := h
  obtain ⟨neg, n, V, m, W⟩ := a
  refine walkF mixed tau_ok At.rational_Canonical (fun CN DN q R hCN hDN hq hR => ?_)
  have hval : Raw.val ⟨neg, n, V, m, W⟩ = mkRat (sg neg (valN V n)) (valN W m) := rfl
  rw [hval] at hR
  simp only at hn hm hV hW
  (conv => cbv)
  refine call_fn hq hCN (norm_c m W (by omega) hW) rfl ?_
  have hdl := len_wide hW
  generalize valN W m = d at *
  (conv => cbv)
  split
  · rename_i g0
    rw [hq] at g0
    ((try simp (disch := omega) only [q0, nc, w64_id, wu64_id, wu32_id, wu8_id, Int.tdiv_eq_ediv_of_nonneg, Int.tmod_eq_emod_of_nonneg, Int.ofNat_eq_natCast, Int.natAbs_natCast, decide_eq_true_eq, decide_eq_false_iff_not, Bool.not_eq_true', Bool.not_eq_false', bne_iff_ne, bne_eq_false_iff_eq, beq_iff_eq, beq_eq_false_iff_ne, ne_eq] at g0); (try replace g0 := of_decide_eq_true g0); (try replace g0 := of_decide_eq_false g0))
    have h0 : d = 0 := len_eq_zero.1 (by omega)
    subst h0
    rw [Rat.mkRat_zero] at hR
    refine call_fn hq hCN made_nil rfl ?_
    obtain ⟨b, x, y, e, hb, hx, hy⟩ := ratL_open q 0
    rw [e]
    (conv => cbv)
    exact hR _ (VE.rat hq (by rw [hb]; subst hq; rfl) hx hy)
  · rename_i g0
    rw [hq] at g0
    ((try simp (disch := omega) only [q0, nc, w64_id, wu64_id, wu32_id, wu8_id, Int.tdiv_eq_ediv_of_nonneg, Int.tmod_eq_emod_of_nonneg, Int.ofNat_eq_natCast, Int.natAbs_natCast, decide_eq_true_eq, decide_eq_false_iff_not, Bool.not_eq_true', Bool.not_eq_false', bne_iff_ne, bne_eq_false_iff_eq, beq_iff_eq, beq_eq_false_iff_ne, ne_eq] at g0); (try replace g0 := of_decide_eq_true g0); (try replace g0 := of_decide_eq_false g0))
    have h0 : d ≠ 0 := fun h => by rw [h, len_zero] at g0; exact g0 rfl
    refine Need.mk (by (exact ⟨by kernel_rfl, by kernel_rfl⟩)) ?_
    refine call_fd hq hDN (norm_c n V (by omega) hV) rfl ?_
    have hnl := len_wide hV
    generalize valN V n = x at *
    (conv => cbv)
    refine call_fd hq hDN (made_c neg x d h0 (by omega) (by omega)) rfl ?_
    generalize mkRat (sg neg x) d = M at *
    obtain ⟨b, x, y, e, hb, hx, hy⟩ := ratL_open q M
    rw [e]
    (conv => cbv)
    exact hR _ (VE.rat hq (by rw [hb]; subst hq; rfl) hx hy)

theorem made_one (neg : Bool) (n : Nat) (hn : len n ≤ 100000000) : PureF Pg F.rational_made (fun q => [.one (.bool neg), .one (natT q n), .one (.sl 1 (Int.ofNat 1) (fun i => [[T.int .u32 1]].getD i.toNat []))]) (fun q => .agg (ratL q (mkRat (sg neg n) 1))) :=
  PureC.args (made_c neg n 1 (by decide) hn (by rw [len_succ (by decide), show 1 / Bs = 0 from by decide, len_zero]; decide)) rfl (fun j a b ha hb => by
    rcases j with _ | _ | _ | j
    · simp at ha hb; subst ha; subst hb; exact .refl
    · simp at ha hb; subst ha; subst hb; exact .refl
    · simp at ha hb; subst ha; subst hb; exact .one TE.one1.symm
    · simp at ha)
theorem Rat.mkRat_one_int (n : Int) : mkRat n 1 = (n : Rat) := by
  have := Rat.mkRat_self (n : Rat)
  simpa using this
theorem fromInt_c (n : Int) (h0 : -9223372036854775808 ≤ n) (h1 : n ≤ 9223372036854775807) : PureF Pg F.rational_FromInt (fun q => [.one (.int .i64 n)]) (fun q => .agg (ratL q (n : Rat))) := by
  refine walkF mixed tau_ok At.rational_FromInt (fun CN DN q R hCN hDN hq hR => ?_)
  obtain ⟨u, hu⟩ : ∃ u, u = n.natAbs := ⟨_, rfl⟩
  have hu64 : u < 18446744073709551616 := by omega
  obtain ⟨l0, hl0⟩ : ∃ l0 : Int, l0 = (u : Int) % 1000000000 := ⟨_, rfl⟩
  obtain ⟨l1, hl1⟩ : ∃ l1 : Int, l1 = (u : Int) / 1000000000 % 1000000000 := ⟨_, rfl⟩
  obtain ⟨l2, hl2⟩ : ∃ l2 : Int, l2 = (u : Int) / 1000000000 / 1000000000 := ⟨_, rfl⟩
  have hVl : ∀ i : Nat, i < 3 → 0 ≤ (fun i : Int => if i = 0 then l0 else if i = 1 then l1 else l2) i ∧ (fun i : Int => if i = 0 then l0 else if i = 1 then l1 else l2) i < 4294967296 := by
    intro i hi
    show 0 ≤ (if (i : Int) = 0 then l0 else if (i : Int) = 1 then l1 else l2) ∧ (if (i : Int) = 0 then l0 else if (i : Int) = 1 then l1 else l2) < 4294967296
    split
    · omega
    · split <;> omega
  have hVg : ∀ i : Nat, i < 3 → [[T.int .u32 l0], [T.int .u32 l1], [T.int .u32 l2]].getD (i : Int).toNat [] = [.int .u32 ((fun i : Int => if i = 0 then l0 else if i = 1 then l1 else l2) i)] := by
    intro i hi
    rcases i with _ | _ | _ | i
    · rfl
    · rfl
    · rfl
    · omega
  have hVu : valN (fun i : Int => if i = 0 then l0 else if i = 1 then l1 else l2) 3 = u := by
    have e : valN (fun i : Int => if i = 0 then l0 else if i = 1 then l1 else l2) 3 = 0 + l0.toNat * Bs ^ 0 + l1.toNat * Bs ^ 1 + l2.toNat * Bs ^ 2 := rfl
    have e1 : Bs ^ 1 = 1000000000 := rfl
    have e2 : Bs ^ 2 = 1000000000000000000 := rfl
    rw [e, Nat.pow_zero, e1, e2]
    omega
  have hul : len u ≤ 100000000 := Nat.le_trans (len_le (n := 3) (Nat.lt_of_lt_of_le hu64 (by decide))) (by decide)
  (conv => cbv)
  split
  · rename_i g0
    rw [hq] at g0
    ((try simp (disch := omega) only [q0, nc, w64_id, wu64_id, wu32_id, wu8_id, Int.tdiv_eq_ediv_of_nonneg, Int.tmod_eq_emod_of_nonneg, Int.ofNat_eq_natCast, Int.natAbs_natCast, decide_eq_true_eq, decide_eq_false_iff_not, Bool.not_eq_true', Bool.not_eq_false', bne_iff_ne, bne_eq_false_iff_eq, beq_iff_eq, beq_eq_false_iff_ne, ne_eq] at g0); (try replace g0 := of_decide_eq_true g0); (try replace g0 := of_decide_eq_false g0))
    have eu : (q Int fun _ => IntKind.u64.wrap (0 - q Int fun _ => IntKind.u64.wrap n)) = (u : Int) := by
      subst hq
      show IntKind.u64.wrap (0 - IntKind.u64.wrap n) = (u : Int)
      rw [wu64, wu64]
      omega
    have e0 : (q Int fun _ => IntKind.u32.wrap (q Int fun _ => (u : Int).tmod 1000000000)) = l0 := by rw [hl0]; subst hq; (try simp (disch := omega) only [q0, nc, w64_id, wu64_id, wu32_id, wu8_id, Int.tdiv_eq_ediv_of_nonneg, Int.tmod_eq_emod_of_nonneg, Int.ofNat_eq_natCast, Int.natAbs_natCast, decide_eq_true_eq, decide_eq_false_iff_not, Bool.not_eq_true', bne_iff_ne, beq_iff_eq, ne_eq])
    have e1 : (q Int fun _ => IntKind.u32.wrap (q Int fun _ => (q Int fun _ => IntKind.u64.wrap ((u : Int).tdiv 1000000000)).tmod 1000000000)) = l1 := by rw [hl1]; subst hq; (try simp (disch := omega) only [q0, nc, w64_id, wu64_id, wu32_id, wu8_id, Int.tdiv_eq_ediv_of_nonneg, Int.tmod_eq_emod_of_nonneg, Int.ofNat_eq_natCast, Int.natAbs_natCast, decide_eq_true_eq, decide_eq_false_iff_not, Bool.not_eq_true', bne_iff_ne, beq_iff_eq, ne_eq])
    have e2 : (q Int fun _ => IntKind.u32.wrap (q Int fun _ => IntKind.u64.wrap ((q Int fun _ => IntKind.u64.wrap ((u : Int).tdiv 1000000000)).tdiv 1000000000))) = l2 := by rw [hl2]; subst hq; (try simp (disch := omega) only [q0, nc, w64_id, wu64_id, wu32_id, wu8_id, Int.tdiv_eq_ediv_of_nonneg, Int.tmod_eq_emod_of_nonneg, Int.ofNat_eq_natCast, Int.natAbs_natCast, decide_eq_true_eq, decide_eq_false_iff_not, Bool.not_eq_true', bne_iff_ne, beq_iff_eq, ne_eq])
    rw [eu, e0, e1, e2]
    refine Need.mk (by decide) (Need.mk (by decide) (Need.mk (by decide) (Need.mk (by decide) (Need.mk (by decide) ?_))))
    refine call_fz hCN 1 rfl ?_
    refine call_fn hq hCN ((norm_c 3 (fun i => if i = 0 then l0 else if i = 1 then l1 else l2) (by omega) hVl).row1 rfl hVg) rfl ?_
    rw [hVu]
    (conv => cbv)
    refine call_fz hCN 2 rfl ?_
    refine call_fn hq hCN (made_one (q Bool fun _ => decide (n < 0)) u hul) rfl ?_
    have hM : (mkRat (sg (q Bool fun _ => decide (n < 0)) u) 1) = (n : Rat) := by
      subst hq
      rw [hu, show sg (q0 Bool fun _ => decide (n < 0)) n.natAbs = n from by unfold sg q0; by_cases h : n < 0 <;> simp [h] <;> omega]
      exact Rat.mkRat_one_int n
    rw [hM]
    obtain ⟨b, x, y, e, hb, hx, hy⟩ := ratL_open q (n : Rat)
    rw [e]
    (conv => cbv)
    exact hR _ (VE.rat hq (by rw [hb]; subst hq; rfl) hx hy)
  · rename_i g0
    rw [hq] at g0
    ((try simp (disch := omega) only [q0, nc, w64_id, wu64_id, wu32_id, wu8_id, Int.tdiv_eq_ediv_of_nonneg, Int.tmod_eq_emod_of_nonneg, Int.ofNat_eq_natCast, Int.natAbs_natCast, decide_eq_true_eq, decide_eq_false_iff_not, Bool.not_eq_true', Bool.not_eq_false', bne_iff_ne, bne_eq_false_iff_eq, beq_iff_eq, beq_eq_false_iff_ne, ne_eq] at g0); (try replace g0 := of_decide_eq_true g0); (try replace g0 := of_decide_eq_false g0))
    have eu : (q Int fun _ => IntKind.u64.wrap n) = (u : Int) := by
      subst hq
      show IntKind.u64.wrap n = (u : Int)
      rw [wu64]
      omega
    have e0 : (q Int fun _ => IntKind.u32.wrap (q Int fun _ => (u : Int).tmod 1000000000)) = l0 := by rw [hl0]; subst hq; (try simp (disch := omega) only [q0, nc, w64_id, wu64_id, wu32_id, wu8_id, Int.tdiv_eq_ediv_of_nonneg, Int.tmod_eq_emod_of_nonneg, Int.ofNat_eq_natCast, Int.natAbs_natCast, decide_eq_true_eq, decide_eq_false_iff_not, Bool.not_eq_true', bne_iff_ne, beq_iff_eq, ne_eq])
    have e1 : (q Int fun _ => IntKind.u32.wrap (q Int fun _ => (q Int fun _ => IntKind.u64.wrap ((u : Int).tdiv 1000000000)).tmod 1000000000)) = l1 := by rw [hl1]; subst hq; (try simp (disch := omega) only [q0, nc, w64_id, wu64_id, wu32_id, wu8_id, Int.tdiv_eq_ediv_of_nonneg, Int.tmod_eq_emod_of_nonneg, Int.ofNat_eq_natCast, Int.natAbs_natCast, decide_eq_true_eq, decide_eq_false_iff_not, Bool.not_eq_true', bne_iff_ne, beq_iff_eq, ne_eq])
    have e2 : (q Int fun _ => IntKind.u32.wrap (q Int fun _ => IntKind.u64.wrap ((q Int fun _ => IntKind.u64.wrap ((u : Int).tdiv 1000000000)).tdiv 1000000000))) = l2 := by rw [hl2]; subst hq; (try simp (disch := omega) only [q0, nc, w64_id, wu64_id, wu32_id, wu8_id, Int.tdiv_eq_ediv_of_nonneg, Int.tmod_eq_emod_of_nonneg, Int.ofNat_eq_natCast, Int.natAbs_natCast, decide_eq_true_eq, decide_eq_false_iff_not, Bool.not_eq_true', bne_iff_ne, beq_iff_eq, ne_eq])
    rw [eu, e0, e1, e2]
    refine Need.mk (by decide) (Need.mk (by decide) (Need.mk (by decide) (Need.mk (by decide) (Need.mk (by decide) ?_))))
    refine call_fz hCN 1 rfl ?_
    refine call_fn hq hCN ((norm_c 3 (fun i => if i = 0 then l0 else if i = 1 then l1 else l2) (by omega) hVl).row1 rfl hVg) rfl ?_
    rw [hVu]
    (conv => cbv)
    refine call_fz hCN 2 rfl ?_
    refine call_fn hq hCN (made_one (q Bool fun _ => decide (n < 0)) u hul) rfl ?_
    have hM : (mkRat (sg (q Bool fun _ => decide (n < 0)) u) 1) = (n : Rat) := by
      subst hq
      rw [hu, show sg (q0 Bool fun _ => decide (n < 0)) n.natAbs = n from by unfold sg q0; by_cases h : n < 0 <;> simp [h] <;> omega]
      exact Rat.mkRat_one_int n
    rw [hM]
    obtain ⟨b, x, y, e, hb, hx, hy⟩ := ratL_open q (n : Rat)
    rw [e]
    (conv => cbv)
    exact hR _ (VE.rat hq (by rw [hb]; subst hq; rfl) hx hy)

def sgnI (r : Rat) : Int := if r.num < 0 then -1 else if r.num = 0 then 0 else 1
theorem rsign_c (a : Raw) {k : Nat} (h : a.Ok k) (hk : k ≤ 10000000) : PureF Pg F.rational_Sign (fun q => [.agg (a.L q)]) (fun q => .one (.int .i64 (sgnI a.val))) := by
  refine walkF mixed tau_ok At.rational_Sign (fun CN DN q R hCN hDN hq hR => ?_)
  have hc := canon_c a h hk
  generalize a.val = M at *
  obtain ⟨neg, n, V, m, W⟩ := a
  (conv => cbv)
  refine call_fn hq hCN hc rfl ?_
  obtain ⟨b, x, y, e, hb, hx, hy⟩ := ratL_open q M
  rw [e]
  (conv => cbv)
  have hz : x = 0 ↔ M.num = 0 := by rw [hx]; omega
  split
  · rename_i g0
    rw [hq] at g0
    ((try simp (disch := omega) only [q0, nc, w64_id, wu64_id, wu32_id, wu8_id, Int.tdiv_eq_ediv_of_nonneg, Int.tmod_eq_emod_of_nonneg, Int.ofNat_eq_natCast, Int.natAbs_natCast, decide_eq_true_eq, decide_eq_false_iff_not, Bool.not_eq_true', Bool.not_eq_false', bne_iff_ne, bne_eq_false_iff_eq, beq_iff_eq, beq_eq_false_iff_ne, ne_eq] at g0); (try replace g0 := of_decide_eq_true g0); (try replace g0 := of_decide_eq_false g0))
    have h0 : x = 0 := len_eq_zero.1 (by omega)
    have e2 : sgnI M = 0 := by
      unfold sgnI
      rw [if_neg (by have := hz.1 h0; omega), if_pos (hz.1 h0)]
    exact hR _ (by rw [e2]; exact .refl)
  · rename_i g0
    rw [hq] at g0
    ((try simp (disch := omega) only [q0, nc, w64_id, wu64_id, wu32_id, wu8_id, Int.tdiv_eq_ediv_of_nonneg, Int.tmod_eq_emod_of_nonneg, Int.ofNat_eq_natCast, Int.natAbs_natCast, decide_eq_true_eq, decide_eq_false_iff_not, Bool.not_eq_true', Bool.not_eq_false', bne_iff_ne, bne_eq_false_iff_eq, beq_iff_eq, beq_eq_false_iff_ne, ne_eq] at g0); (try replace g0 := of_decide_eq_true g0); (try replace g0 := of_decide_eq_false g0))
    have h0 : M.num ≠ 0 := fun h => by rw [hz.2 h, len_zero] at g0; exact g0 rfl
    have hb' : b = decide (M.num < 0) := by rw [hb]; subst hq; rfl
    cases b
    · have h1 := of_decide_eq_false hb'.symm
      exact hR _ (by unfold sgnI; rw [if_neg h1, if_neg h0]; exact .refl)
    · have h1 := of_decide_eq_true hb'.symm
      exact hR _ (by unfold sgnI; rw [if_pos h1]; exact .refl)
theorem radd_c (a b : Raw) {k : Nat} (ha : a.Ok k) (hb : b.Ok k) (hk : k ≤ 10000000) : PureF Pg F.rational_Add (fun q => [.agg (a.L q), .agg (b.L q)]) (fun q => .agg (ratL q (a.val + b.val))) := by
  refine walkF mixed tau_ok At.rational_Add (fun CN DN q R hCN hDN hq hR => ?_)
  have hca := canon_c a ha hk
  have hcb := canon_c b hb hk
  have hla := rlen_raw ha
  have hlb := rlen_raw hb
  generalize a.val = A at *
  generalize b.val = B at *
  obtain ⟨neg, n, V, m, W⟩ := a
  obtain ⟨neg', n', V', m', W'⟩ := b
  (conv => cbv)
  refine Need.mk (by (exact ⟨by kernel_rfl, by kernel_rfl⟩)) ?_
  refine call_fd hq hDN hca rfl ?_
  obtain ⟨s1, x1, y1, e1, hs1, hx1, hy1⟩ := ratL_open q A
  rw [e1]
  (conv => cbv)
  refine call_fd hq hDN hcb rfl ?_
  obtain ⟨s2, x2, y2, e2, hs2, hx2, hy2⟩ := ratL_open q B
  rw [e2]
  (conv => cbv)
  have hd1 : y1 ≠ 0 := by rw [hy1]; exact A.den_nz
  have hd2 : y2 ≠ 0 := by rw [hy2]; exact B.den_nz
  have lx1 : len x1 ≤ k + 1 := by rw [hx1]; exact Nat.le_trans (Nat.le_max_left _ _) hla
  have ly1 : len y1 ≤ k + 1 := by rw [hy1]; exact Nat.le_trans (Nat.le_max_right _ _) hla
  have lx2 : len x2 ≤ k + 1 := by rw [hx2]; exact Nat.le_trans (Nat.le_max_left _ _) hlb
  have ly2 : len y2 ≤ k + 1 := by rw [hy2]; exact Nat.le_trans (Nat.le_max_right _ _) hlb
  refine Need.mk (by (exact ⟨by kernel_rfl, by kernel_rfl⟩)) ?_
  refine call_fd hq hDN (mul_c x1 y2 (by omega) (by omega)) rfl ?_
  obtain ⟨p, hp⟩ : ∃ k, k = x1 * y2 := ⟨_, rfl⟩
  rw [← hp]
  (conv => cbv)
  refine call_fd hq hDN (mul_c x2 y1 (by omega) (by omega)) rfl ?_
  obtain ⟨t, ht⟩ : ∃ k, k = x2 * y1 := ⟨_, rfl⟩
  rw [← ht]
  (conv => cbv)
  refine call_fd hq hDN (mul_c y1 y2 (by omega) (by omega)) rfl ?_
  obtain ⟨dn, hdn⟩ : ∃ k, k = y1 * y2 := ⟨_, rfl⟩
  rw [← hdn]
  (conv => cbv)
  have lp : len p ≤ 2 * k + 2 := by have := len_mul x1 y2; rw [hp]; omega
  have lt : len t ≤ 2 * k + 2 := by have := len_mul x2 y1; rw [ht]; omega
  have ld : len dn ≤ 2 * k + 2 := by have := len_mul y1 y2; rw [hdn]; omega
  have hdn0 : dn ≠ 0 := by rw [hdn]; exact Nat.mul_ne_zero hd1 hd2
  have hs1' : decide (A.num < 0) = s1 := by rw [hs1]; subst hq; rfl
  have hs2' : decide (B.num < 0) = s2 := by rw [hs2]; subst hq; rfl
  rw [hx1, hy2] at hp
  rw [hx2, hy1] at ht
  rw [hy1, hy2] at hdn
  split
  · rename_i g0
    rw [hq] at g0
    ((try simp (disch := omega) only [q0, nc, w64_id, wu64_id, wu32_id, wu8_id, Int.tdiv_eq_ediv_of_nonneg, Int.tmod_eq_emod_of_nonneg, Int.ofNat_eq_natCast, Int.natAbs_natCast, decide_eq_true_eq, decide_eq_false_iff_not, Bool.not_eq_true', Bool.not_eq_false', bne_iff_ne, bne_eq_false_iff_eq, beq_iff_eq, beq_eq_false_iff_ne, ne_eq] at g0); (try replace g0 := of_decide_eq_true g0); (try replace g0 := of_decide_eq_false g0))
    have hM : mkRat (sg s1 (p + t)) dn = A + B := by rw [hp, ht, hdn]; exact (add_same hs1' (by rw [g0]; exact hs2')).symm
    refine Need.mk (by (exact ⟨by kernel_rfl, by kernel_rfl⟩)) ?_
    refine call_fd hq hDN (add_c p t (by omega) (by omega)) rfl ?_
    obtain ⟨u, hu⟩ : ∃ k, k = p + t := ⟨_, rfl⟩
    rw [← hu]
    (conv => cbv)
    have lu : len u ≤ 2 * k + 3 := by have := len_add p t; rw [hu]; omega
    refine call_fd hq hDN (made_c s1 u dn hdn0 (by omega) (by omega)) rfl ?_
    rw [← hu] at hM
    rw [hM]
    obtain ⟨b, x, y, e, hb, hx, hy⟩ := ratL_open q (A + B)
    rw [e]
    (conv => cbv)
    exact hR _ (VE.rat hq (by rw [hb]; subst hq; rfl) hx hy)
  · rename_i g0
    rw [hq] at g0
    have hne : s1 ≠ s2 := by
      intro h
      rw [h] at g0
      simp [q0] at g0
    refine call_fn hq hCN (cmp_c p t (by omega) (by omega)) rfl ?_
    obtain ⟨c, hc⟩ : ∃ c, c = cmpI p t := ⟨_, rfl⟩
    rw [← hc]
    (conv => cbv)
    split
    · rename_i g1
      rw [hq] at g1
      ((try simp (disch := omega) only [q0, nc, w64_id, wu64_id, wu32_id, wu8_id, Int.tdiv_eq_ediv_of_nonneg, Int.tmod_eq_emod_of_nonneg, Int.ofNat_eq_natCast, Int.natAbs_natCast, decide_eq_true_eq, decide_eq_false_iff_not, Bool.not_eq_true', Bool.not_eq_false', bne_iff_ne, bne_eq_false_iff_eq, beq_iff_eq, beq_eq_false_iff_ne, ne_eq] at g1); (try replace g1 := of_decide_eq_true g1); (try replace g1 := of_decide_eq_false g1))
      have hle : t ≤ p := by
        unfold cmpI at hc
        by_cases h : p < t
        · rw [if_pos h] at hc; omega
        · omega
      have hM : mkRat (sg s1 (p - t)) dn = A + B := by rw [hp, ht, hdn]; exact (add_less hne hs1' hs2' (by rw [← hp, ← ht]; exact hle)).symm
      refine Need.mk (by (exact ⟨by kernel_rfl, by kernel_rfl⟩)) ?_
      refine call_fd hq hDN (sub_c p t (by omega) hle) rfl ?_
      obtain ⟨u, hu⟩ : ∃ k, k = p - t := ⟨_, rfl⟩
      rw [← hu]
      (conv => cbv)
      have lu : len u ≤ 2 * k + 2 := by rw [hu]; exact Nat.le_trans (len_mono (Nat.sub_le _ _)) lp
      refine call_fd hq hDN (made_c s1 u dn hdn0 (by omega) (by omega)) rfl ?_
      rw [← hu] at hM
      rw [hM]
      obtain ⟨b, x, y, e, hb, hx, hy⟩ := ratL_open q (A + B)
      rw [e]
      (conv => cbv)
      exact hR _ (VE.rat hq (by rw [hb]; subst hq; rfl) hx hy)
    · rename_i g1
      rw [hq] at g1
      ((try simp (disch := omega) only [q0, nc, w64_id, wu64_id, wu32_id, wu8_id, Int.tdiv_eq_ediv_of_nonneg, Int.tmod_eq_emod_of_nonneg, Int.ofNat_eq_natCast, Int.natAbs_natCast, decide_eq_true_eq, decide_eq_false_iff_not, Bool.not_eq_true', Bool.not_eq_false', bne_iff_ne, bne_eq_false_iff_eq, beq_iff_eq, beq_eq_false_iff_ne, ne_eq] at g1); (try replace g1 := of_decide_eq_true g1); (try replace g1 := of_decide_eq_false g1))
      have hle : p ≤ t := by
        unfold cmpI at hc
        by_cases h : p < t
        · omega
        · rw [if_neg h] at hc
          split at hc <;> omega
      have hM : mkRat (sg s2 (t - p)) dn = A + B := by rw [hp, ht, hdn]; exact (add_more hne hs1' hs2' (by rw [← hp, ← ht]; exact hle)).symm
      refine Need.mk (by (exact ⟨by kernel_rfl, by kernel_rfl⟩)) ?_
      refine call_fd hq hDN (sub_c t p (by omega) hle) rfl ?_
      obtain ⟨u, hu⟩ : ∃ k, k = t - p := ⟨_, rfl⟩
      rw [← hu]
      (conv => cbv)
      have lu : len u ≤ 2 * k + 2 := by rw [hu]; exact Nat.le_trans (len_mono (Nat.sub_le _ _)) lt
      refine call_fd hq hDN (made_c s2 u dn hdn0 (by omega) (by omega)) rfl ?_
      rw [← hu] at hM
      rw [hM]
      obtain ⟨b, x, y, e, hb, hx, hy⟩ := ratL_open q (A + B)
      rw [e]
      (conv => cbv)
      exact hR _ (VE.rat hq (by rw [hb]; subst hq; rfl) hx hy)
end Sx

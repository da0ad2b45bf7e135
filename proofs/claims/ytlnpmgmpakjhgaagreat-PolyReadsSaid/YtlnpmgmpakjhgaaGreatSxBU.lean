/- A part of the proof of PolyReadsSaid: texts SxReads1. -/
import Derived.Test.YtlnpmgmpakjhgaaGreatSxBN
import Derived.Test.YtlnpmgmpakjhgaaGreatSxBS
import Derived.Test.YtlnpmgmpakjhgaaGreatSxBT
set_option linter.all false
set_option maxRecDepth 100000
namespace Sx
open Go

def coefS (e : Int → Int) (c : Int → Rat) : Nat → Rat
  | 0 => 0
  | k + 1 => if e k = 0 then coefS e c k + c k else coefS e c k
theorem rlen_zero : rlen 0 = 1 := by
  unfold rlen
  show max (len 0) (len 1) = 1
  rw [len_zero, len_succ (by decide), show 1 / Bs = 0 from by decide, len_zero]
  rfl
theorem coefS_len {e : Int → Int} {c : Int → Rat} {b : Nat} : ∀ {k : Nat}, (∀ i : Nat, i < k → rlen (c i) ≤ b) → rlen (coefS e c k) ≤ 1 + k * (b + 1)
  | 0, _ => by show rlen 0 ≤ _; rw [rlen_zero]; omega
  | k + 1, h => by
    have ih := coefS_len (e := e) (k := k) (fun i hi => h i (by omega))
    have h1 := h k (by omega)
    rw [coefS, Nat.add_mul]
    split
    · have := rlen_add (coefS e c k) (c k)
      omega
    · omega
theorem addr_c (r : Rat) (a : Raw) {k : Nat} (hr : rlen r ≤ k) (ha : a.Ok k) (hk : k ≤ 10000000) : PureF Pg F.rational_Add (fun q => [.agg (ratL q r), .agg (a.L q)]) (fun q => .agg (ratL q (r + a.val))) := by
  have h := radd_c (Raw.of r) a ((Raw.of_ok r).le hr) ha hk
  rw [Raw.of_val] at h
  exact h
theorem refAddr_c (r : Rat) (a : Raw) {k : Nat} (hr : rlen r ≤ k) (ha : a.Ok k) (hk : k ≤ 100000) : PureF Pg F.amortcostref1_Add (fun q => [.agg (ratL q r), .agg (a.L q)]) (fun q => .agg (ratL q (r + a.val))) := by
  have h := refAdd_c (Raw.of r) a ((Raw.of_ok r).le hr) ha hk
  rw [Raw.of_val] at h
  exact h

theorem coef_main (n : Nat) (hn : n ≤ 1000) (B : Nat → Rat → Prop) (ng : Int → Bool) (N D X Y : Int → T) (M1 M2 : T) (e : Int → Int) (c : Int → Rat)
    (h1 : ∀ i : Nat, i < n → PureF Pg F.poly_Compare (fun _ => [.agg [X i, Y i], .agg [M1, M2]]) (fun _ => .one (.int .i64 (e i))))
    (hB0 : B 0 0) (h2 : ∀ (i : Nat) (r : Rat), i < n → B i r → PureF Pg F.rational_Add (fun q => [.agg (ratL q r), .agg [.bool (ng i), N i, D i]]) (fun q => .agg (ratL q (r + c i))))
    (hB1 : ∀ (i : Nat) (r : Rat), i < n → B i r → B (i + 1) r) (hB2 : ∀ (i : Nat) (r : Rat), i < n → B i r → B (i + 1) (r + c i)) :
    PureF Pg F.poly_Coef (fun q => [.one (.sl 5 (q Int fun _ => (n : Int)) (fun i => [.bool (ng i), N i, D i, X i, Y i])), .agg [M1, M2]]) (fun q => .agg (ratL q (coefS e c n))) := by
  refine walkF mixed tau_ok At.poly_Coef (fun CN DN q R hCN hDN hq hR => ?_)
  obtain ⟨nI, hnI⟩ : ∃ nI, nI = q Int fun _ => (n : Int) := ⟨_, rfl⟩
  rw [← hnI]
  have hnI' : nI = n := by rw [hnI]; subst hq; rfl
  obtain ⟨S, hS⟩ : ∃ S : Nat → Rat, S = coefS e c := ⟨_, rfl⟩
  have hS0 : S 0 = 0 := by rw [hS]; rfl
  have hS1 : ∀ k : Nat, S (k + 1) = if e k = 0 then S k + c k else S k := fun k => by rw [hS]; rfl
  rw [← hS] at hR
  clear hS
  (conv => cbv)
  refine call_fn hq hCN (fromInt_c 0 (by decide) (by decide)) rfl ?_
  obtain ⟨b, x, y, e0, hb, hx, hy⟩ := ratL_open q ((0 : Int) : Rat)
  rw [e0]
  (conv => cbv)
  refine LoopN.mk [3, 4, 5, 9, 10, 11] (fun d σ => ∃ (k : Int) (b : Bool) (x y : Nat), (0 ≤ k ∧ k ≤ n ∧ d = ((n : Int) - k).toNat ∧ B k.toNat (S k.toNat) ∧ b = (q Bool fun _ => decide ((S k.toNat).num < 0)) ∧ x = (S k.toNat).num.natAbs ∧ y = (S k.toNat).den) ∧
    σ = ⟨mkS [(3, .one (.bp 2 0)), (4, .one (.bp 1 0)), (5, .one (.bp 0 0)), (9, .one (.t (.sl 5 nI (fun i => [.bool (ng i), N i, D i, X i, Y i])))), (10, .one (.t (.int .i64 nI))), (11, .one (.t (.int .i64 k)))] 0 26,
      [.box 49 [.t (.bool b), .t (natT q x), .t (natT q y)], .box 49 [.ff, .nil, .nil], .box 85 [.t M1, .t M2]]⟩) ⟨n, 0, b, x, y, ⟨by omega, by omega, by omega, ?_, ?_, ?_, ?_⟩, ?_⟩ ?_
  · show B 0 (S 0); rw [hS0]; exact hB0
  · show b = (q Bool fun _ => decide ((S 0).num < 0)); rw [hS0]; exact hb
  · show x = (S 0).num.natAbs; rw [hS0]; exact hx
  · show y = (S 0).den; rw [hS0]; exact hy
  · cbv
  · rintro d σ ⟨k, b, x, y, ⟨p1, p2, rfl, p3, p4, p5, p6⟩, rfl⟩ K hK
    (conv => cbv)
    obtain ⟨k, rfl⟩ := Int.eq_ofNat_of_zero_le p1
    rw [Int.toNat_natCast] at p3 p4 p5 p6
    split
    · rename_i g0
      rw [hq] at g0
      ((try simp (disch := omega) only [q0, nc, w64_id, wu64_id, wu32_id, wu8_id, Int.tdiv_eq_ediv_of_nonneg, Int.tmod_eq_emod_of_nonneg, Int.ofNat_eq_natCast, Int.natAbs_natCast, decide_eq_true_eq, decide_eq_false_iff_not, Bool.not_eq_true', Bool.not_eq_false', bne_iff_ne, bne_eq_false_iff_eq, beq_iff_eq, beq_eq_false_iff_ne, ne_eq] at g0); (try replace g0 := of_decide_eq_true g0); (try replace g0 := of_decide_eq_false g0))
      refine Need.mk (by omega) ?_
      refine call_fn hq hCN (h1 k (by omega)) rfl ?_
      (conv => cbv)
      try simp only [nc, Int.ofNat_eq_natCast]
      have ek : (q Int fun _ => IntKind.i64.wrap ((k : Int) + 1)) = k + 1 := by subst hq; (try simp (disch := omega) only [q0, nc, w64_id, wu64_id, wu32_id, wu8_id, Int.tdiv_eq_ediv_of_nonneg, Int.tmod_eq_emod_of_nonneg, Int.ofNat_eq_natCast, Int.natAbs_natCast, decide_eq_true_eq, decide_eq_false_iff_not, Bool.not_eq_true', bne_iff_ne, beq_iff_eq, ne_eq])
      split
      · rename_i g1
        rw [hq] at g1
        ((try simp (disch := omega) only [q0, nc, w64_id, wu64_id, wu32_id, wu8_id, Int.tdiv_eq_ediv_of_nonneg, Int.tmod_eq_emod_of_nonneg, Int.ofNat_eq_natCast, Int.natAbs_natCast, decide_eq_true_eq, decide_eq_false_iff_not, Bool.not_eq_true', Bool.not_eq_false', bne_iff_ne, bne_eq_false_iff_eq, beq_iff_eq, beq_eq_false_iff_ne, ne_eq] at g1); (try replace g1 := of_decide_eq_true g1); (try replace g1 := of_decide_eq_false g1))
        subst p4; subst p5; subst p6
        refine call_fn hq hCN (h2 k (S k) (by omega) p3) rfl ?_
        obtain ⟨b, x, y, e0, hb, hx, hy⟩ := ratL_open q (S k + c k)
        rw [e0]
        (conv => cbv)
        try simp only [nc, Int.ofNat_eq_natCast]
        rw [ek]
        have eS : S (k + 1) = S k + c k := by rw [hS1, if_pos g1]
        refine hK _ ⟨_, ?_, (k : Int) + 1, b, x, y, ⟨by omega, by omega, rfl, ?_, ?_, ?_, ?_⟩, rfl⟩
        · omega
        · rw [show ((k : Int) + 1).toNat = k + 1 by omega, eS]; exact hB2 k _ (by omega) p3
        · rw [show ((k : Int) + 1).toNat = k + 1 by omega, eS]; exact hb
        · rw [show ((k : Int) + 1).toNat = k + 1 by omega, eS]; exact hx
        · rw [show ((k : Int) + 1).toNat = k + 1 by omega, eS]; exact hy
      · rename_i g1
        rw [hq] at g1
        ((try simp (disch := omega) only [q0, nc, w64_id, wu64_id, wu32_id, wu8_id, Int.tdiv_eq_ediv_of_nonneg, Int.tmod_eq_emod_of_nonneg, Int.ofNat_eq_natCast, Int.natAbs_natCast, decide_eq_true_eq, decide_eq_false_iff_not, Bool.not_eq_true', Bool.not_eq_false', bne_iff_ne, bne_eq_false_iff_eq, beq_iff_eq, beq_eq_false_iff_ne, ne_eq] at g1); (try replace g1 := of_decide_eq_true g1); (try replace g1 := of_decide_eq_false g1))
        rw [ek]
        have eS : S (k + 1) = S k := by rw [hS1, if_neg g1]
        refine hK _ ⟨_, ?_, (k : Int) + 1, b, x, y, ⟨by omega, by omega, rfl, ?_, ?_, ?_, ?_⟩, rfl⟩
        · omega
        · rw [show ((k : Int) + 1).toNat = k + 1 by omega, eS]; exact hB1 k _ (by omega) p3
        · rw [show ((k : Int) + 1).toNat = k + 1 by omega, eS]; exact p4
        · rw [show ((k : Int) + 1).toNat = k + 1 by omega, eS]; exact p5
        · rw [show ((k : Int) + 1).toNat = k + 1 by omega, eS]; exact p6
    · rename_i g0
      rw [hq] at g0
      ((try simp (disch := omega) only [q0, nc, w64_id, wu64_id, wu32_id, wu8_id, Int.tdiv_eq_ediv_of_nonneg, Int.tmod_eq_emod_of_nonneg, Int.ofNat_eq_natCast, Int.natAbs_natCast, decide_eq_true_eq, decide_eq_false_iff_not, Bool.not_eq_true', Bool.not_eq_false', bne_iff_ne, bne_eq_false_iff_eq, beq_iff_eq, beq_eq_false_iff_ne, ne_eq] at g0); (try replace g0 := of_decide_eq_true g0); (try replace g0 := of_decide_eq_false g0))
      have hk : k = n := by omega
      subst hk
      exact hR _ (VE.rat hq (by rw [p4]; subst hq; rfl) p5 p6)

theorem refCoef_main (n : Nat) (hn : n ≤ 1000) (B : Nat → Rat → Prop) (ng : Int → Bool) (N D X Y : Int → T) (M1 M2 : T) (e : Int → Int) (c : Int → Rat)
    (h1 : ∀ i : Nat, i < n → PureF Pg F.amortcostref20_Compare (fun _ => [.agg [X i, Y i], .agg [M1, M2]]) (fun _ => .one (.int .i64 (e i))))
    (hB0 : B 0 0) (h2 : ∀ (i : Nat) (r : Rat), i < n → B i r → PureF Pg F.amortcostref1_Add (fun q => [.agg (ratL q r), .agg [.bool (ng i), N i, D i]]) (fun q => .agg (ratL q (r + c i))))
    (hB1 : ∀ (i : Nat) (r : Rat), i < n → B i r → B (i + 1) r) (hB2 : ∀ (i : Nat) (r : Rat), i < n → B i r → B (i + 1) (r + c i)) :
    PureF Pg F.amortcostref20_Coef (fun q => [.one (.sl 5 (q Int fun _ => (n : Int)) (fun i => [.bool (ng i), N i, D i, X i, Y i])), .agg [M1, M2]]) (fun q => .agg (ratL q (coefS e c n))) := by
  refine walkF mixed tau_ok At.amortcostref20_Coef (fun CN DN q R hCN hDN hq hR => ?_)
  obtain ⟨nI, hnI⟩ : ∃ nI, nI = q Int fun _ => (n : Int) := ⟨_, rfl⟩
  rw [← hnI]
  have hnI' : nI = n := by rw [hnI]; subst hq; rfl
  obtain ⟨S, hS⟩ : ∃ S : Nat → Rat, S = coefS e c := ⟨_, rfl⟩
  have hS0 : S 0 = 0 := by rw [hS]; rfl
  have hS1 : ∀ k : Nat, S (k + 1) = if e k = 0 then S k + c k else S k := fun k => by rw [hS]; rfl
  rw [← hS] at hR
  clear hS
  (conv => cbv)
  refine call_fn hq hCN (rfromInt_c 0 (by decide) (by decide)) rfl ?_
  obtain ⟨b, x, y, e0, hb, hx, hy⟩ := ratL_open q ((0 : Int) : Rat)
  rw [e0]
  (conv => cbv)
  refine LoopN.mk [3, 4, 5, 9, 10, 11] (fun d σ => ∃ (k : Int) (b : Bool) (x y : Nat), (0 ≤ k ∧ k ≤ n ∧ d = ((n : Int) - k).toNat ∧ B k.toNat (S k.toNat) ∧ b = (q Bool fun _ => decide ((S k.toNat).num < 0)) ∧ x = (S k.toNat).num.natAbs ∧ y = (S k.toNat).den) ∧
    σ = ⟨mkS [(3, .one (.bp 2 0)), (4, .one (.bp 1 0)), (5, .one (.bp 0 0)), (9, .one (.t (.sl 5 nI (fun i => [.bool (ng i), N i, D i, X i, Y i])))), (10, .one (.t (.int .i64 nI))), (11, .one (.t (.int .i64 k)))] 0 26,
      [.box 49 [.t (.bool b), .t (natT q x), .t (natT q y)], .box 49 [.ff, .nil, .nil], .box 85 [.t M1, .t M2]]⟩) ⟨n, 0, b, x, y, ⟨by omega, by omega, by omega, ?_, ?_, ?_, ?_⟩, ?_⟩ ?_
  · show B 0 (S 0); rw [hS0]; exact hB0
  · show b = (q Bool fun _ => decide ((S 0).num < 0)); rw [hS0]; exact hb
  · show x = (S 0).num.natAbs; rw [hS0]; exact hx
  · show y = (S 0).den; rw [hS0]; exact hy
  · cbv
  · rintro d σ ⟨k, b, x, y, ⟨p1, p2, rfl, p3, p4, p5, p6⟩, rfl⟩ K hK
    (conv => cbv)
    obtain ⟨k, rfl⟩ := Int.eq_ofNat_of_zero_le p1
    rw [Int.toNat_natCast] at p3 p4 p5 p6
    split
    · rename_i g0
      rw [hq] at g0
      ((try simp (disch := omega) only [q0, nc, w64_id, wu64_id, wu32_id, wu8_id, Int.tdiv_eq_ediv_of_nonneg, Int.tmod_eq_emod_of_nonneg, Int.ofNat_eq_natCast, Int.natAbs_natCast, decide_eq_true_eq, decide_eq_false_iff_not, Bool.not_eq_true', Bool.not_eq_false', bne_iff_ne, bne_eq_false_iff_eq, beq_iff_eq, beq_eq_false_iff_ne, ne_eq] at g0); (try replace g0 := of_decide_eq_true g0); (try replace g0 := of_decide_eq_false g0))
      refine Need.mk (by omega) ?_
      refine call_fn hq hCN (h1 k (by omega)) rfl ?_
      (conv => cbv)
      try simp only [nc, Int.ofNat_eq_natCast]
      have ek : (q Int fun _ => IntKind.i64.wrap ((k : Int) + 1)) = k + 1 := by subst hq; (try simp (disch := omega) only [q0, nc, w64_id, wu64_id, wu32_id, wu8_id, Int.tdiv_eq_ediv_of_nonneg, Int.tmod_eq_emod_of_nonneg, Int.ofNat_eq_natCast, Int.natAbs_natCast, decide_eq_true_eq, decide_eq_false_iff_not, Bool.not_eq_true', bne_iff_ne, beq_iff_eq, ne_eq])
      split
      · rename_i g1
        rw [hq] at g1
        ((try simp (disch := omega) only [q0, nc, w64_id, wu64_id, wu32_id, wu8_id, Int.tdiv_eq_ediv_of_nonneg, Int.tmod_eq_emod_of_nonneg, Int.ofNat_eq_natCast, Int.natAbs_natCast, decide_eq_true_eq, decide_eq_false_iff_not, Bool.not_eq_true', Bool.not_eq_false', bne_iff_ne, bne_eq_false_iff_eq, beq_iff_eq, beq_eq_false_iff_ne, ne_eq] at g1); (try replace g1 := of_decide_eq_true g1); (try replace g1 := of_decide_eq_false g1))
        subst p4; subst p5; subst p6
        refine call_fn hq hCN (h2 k (S k) (by omega) p3) rfl ?_
        obtain ⟨b, x, y, e0, hb, hx, hy⟩ := ratL_open q (S k + c k)
        rw [e0]
        (conv => cbv)
        try simp only [nc, Int.ofNat_eq_natCast]
        rw [ek]
        have eS : S (k + 1) = S k + c k := by rw [hS1, if_pos g1]
        refine hK _ ⟨_, ?_, (k : Int) + 1, b, x, y, ⟨by omega, by omega, rfl, ?_, ?_, ?_, ?_⟩, rfl⟩
        · omega
        · rw [show ((k : Int) + 1).toNat = k + 1 by omega, eS]; exact hB2 k _ (by omega) p3
        · rw [show ((k : Int) + 1).toNat = k + 1 by omega, eS]; exact hb
        · rw [show ((k : Int) + 1).toNat = k + 1 by omega, eS]; exact hx
        · rw [show ((k : Int) + 1).toNat = k + 1 by omega, eS]; exact hy
      · rename_i g1
        rw [hq] at g1
        ((try simp (disch := omega) only [q0, nc, w64_id, wu64_id, wu32_id, wu8_id, Int.tdiv_eq_ediv_of_nonneg, Int.tmod_eq_emod_of_nonneg, Int.ofNat_eq_natCast, Int.natAbs_natCast, decide_eq_true_eq, decide_eq_false_iff_not, Bool.not_eq_true', Bool.not_eq_false', bne_iff_ne, bne_eq_false_iff_eq, beq_iff_eq, beq_eq_false_iff_ne, ne_eq] at g1); (try replace g1 := of_decide_eq_true g1); (try replace g1 := of_decide_eq_false g1))
        rw [ek]
        have eS : S (k + 1) = S k := by rw [hS1, if_neg g1]
        refine hK _ ⟨_, ?_, (k : Int) + 1, b, x, y, ⟨by omega, by omega, rfl, ?_, ?_, ?_, ?_⟩, rfl⟩
        · omega
        · rw [show ((k : Int) + 1).toNat = k + 1 by omega, eS]; exact hB1 k _ (by omega) p3
        · rw [show ((k : Int) + 1).toNat = k + 1 by omega, eS]; exact p4
        · rw [show ((k : Int) + 1).toNat = k + 1 by omega, eS]; exact p5
        · rw [show ((k : Int) + 1).toNat = k + 1 by omega, eS]; exact p6
    · rename_i g0
      rw [hq] at g0
      ((try simp (disch := omega) only [q0, nc, w64_id, wu64_id, wu32_id, wu8_id, Int.tdiv_eq_ediv_of_nonneg, Int.tmod_eq_emod_of_nonneg, Int.ofNat_eq_natCast, Int.natAbs_natCast, decide_eq_true_eq, decide_eq_false_iff_not, Bool.not_eq_true', Bool.not_eq_false', bne_iff_ne, bne_eq_false_iff_eq, beq_iff_eq, beq_eq_false_iff_ne, ne_eq] at g0); (try replace g0 := of_decide_eq_true g0); (try replace g0 := of_decide_eq_false g0))
      have hk : k = n := by omega
      subst hk
      exact hR _ (VE.rat hq (by rw [p4]; subst hq; rfl) p5 p6)
end Sx

/- A part of the proof of PolyReadsSaid: texts SxAw1 SxAw2 SxAw3 SxChoose SxAw4. -/
import Derived.Test.YtlnpmgmpakjhgaaGreatSxBY
import Derived.Test.YtlnpmgmpakjhgaaGreatSxAV
import Derived.Test.YtlnpmgmpakjhgaaGreatSxBK
import Derived.Test.YtlnpmgmpakjhgaaGreatSxBU
import Derived.Test.YtlnpmgmpakjhgaaGreatSxBI
import Derived.Test.YtlnpmgmpakjhgaaGreatSxBS
set_option linter.all false
section
set_option maxRecDepth 100000
namespace Sx
open Go

abbrev N0 : T := .sl 0 0 (fun _ => [])
theorem aw_size : PureF Pg F.typing_size (fun _ => [.agg [.int .i64 1, .int .i64 0, N0], .one (.int .i64 201)]) (fun _ => .one (.int .i64 1)) := by
  refine walkF mixed tau_ok At.typing_size (fun CN DN q R hCN hDN hq hR => ?_)
  subst hq
  have fin : R (.one (.int .i64 1)) := hR _ .refl
  clear hR
  (conv => cbv)
  refine .un [1, 5, 9, 10, 11] 1 ?_
  (conv => cbv)
  exact fin
theorem aw_tvalid : PureF Pg F.typing_valid (fun _ => [.one N0, .agg [.int .i64 1, .int .i64 0, N0], .one (.int .i64 0)]) (fun _ => .one (.bool true)) := by
  refine walkF mixed tau_ok At.typing_valid (fun CN DN q R hCN hDN hq hR => ?_)
  subst hq
  have fin : R (.one (.bool true)) := hR _ .refl
  clear hR
  (conv => cbv)
  refine Need.mk (by (exact ⟨by kernel_rfl, by kernel_rfl⟩)) ?_
  refine call_ing mixed tau_ok At.slices_ContainsFunc_api_Type_api_Type rfl hCN rfl (fun DN hDN => ?_)
  (conv => cbv)
  refine call_ing mixed tau_ok At.slices_IndexFunc_api_Type_api_Type rfl hCN rfl (fun DN hDN => ?_)
  (conv => cbv)
  refine .un [0, 1, 6, 7, 8] 1 ?_
  (conv => cbv)
  exact fin
theorem aw_typeValid : PureF Pg F.typing_Valid (fun _ => [.one N0, .agg [.int .i64 1, .int .i64 0, N0], .one (.int .i64 0)]) (fun _ => .one (.bool true)) := by
  refine walkF mixed tau_ok At.typing_Valid (fun CN DN q R hCN hDN hq hR => ?_)
  subst hq
  have fin : R (.one (.bool true)) := hR _ .refl
  clear hR
  (conv => cbv)
  refine call_fn rfl hCN aw_size rfl ?_
  (conv => cbv)
  refine call_fn rfl hCN aw_tvalid rfl ?_
  (conv => cbv)
  exact fin
theorem aw_data : PureF Pg F.core_validData (fun _ => [.one N0]) (fun _ => .one (.bool true)) := by
  refine walkF mixed tau_ok At.core_validData (fun CN DN q R hCN hDN hq hR => ?_)
  subst hq
  have fin : R (.one (.bool true)) := hR _ .refl
  clear hR
  (conv => cbv)
  refine .un [17, 18, 19] 1 ?_
  (conv => cbv)
  exact fin
end Sx
end

section
set_option maxRecDepth 100000
namespace Sx
open Go

theorem aw_core : PureF Pg F.core_Valid (fun _ => [.agg [N0, N0, N0, N0]]) (fun _ => .one (.bool true)) := by
  refine walkF mixed tau_ok At.core_Valid (fun CN DN q R hCN hDN hq hR => ?_)
  subst hq
  have fin : R (.one (.bool true)) := hR _ .refl
  clear hR
  (conv => cbv)
  refine call_fn rfl hCN aw_data rfl ?_
  (conv => cbv)
  refine call_ing mixed tau_ok At.core_all_api_Type rfl hCN rfl (fun DN hDN => ?_)
  (conv => cbv)
  refine call_ing mixed tau_ok At.slices_ContainsFunc_api_Type_api_Type rfl hCN rfl (fun DN hDN => ?_)
  (conv => cbv)
  refine call_ing mixed tau_ok At.slices_IndexFunc_api_Type_api_Type rfl hCN rfl (fun DN hDN => ?_)
  (conv => cbv)
  refine .un [0, 1, 6, 7, 8] 1 ?_
  (conv => cbv)
  refine Need.mk (by (exact ⟨by kernel_rfl, by kernel_rfl⟩)) ?_
  refine Need.mk (by decide) ?_
  refine Need.mk (by decide) ?_
  refine Need.mk (by decide) ?_
  refine call_ing mixed tau_ok At.core_program_codes rfl hCN rfl (fun DN hDN => ?_)
  (conv => cbv)
  refine .un [0, 12, 13, 14] 1 ?_
  (conv => cbv)
  refine call_ing mixed tau_ok At.core_program_forest rfl hCN rfl (fun DN hDN => ?_)
  (conv => cbv)
  refine .un [0, 14, 15] 1 ?_
  (conv => cbv)
  refine .un [0, 35, 36, 37] 1 ?_
  (conv => cbv)
  refine .un [0, 64, 65, 66] 1 ?_
  (conv => cbv)
  refine call_ing mixed tau_ok At.core_program_bound rfl hCN rfl (fun DN hDN => ?_)
  (conv => cbv)
  refine Need.mk (by decide) ?_
  refine .un [0, 4, 22, 23, 24] 1 ?_
  (conv => cbv)
  refine .un [0, 4, 45, 46, 47] 1 ?_
  (conv => cbv)
  refine Need.mk (by (exact ⟨by kernel_rfl, by kernel_rfl⟩)) ?_
  refine call_ing mixed tau_ok At.core_program_scopes rfl hCN rfl (fun DN hDN => ?_)
  (conv => cbv)
  refine Need.mk (by decide) ?_
  refine .un [0, 22, 23, 24] 1 ?_
  (conv => cbv)
  refine .un [0, 46, 47, 48] 1 ?_
  (conv => cbv)
  refine .un [1, 3, 65, 66, 67] 1 ?_
  (conv => cbv)
  refine .un [1, 3, 76, 77, 78] 1 ?_
  (conv => cbv)
  exact fin
end Sx
end

section
set_option maxRecDepth 100000
namespace Sx
open Go

theorem aw_known : PureF Pg F.poly_known (fun _ => [.agg [N0, N0, .int .i64 1, .int .i64 0, N0]]) (fun _ => .one (.bool true)) := by
  refine walkF mixed tau_ok At.poly_known (fun CN DN q R hCN hDN hq hR => ?_)
  subst hq
  have fin : R (.one (.bool true)) := hR _ .refl
  clear hR
  (conv => cbv)
  refine call_fn rfl hCN aw_core rfl ?_
  (conv => cbv)
  refine call_fn rfl hCN aw_typeValid rfl ?_
  (conv => cbv)
  refine call_ing mixed tau_ok At.slices_ContainsFunc_api_Type_api_Type rfl hCN rfl (fun DN hDN => ?_)
  (conv => cbv)
  refine call_ing mixed tau_ok At.slices_IndexFunc_api_Type_api_Type rfl hCN rfl (fun DN hDN => ?_)
  (conv => cbv)
  refine .un [0, 1, 6, 7, 8] 1 ?_
  (conv => cbv)
  exact fin
theorem aw_small : PureF Pg F.linear_small (fun _ => [.one (.int .i64 3)]) (fun _ => .one (.bool true)) := by
  refine walkF mixed tau_ok At.linear_small (fun CN DN q R hCN hDN hq hR => ?_)
  subst hq
  have fin : R (.one (.bool true)) := hR _ .refl
  clear hR
  (conv => cbv)
  exact fin
theorem aw_lin : PureF Pg F.linear_Valid (fun _ => [.agg [.int .i64 3, N0]]) (fun _ => .one (.bool true)) := by
  refine walkF mixed tau_ok At.linear_Valid (fun CN DN q R hCN hDN hq hR => ?_)
  subst hq
  have fin : R (.one (.bool true)) := hR _ .refl
  clear hR
  (conv => cbv)
  refine call_fn rfl hCN aw_small rfl ?_
  (conv => cbv)
  refine .un [16, 17, 18] 1 ?_
  (conv => cbv)
  exact fin
theorem aw_ints : PureF Pg F.poly_integers (fun _ => [.agg [N0, N0, .int .i64 1, .int .i64 0, N0], .agg [.int .i64 3, N0]]) (fun _ => .one (.bool true)) := by
  refine walkF mixed tau_ok At.poly_integers (fun CN DN q R hCN hDN hq hR => ?_)
  subst hq
  have fin : R (.one (.bool true)) := hR _ .refl
  clear hR
  (conv => cbv)
  refine call_ing mixed tau_ok At.slices_ContainsFunc_api_LinTerm_api_LinTerm rfl hCN rfl (fun DN hDN => ?_)
  (conv => cbv)
  refine call_ing mixed tau_ok At.slices_IndexFunc_api_LinTerm_api_LinTerm rfl hCN rfl (fun DN hDN => ?_)
  (conv => cbv)
  refine .un [0, 1, 6, 7, 8] 1 ?_
  (conv => cbv)
  exact fin
theorem aw_degree : PureF Pg F.poly_degree (fun _ => [.agg [N0, N0, .int .i64 1, .int .i64 0, N0], .agg [N0, N0]]) (fun _ => .one (.int .i64 0)) := by
  refine walkF mixed tau_ok At.poly_degree (fun CN DN q R hCN hDN hq hR => ?_)
  subst hq
  have fin : R (.one (.int .i64 0)) := hR _ .refl
  clear hR
  (conv => cbv)
  refine .un [3, 5, 11, 12, 13] 1 ?_
  (conv => cbv)
  refine .un [5, 30, 31, 32] 1 ?_
  (conv => cbv)
  exact fin
theorem aw_canon : PureF Pg F.poly_canonical (fun _ => [.agg [N0, N0, .int .i64 1, .int .i64 0, N0], .agg [N0, N0]]) (fun _ => .one (.bool true)) := by
  refine walkF mixed tau_ok At.poly_canonical (fun CN DN q R hCN hDN hq hR => ?_)
  subst hq
  have fin : R (.one (.bool true)) := hR _ .refl
  clear hR
  (conv => cbv)
  refine .un [2, 3, 10, 11, 12] 1 ?_
  (conv => cbv)
  refine .un [2, 3, 52, 53, 54] 1 ?_
  (conv => cbv)
  refine call_fn rfl hCN aw_degree rfl ?_
  (conv => cbv)
  exact fin
theorem aw_valid_main (b : Bool) (X Y : T) (hs : PureF Pg F.rational_Sign (fun _ => [.agg [.bool b, X, Y]]) (fun _ => .one (.int .i64 1))) (hc : PureF Pg F.rational_Canonical (fun _ => [.agg [.bool b, X, Y]]) (fun _ => .agg [.bool b, X, Y]))
    (he : PureF Pg F.poly_same (fun _ => [.agg [.bool b, X, Y], .agg [.bool b, X, Y]]) (fun _ => .one (.bool true))) :
    PureF Pg F.poly_valid (fun _ => [.agg [N0, N0, .int .i64 1, .int .i64 0, N0], .one (.sl 5 1 (fun _ => [.bool b, X, Y, N0, N0]))]) (fun _ => .one (.bool true)) := by
  refine walkF mixed tau_ok At.poly_valid (fun CN DN q R hCN hDN hq hR => ?_)
  subst hq
  have fin : R (.one (.bool true)) := hR _ .refl
  clear hR
  (conv => cbv)
  refine .un [1, 2, 10, 11, 12] 2 ?_
  (conv => cbv)
  refine Need.mk (by decide) ?_
  refine Need.mk (by (exact ⟨by kernel_rfl, by kernel_rfl⟩)) ?_
  refine call_fd rfl hDN hs rfl ?_
  (conv => cbv)
  refine call_fd rfl hDN hc rfl ?_
  (conv => cbv)
  refine call_fd rfl hDN he rfl ?_
  (conv => cbv)
  refine call_fd rfl hDN aw_canon rfl ?_
  (conv => cbv)
  refine Need.mk (by (exact ⟨by kernel_rfl, by kernel_rfl⟩)) ?_
  exact fin
theorem aw_polyValid (b : Bool) (X Y : T) (hv : PureF Pg F.poly_valid (fun _ => [.agg [N0, N0, .int .i64 1, .int .i64 0, N0], .one (.sl 5 1 (fun _ => [.bool b, X, Y, N0, N0]))]) (fun _ => .one (.bool true))) :
    PureF Pg F.poly_Valid (fun _ => [.agg [N0, N0, .int .i64 1, .int .i64 0, N0], .one (.sl 5 1 (fun _ => [.bool b, X, Y, N0, N0]))]) (fun _ => .one (.bool true)) := by
  refine walkF mixed tau_ok At.poly_Valid (fun CN DN q R hCN hDN hq hR => ?_)
  subst hq
  have fin : R (.one (.bool true)) := hR _ .refl
  clear hR
  (conv => cbv)
  refine call_fn rfl hCN aw_known rfl ?_
  (conv => cbv)
  refine call_fn rfl hCN hv rfl ?_
  (conv => cbv)
  exact fin
end Sx
end

section
set_option maxRecDepth 100000
namespace Sx
open Go

theorem rsubL (a b : Rat) {k : Nat} (ha : rlen a ≤ k) (hb : rlen b ≤ k) (hk : k ≤ 9000000) : PureF Pg F.rational_Sub (fun q => [.agg (ratL q a), .agg (ratL q b)]) (fun q => .agg (ratL q (a - b))) := by
  have h := rsub_c (Raw.of a) (Raw.of b) ((Raw.of_ok a).le ha) ((Raw.of_ok b).le hb) hk
  rw [Raw.of_val, Raw.of_val] at h
  exact h
theorem rmulL (a b : Rat) {k : Nat} (ha : rlen a ≤ k) (hb : rlen b ≤ k) (hk : k ≤ 9000000) : PureF Pg F.rational_Mul (fun q => [.agg (ratL q a), .agg (ratL q b)]) (fun q => .agg (ratL q (a * b))) := by
  have h := rmul_c (Raw.of a) (Raw.of b) ((Raw.of_ok a).le ha) ((Raw.of_ok b).le hb) (by omega)
  rw [Raw.of_val, Raw.of_val] at h
  exact h
theorem rdivL (a b : Rat) {k : Nat} (ha : rlen a ≤ k) (hb : rlen b ≤ k) (hk : k ≤ 9000000) (h0 : b.num ≠ 0) : PureF Pg F.rational_Div (fun q => [.agg (ratL q a), .agg (ratL q b)]) (fun q => .tup [.agg (ratL q (a / b)), .one (.bool true)]) := by
  have h := rdiv_c (Raw.of a) (Raw.of b) ((Raw.of_ok a).le ha) ((Raw.of_ok b).le hb) (by omega) (by rw [Raw.of_val]; exact h0)
  rw [Raw.of_val, Raw.of_val] at h
  exact h
theorem rlen_int (z : Int) (h : z.natAbs ≤ 9223372036854775808) : rlen (z : Rat) ≤ 3 := by
  have h1 : Bs ^ 3 = 1000000000000000000000000000 := by decide
  unfold rlen
  rw [Rat.num_intCast, Rat.den_intCast]
  refine Nat.max_le.2 ⟨len_le (by rw [h1]; omega), len_le (by rw [h1]; omega)⟩
theorem rlen_sub (x y : Rat) : rlen (x - y) ≤ rlen x + rlen y + 1 := by
  rw [Rat.sub_eq_add_neg, ← rlen_neg y]
  exact rlen_add x (-y)

def chooseR (n : Int) : Nat → Rat
  | 0 => ((1 : Int) : Rat)
  | k + 1 => chooseR n k * ((n : Rat) - ((k : Int) : Rat)) / (((k : Int) + 1 : Int) : Rat)
theorem chooseR_len {n : Int} (hn : n.natAbs ≤ 9223372036854775808) : ∀ {k : Nat}, k ≤ 64 → rlen (chooseR n k) ≤ 3 + 10 * k
  | 0, _ => rlen_int 1 (by decide)
  | k + 1, h => by
    have h1 := chooseR_len hn (k := k) (by omega)
    have h2 := rlen_int n hn
    have h3 := rlen_int (k : Int) (by omega)
    have h4 := rlen_int ((k : Int) + 1) (by omega)
    have h5 := rlen_sub (n : Rat) ((k : Int) : Rat)
    have h6 := rlen_mul (chooseR n k) ((n : Rat) - ((k : Int) : Rat))
    have h7 := rlen_div (chooseR n k * ((n : Rat) - ((k : Int) : Rat))) (y := (((k : Int) + 1 : Int) : Rat)) (by rw [Rat.num_intCast]; omega)
    rw [chooseR]
    omega
theorem choose_c (n : Int) (h0 : -9223372036854775808 ≤ n) (h1 : n ≤ 9223372036854775807) (m : Nat) (hm : m ≤ 64) :
    PureF Pg F.binomial_choose (fun q => [.one (.int .i64 n), .one (.int .i64 (q Int fun _ => (m : Int)))]) (fun q => .agg (ratL q (chooseR n m))) := by
  refine walkF mixed tau_ok At.binomial_choose (fun CN DN q R hCN hDN hq hR => ?_)
  have hna : n.natAbs ≤ 9223372036854775808 := by omega
  obtain ⟨nI, hnI⟩ : ∃ nI, nI = q Int fun _ => (m : Int) := ⟨_, rfl⟩
  rw [← hnI]
  have hnI' : nI = m := by rw [hnI]; subst hq; rfl
  obtain ⟨S, hS⟩ : ∃ S : Nat → Rat, S = chooseR n := ⟨_, rfl⟩
  have hS0 : S 0 = ((1 : Int) : Rat) := by rw [hS]; rfl
  have hS1 : ∀ k : Nat, S (k + 1) = S k * ((n : Rat) - ((k : Int) : Rat)) / (((k : Int) + 1 : Int) : Rat) := fun k => by rw [hS]; rfl
  have hSl : ∀ k : Nat, k ≤ m → rlen (S k) ≤ 700 := fun k hk => by
    have := chooseR_len hna (k := k) (by omega)
    rw [hS]; omega
  rw [← hS] at hR
  clear hS
  (conv => cbv)
  refine call_fn hq hCN (fromInt_c 1 (by decide) (by decide)) rfl ?_
  obtain ⟨b, x, y, e0, hb, hx, hy⟩ := ratL_open q ((1 : Int) : Rat)
  rw [e0]
  (conv => cbv)
  refine LoopN.mk [0, 4, 5, 8, 9] (fun d σ => ∃ (k : Int) (b : Bool) (x y : Nat), (0 ≤ k ∧ k ≤ m ∧ d = ((m : Int) - k).toNat ∧ b = (q Bool fun _ => decide ((S k.toNat).num < 0)) ∧ x = (S k.toNat).num.natAbs ∧ y = (S k.toNat).den) ∧
    σ = ⟨mkS [(0, .one (.t (.int .i64 n))), (4, .one (.bp 1 0)), (5, .one (.bp 0 0)), (8, .one (.t (.int .i64 nI))), (9, .one (.t (.int .i64 k)))] 0 29,
      [.box 49 [.t (.bool b), .t (natT q x), .t (natT q y)], .box 49 [.ff, .nil, .nil]]⟩) ⟨m, 0, b, x, y, ⟨by omega, by omega, by omega, ?_, ?_, ?_⟩, ?_⟩ ?_
  · show b = (q Bool fun _ => decide ((S 0).num < 0)); rw [hS0]; exact hb
  · show x = (S 0).num.natAbs; rw [hS0]; exact hx
  · show y = (S 0).den; rw [hS0]; exact hy
  · cbv
  · rintro d σ ⟨k, b, x, y, ⟨p1, p2, rfl, p4, p5, p6⟩, rfl⟩ K hK
    (conv => cbv)
    obtain ⟨k, rfl⟩ := Int.eq_ofNat_of_zero_le p1
    rw [Int.toNat_natCast] at p4 p5 p6
    split
    · rename_i g0
      rw [hq] at g0
      ((try simp (disch := omega) only [q0, nc, w64_id, wu64_id, wu32_id, wu8_id, Int.tdiv_eq_ediv_of_nonneg, Int.tmod_eq_emod_of_nonneg, Int.ofNat_eq_natCast, Int.natAbs_natCast, decide_eq_true_eq, decide_eq_false_iff_not, Bool.not_eq_true', Bool.not_eq_false', bne_iff_ne, bne_eq_false_iff_eq, beq_iff_eq, beq_eq_false_iff_ne, ne_eq] at g0); (try replace g0 := of_decide_eq_true g0); (try replace g0 := of_decide_eq_false g0))
      refine Need.mk (by (exact ⟨by kernel_rfl, by kernel_rfl⟩)) ?_
      try simp only [nc, Int.ofNat_eq_natCast]
      have l1 := rlen_int n hna
      have l2 := rlen_int (k : Int) (by omega)
      have l3 := rlen_int ((k : Int) + 1) (by omega)
      have l4 := hSl k (by omega)
      have eS : ratL q (S k) = [.bool b, natT q x, natT q y] := by rw [p4, p5, p6]; rfl
      refine call_fd hq hDN (fromInt_c n h0 h1) rfl ?_
      obtain ⟨b1, x1, y1, e1, hb1, hx1, hy1⟩ := ratL_open q (n : Rat)
      rw [e1]
      (conv => cbv)
      refine call_fd hq hDN (fromInt_c (k : Int) (by omega) (by omega)) rfl ?_
      obtain ⟨b2, x2, y2, e2, hb2, hx2, hy2⟩ := ratL_open q ((k : Int) : Rat)
      rw [e2]
      (conv => cbv)
      refine call_fd hq hDN (rsubL (n : Rat) ((k : Int) : Rat) l1 l2 (by omega)) (by rw [e1, e2]; rfl) ?_
      have l5 := rlen_sub (n : Rat) ((k : Int) : Rat)
      obtain ⟨b3, x3, y3, e3, hb3, hx3, hy3⟩ := ratL_open q ((n : Rat) - ((k : Int) : Rat))
      rw [e3]
      (conv => cbv)
      refine call_fd hq hDN (rmulL (S k) ((n : Rat) - ((k : Int) : Rat)) (k := 1000) (by omega) (by omega) (by omega)) (by rw [eS, e3]; rfl) ?_
      have l6 := rlen_mul (S k) ((n : Rat) - ((k : Int) : Rat))
      obtain ⟨b4, x4, y4, e4, hb4, hx4, hy4⟩ := ratL_open q (S k * ((n : Rat) - ((k : Int) : Rat)))
      rw [e4]
      (conv => cbv)
      refine Need.mk (by (exact ⟨by kernel_rfl, by kernel_rfl⟩)) ?_
      have ek : (q Int fun _ => IntKind.i64.wrap ((k : Int) + 1)) = k + 1 := by subst hq; (try simp (disch := omega) only [q0, nc, w64_id, wu64_id, wu32_id, wu8_id, Int.tdiv_eq_ediv_of_nonneg, Int.tmod_eq_emod_of_nonneg, Int.ofNat_eq_natCast, Int.natAbs_natCast, decide_eq_true_eq, decide_eq_false_iff_not, Bool.not_eq_true', bne_iff_ne, beq_iff_eq, ne_eq])
      try simp only [nc, Int.ofNat_eq_natCast]
      try rw [ek]
      refine call_fd hq hDN (fromInt_c ((k : Int) + 1) (by omega) (by omega)) rfl ?_
      obtain ⟨b5, x5, y5, e5, hb5, hx5, hy5⟩ := ratL_open q (((k : Int) + 1 : Int) : Rat)
      rw [e5]
      (conv => cbv)
      refine call_fd hq hDN (rdivL (S k * ((n : Rat) - ((k : Int) : Rat))) (((k : Int) + 1 : Int) : Rat) (k := 1000) (by omega) (by omega) (by omega) (by rw [Rat.num_intCast]; omega)) (by rw [e4, e5]; rfl) ?_
      obtain ⟨b6, x6, y6, e6, hb6, hx6, hy6⟩ := ratL_open q (S k * ((n : Rat) - ((k : Int) : Rat)) / (((k : Int) + 1 : Int) : Rat))
      rw [e6]
      rw [← hS1] at hb6 hx6 hy6
      (conv => cbv)
      try simp only [nc, Int.ofNat_eq_natCast]
      try rw [ek]
      refine hK _ ⟨_, ?_, (k : Int) + 1, b6, x6, y6, ⟨by omega, by omega, rfl, ?_, ?_, ?_⟩, rfl⟩
      · omega
      · rw [show ((k : Int) + 1).toNat = k + 1 by omega]; exact hb6
      · rw [show ((k : Int) + 1).toNat = k + 1 by omega]; exact hx6
      · rw [show ((k : Int) + 1).toNat = k + 1 by omega]; exact hy6
    · rename_i g0
      rw [hq] at g0
      ((try simp (disch := omega) only [q0, nc, w64_id, wu64_id, wu32_id, wu8_id, Int.tdiv_eq_ediv_of_nonneg, Int.tmod_eq_emod_of_nonneg, Int.ofNat_eq_natCast, Int.natAbs_natCast, decide_eq_true_eq, decide_eq_false_iff_not, Bool.not_eq_true', Bool.not_eq_false', bne_iff_ne, bne_eq_false_iff_eq, beq_iff_eq, beq_eq_false_iff_ne, ne_eq] at g0); (try replace g0 := of_decide_eq_true g0); (try replace g0 := of_decide_eq_false g0))
      have hk : k = m := by omega
      subst hk
      exact hR _ (VE.rat hq (by rw [p4]; subst hq; rfl) p5 p6)
theorem choose3 : chooseR 3 2 = ((3 : Int) : Rat) := by
  unfold chooseR chooseR chooseR
  decide +kernel
end Sx
end

section
set_option maxRecDepth 100000
namespace Sx
open Go

theorem equal_c (x : Nat) (hx : len x ≤ 100000000) : PureF Pg F.slices_Equal_uint32_uint32 (fun q => [.one (natT q x), .one (natT q x)]) (fun _ => .one (.bool true)) := by
  refine walkF mixed tau_ok At.slices_Equal_uint32_uint32 (fun CN DN q R hCN hDN hq hR => ?_)
  (conv => cbv)
  split
  · rename_i g0
    rw [hq] at g0
    ((try simp (disch := omega) only [q0, nc, w64_id, wu64_id, wu32_id, wu8_id, Int.tdiv_eq_ediv_of_nonneg, Int.tmod_eq_emod_of_nonneg, Int.ofNat_eq_natCast, Int.natAbs_natCast, decide_eq_true_eq, decide_eq_false_iff_not, Bool.not_eq_true', Bool.not_eq_false', bne_iff_ne, bne_eq_false_iff_eq, beq_iff_eq, beq_eq_false_iff_ne, ne_eq] at g0); (try replace g0 := of_decide_eq_true g0); (try replace g0 := of_decide_eq_false g0))
    exact absurd trivial g0
  · rename_i g0
    refine LoopN.mk [0, 1, 12, 13] (fun d σ => ∃ k : Int, (0 ≤ k ∧ k ≤ len x ∧ d = ((len x : Int) - k).toNat) ∧
      σ = ⟨mkS [(0, .one (.t (natT q x))), (1, .one (.t (natT q x))), (12, .one (.t (.int .i64 (q Int fun _ => (len x : Int))))), (13, .one (.t (.int .i64 k)))] 0 26, []⟩) ⟨len x, 0, ⟨by omega, by omega, by omega⟩, ?_⟩ ?_
    · cbv
    · rintro d σ ⟨k, ⟨h1, h2, rfl⟩, rfl⟩ K hK
      (conv => cbv)
      obtain ⟨k, rfl⟩ := Int.eq_ofNat_of_zero_le h1
      try simp only [nc, Int.ofNat_eq_natCast]
      split
      · rename_i g1
        rw [hq] at g1
        ((try simp (disch := omega) only [q0, nc, w64_id, wu64_id, wu32_id, wu8_id, Int.tdiv_eq_ediv_of_nonneg, Int.tmod_eq_emod_of_nonneg, Int.ofNat_eq_natCast, Int.natAbs_natCast, decide_eq_true_eq, decide_eq_false_iff_not, Bool.not_eq_true', Bool.not_eq_false', bne_iff_ne, bne_eq_false_iff_eq, beq_iff_eq, beq_eq_false_iff_ne, ne_eq] at g1); (try replace g1 := of_decide_eq_true g1); (try replace g1 := of_decide_eq_false g1))
        refine Need.mk (by (exact ⟨by kernel_rfl, by kernel_rfl⟩)) (Need.mk (by subst hq; (try simp (disch := omega) only [q0, nc, w64_id, wu64_id, wu32_id, wu8_id, Int.tdiv_eq_ediv_of_nonneg, Int.tmod_eq_emod_of_nonneg, Int.ofNat_eq_natCast, Int.natAbs_natCast, decide_eq_true_eq, decide_eq_false_iff_not, Bool.not_eq_true', bne_iff_ne, beq_iff_eq, ne_eq]); omega) (Need.mk (by subst hq; (try simp (disch := omega) only [q0, nc, w64_id, wu64_id, wu32_id, wu8_id, Int.tdiv_eq_ediv_of_nonneg, Int.tmod_eq_emod_of_nonneg, Int.ofNat_eq_natCast, Int.natAbs_natCast, decide_eq_true_eq, decide_eq_false_iff_not, Bool.not_eq_true', bne_iff_ne, beq_iff_eq, ne_eq]); omega) ?_))
        split
        · rename_i g2
          rw [hq] at g2
          ((try simp (disch := omega) only [q0, nc, w64_id, wu64_id, wu32_id, wu8_id, Int.tdiv_eq_ediv_of_nonneg, Int.tmod_eq_emod_of_nonneg, Int.ofNat_eq_natCast, Int.natAbs_natCast, decide_eq_true_eq, decide_eq_false_iff_not, Bool.not_eq_true', Bool.not_eq_false', bne_iff_ne, bne_eq_false_iff_eq, beq_iff_eq, beq_eq_false_iff_ne, ne_eq] at g2); (try replace g2 := of_decide_eq_true g2); (try replace g2 := of_decide_eq_false g2))
          exact absurd trivial g2
        · have ek : (q Int fun _ => IntKind.i64.wrap ((k : Int) + 1)) = k + 1 := by subst hq; (try simp (disch := omega) only [q0, nc, w64_id, wu64_id, wu32_id, wu8_id, Int.tdiv_eq_ediv_of_nonneg, Int.tmod_eq_emod_of_nonneg, Int.ofNat_eq_natCast, Int.natAbs_natCast, decide_eq_true_eq, decide_eq_false_iff_not, Bool.not_eq_true', bne_iff_ne, beq_iff_eq, ne_eq])
          rw [ek]
          exact hK _ ⟨_, by omega, (k : Int) + 1, ⟨by omega, by omega, rfl⟩, rfl⟩
      · exact hR _ .refl
theorem same_c (r : Rat) (hr : rlen r ≤ 100000000) : PureF Pg F.poly_same (fun q => [.agg (ratL q r), .agg (ratL q r)]) (fun _ => .one (.bool true)) := by
  refine walkF mixed tau_ok At.poly_same (fun CN DN q R hCN hDN hq hR => ?_)
  obtain ⟨b, x, y, e, hb, hx, hy⟩ := ratL_open q r
  rw [e]
  have lx : len x ≤ 100000000 := by rw [hx]; exact Nat.le_trans (Nat.le_max_left _ _) hr
  have ly : len y ≤ 100000000 := by rw [hy]; exact Nat.le_trans (Nat.le_max_right _ _) hr
  clear e hb hx hy
  (conv => cbv)
  split
  · refine call_fn hq hCN (equal_c x lx) rfl ?_
    (conv => cbv)
    refine call_fn hq hCN (equal_c y ly) rfl ?_
    (conv => cbv)
    exact hR _ .refl
  · rename_i g0
    rw [hq] at g0
    simp [q0] at g0

def r3 : Rat := ((3 : Int) : Rat)
theorem r3_len : rlen r3 ≤ 3 := rlen_int 3 (by decide)
theorem r3_num : r3.num = 3 := Rat.num_intCast 3
theorem aw_choose (b : Bool) (X Y : T) (hc : PureF Pg F.binomial_choose (fun _ => [.one (.int .i64 3), .one (.int .i64 2)]) (fun _ => .agg [.bool b, X, Y])) :
    PureF Pg F.binomial_Choose (fun _ => [.one (.int .i64 3), .one (.int .i64 2)]) (fun _ => .tup [.agg [.bool b, X, Y], .one (.bool true)]) := by
  refine walkF mixed tau_ok At.binomial_Choose (fun CN DN q R hCN hDN hq hR => ?_)
  subst hq
  have fin : R (.tup [.agg [.bool b, X, Y], .one (.bool true)]) := hR _ .refl
  clear hR
  (conv => cbv)
  refine call_fn rfl hCN hc rfl ?_
  (conv => cbv)
  exact fin
theorem aw_number (b : Bool) (X Y : T) (hs : PureF Pg F.rational_Sign (fun _ => [.agg [.bool b, X, Y]]) (fun _ => .one (.int .i64 1))) (hc : PureF Pg F.rational_Canonical (fun _ => [.agg [.bool b, X, Y]]) (fun _ => .agg [.bool b, X, Y])) :
    PureF Pg F.poly_number (fun _ => [.agg [.bool b, X, Y]]) (fun _ => .one (.sl 5 1 (fun _ => [.bool b, X, Y, N0, N0]))) := by
  refine walkF mixed tau_ok At.poly_number (fun CN DN q R hCN hDN hq hR => ?_)
  subst hq
  (conv => cbv)
  refine call_fn rfl hCN hs rfl ?_
  (conv => cbv)
  refine call_fn rfl hCN hc rfl ?_
  (conv => cbv)
  refine hR _ (.one (TE.ext rfl (fun i hi => ?_)))
  have h0 : i = 0 := by have h1 : (i : Int) < 1 := hi; omega
  subst h0
  rfl
theorem aw_atom (b : Bool) (X Y : T) (hc : PureF Pg F.binomial_Choose (fun _ => [.one (.int .i64 3), .one (.int .i64 2)]) (fun _ => .tup [.agg [.bool b, X, Y], .one (.bool true)]))
    (hn : PureF Pg F.poly_number (fun _ => [.agg [.bool b, X, Y]]) (fun _ => .one (.sl 5 1 (fun _ => [.bool b, X, Y, N0, N0])))) :
    PureF Pg F.poly_atom (fun _ => [.agg [.int .i64 3, N0], .one (.int .i64 2)]) (fun _ => .one (.sl 5 1 (fun _ => [.bool b, X, Y, N0, N0]))) := by
  refine walkF mixed tau_ok At.poly_atom (fun CN DN q R hCN hDN hq hR => ?_)
  subst hq
  have fin : R (.one (.sl 5 1 (fun _ => [.bool b, X, Y, N0, N0]))) := hR _ .refl
  clear hR
  (conv => cbv)
  refine call_fn rfl hCN hc rfl ?_
  (conv => cbv)
  refine call_fn rfl hCN hn rfl ?_
  (conv => cbv)
  exact fin
theorem aw_Atom (b : Bool) (X Y : T) (ha : PureF Pg F.poly_atom (fun _ => [.agg [.int .i64 3, N0], .one (.int .i64 2)]) (fun _ => .one (.sl 5 1 (fun _ => [.bool b, X, Y, N0, N0])))) :
    PureF Pg F.poly_Atom (fun _ => [.agg [N0, N0, .int .i64 1, .int .i64 0, N0], .agg [.int .i64 3, N0], .one (.int .i64 2)]) (fun _ => .tup [.one (.sl 5 1 (fun _ => [.bool b, X, Y, N0, N0])), .one (.int .i64 0)]) := by
  refine walkF mixed tau_ok At.poly_Atom (fun CN DN q R hCN hDN hq hR => ?_)
  subst hq
  have fin : R (.tup [.one (.sl 5 1 (fun _ => [.bool b, X, Y, N0, N0])), .one (.int .i64 0)]) := hR _ .refl
  clear hR
  (conv => cbv)
  refine call_fn rfl hCN aw_known rfl ?_
  (conv => cbv)
  refine call_fn rfl hCN aw_lin rfl ?_
  (conv => cbv)
  refine call_fn rfl hCN aw_ints rfl ?_
  (conv => cbv)
  refine call_fn rfl hCN ha rfl ?_
  (conv => cbv)
  exact fin
theorem aw_main (b : Bool) (X Y : T) (ha : PureF Pg F.poly_Atom (fun _ => [.agg [N0, N0, .int .i64 1, .int .i64 0, N0], .agg [.int .i64 3, N0], .one (.int .i64 2)]) (fun _ => .tup [.one (.sl 5 1 (fun _ => [.bool b, X, Y, N0, N0])), .one (.int .i64 0)]))
    (hf : PureF Pg F.amortcostref1_FromInt (fun _ => [.one (.int .i64 3)]) (fun _ => .agg [.bool b, X, Y]))
    (hs : PureF Pg F.amortcostkeep_SameRat (fun _ => [.agg [.bool b, X, Y], .agg [.bool b, X, Y]]) (fun _ => .one (.bool true)))
    (hv : PureF Pg F.poly_Valid (fun _ => [.agg [N0, N0, .int .i64 1, .int .i64 0, N0], .one (.sl 5 1 (fun _ => [.bool b, X, Y, N0, N0]))]) (fun _ => .one (.bool true))) :
    PureF Pg F.amortcostlaw20_awake (fun _ => []) (fun _ => .one (.bool true)) := by
  refine walkF mixed tau_ok At.amortcostlaw20_awake (fun CN DN q R hCN hDN hq hR => ?_)
  subst hq
  have fin : R (.one (.bool true)) := hR _ .refl
  clear hR
  (conv => cbv)
  refine call_fn rfl hCN ha rfl ?_
  (conv => cbv)
  refine Need.mk (by (exact ⟨by kernel_rfl, by kernel_rfl⟩)) ?_
  refine Need.mk (by decide) ?_
  refine call_fd rfl hDN hf rfl ?_
  (conv => cbv)
  refine call_fd rfl hDN hs rfl ?_
  (conv => cbv)
  refine call_fd rfl hDN hv rfl ?_
  (conv => cbv)
  exact fin
theorem awake_c : PureF Pg F.amortcostlaw20_awake (fun _ => []) (fun _ => .one (.bool true)) := by
  have hok := (Raw.of_ok r3).le r3_len
  have hsg : sgnI r3 = 1 := by unfold sgnI; rw [r3_num]; rfl
  have hs := rsign_c (Raw.of r3) hok (by decide)
  rw [Raw.of_val, hsg] at hs
  have hc := canon_c (Raw.of r3) hok (by decide)
  rw [Raw.of_val] at hc
  have hch := choose_c 3 (by decide) (by decide) 2 (by decide)
  rw [choose3] at hch
  have hsm := sameRat_c r3 (Nat.le_trans r3_len (by decide))
  have he := same_c r3 (Nat.le_trans r3_len (by decide))
  have hf := rfromInt_c 3 (by decide) (by decide)
  exact aw_main _ _ _ (aw_Atom _ _ _ (aw_atom _ _ _ (aw_choose _ _ _ hch) (aw_number _ _ _ hs hc))) hf hsm (aw_polyValid _ _ _ (aw_valid_main _ _ _ hs hc he))
end Sx
end

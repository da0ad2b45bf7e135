/- A part of the proof of PolyReadsSaid: texts SxPR2 SxRat13. -/
import Derived.Test.YtlnpmgmpakjhgaaGreatSxBX
import Derived.Test.YtlnpmgmpakjhgaaGreatSxBT
import Derived.Test.YtlnpmgmpakjhgaaGreatSxBH
set_option linter.all false
section
set_option maxRecDepth 100000
namespace Sx
open Go

structure Mon.Small (m : Mon) : Prop where
  nf : m.nf ≤ 8
  na : m.na ≤ 8
  nl : ∀ i : Nat, i < m.na → (m.am i).lin.n ≤ 70
structure Trm.Small (t : Trm) : Prop where
  mono : t.mono.Small
  n : t.coef.n ≤ 8
  m : t.coef.m ≤ 8
theorem keepMono_c (m : Mon) (h : m.Ok) : PureC Pg F.amortcostkeep_Mono [.agg m.L] (fun x => ∃ b, x = .one (.bool b) ∧ (b = true → m.Small)) :=
  (kmono_main m.nf m.na h.nf h.na (fun i => .int .i64 (m.fc i).var) (fun i => .int .i64 (m.fc i).ix.num) (fun i => (m.fc i).ix.T) (fun i => (m.am i).lin.const) (fun i => (m.am i).lin.n) (fun i j => ((m.am i).lin.tm j).L) (fun i => .int .i64 (m.am i).deg)
    (fun i hi => index_c (m.fc i).ix (h.fc i hi))).mono (fun x ⟨b, e, hb⟩ => ⟨b, e, fun hbb => ⟨(hb hbb).1, (hb hbb).2.1, (hb hbb).2.2⟩⟩)
theorem keepTerms_c (n : Nat) (hn : n ≤ lenB) (G : Int → Trm) (hG : ∀ i : Nat, i < n → (G i).Ok) :
    PureC Pg F.amortcostkeep_Terms [.one (.sl 5 n (fun i => (G i).L)), .one (.int .i64 10)] (fun x => ∃ b, x = .one (.bool b) ∧ (b = true → n ≤ 10 ∧ ∀ i : Nat, i < n → (G i).Small)) :=
  (kterms_main n hn (fun i => .bool (G i).coef.neg) (fun i => rowN q0 (G i).coef.n (G i).coef.V) (fun i => rowN q0 (G i).coef.m (G i).coef.W)
    (fun i => .sl 3 (G i).mono.nf (fun j => ((G i).mono.fc j).L)) (fun i => .sl 3 (G i).mono.na (fun j => ((G i).mono.am j).L))
    (fun i => (G i).mono.Small) (fun i => (G i).coef.n ≤ 8 ∧ (G i).coef.m ≤ 8) (fun i hi => keepMono_c (G i).mono (hG i hi).mono) (fun i hi => krat_c _ _ _ _ _)).mono
    (fun x ⟨b, e, hb⟩ => ⟨b, e, fun hbb => ⟨(hb hbb).1, fun i hi => ⟨((hb hbb).2 i hi).1, ((hb hbb).2 i hi).2.1, ((hb hbb).2 i hi).2.2⟩⟩⟩)
theorem rl2_len {nl : Int → Nat} {lv : Int → Int → Int} : ∀ {k : Nat}, (∀ i : Nat, i < k → nl i ≤ 70) → (rl2 nl lv k).length ≤ k * 70
  | 0, _ => by simp [rl2]
  | k + 1, h => by
    have h1 := rl2_len (nl := nl) (lv := lv) (k := k) (fun i hi => h i (by omega))
    have h2 := h k (by omega)
    simp only [rl2, List.length_append, rl_len]
    omega
theorem rl3_len {nf na : Int → Nat} {nl : Int → Int → Nat} {fv : Int → Int → Int} {lv : Int → Int → Int → Int} : ∀ {k : Nat}, (∀ i : Nat, i < k → nf i ≤ 8 ∧ na i ≤ 8 ∧ ∀ j : Nat, j < na i → nl i j ≤ 70) → (rl3 nf na nl fv lv k).length ≤ k * 568
  | 0, _ => by simp [rl3]
  | k + 1, h => by
    have h1 := rl3_len (nf := nf) (na := na) (nl := nl) (fv := fv) (lv := lv) (k := k) (fun i hi => h i (by omega))
    obtain ⟨h2, h3, h4⟩ := h k (by omega)
    have h5 := rl2_len (nl := nl k) (lv := lv k) (k := na k) h4
    simp only [rl3, List.length_append, rl_len]
    omega
theorem readsOk (n : Nat) (hn : n ≤ 10) (G : Int → Trm) (hG : ∀ i : Nat, i < n → (G i).Ok) (hS : ∀ i : Nat, i < n → (G i).Small) (m : Mon) (hm : m.Ok) (v : Int) :
    ∃ r b1 b2 l, ReadsOk n (fun i => (G i).L) (.sl 3 m.nf (fun i => (m.fc i).L)) (.sl 3 m.na (fun i => (m.am i).L)) v r b1 b2 l := by
  have hc : ∀ i : Nat, i < n → (G i).coef.Ok 8 := fun i hi => (hG i hi).coef 8 (hS i hi).n (hS i hi).m
  have hsz : ∀ i : Nat, i < n → (G i).mono.nf ≤ 8 ∧ (G i).mono.na ≤ 8 ∧ ∀ j : Nat, j < (G i).mono.na → ((G i).mono.am j).lin.n ≤ 70 := fun i hi => ⟨(hS i hi).mono.nf, (hS i hi).mono.na, (hS i hi).mono.nl⟩
  have hB1 : ∀ (i : Nat) (r : Rat), i < n → rlen r ≤ 1 + 10 * i → rlen r ≤ 1 + 10 * (i + 1) := fun i r _ h => by omega
  have hB2 : ∀ (i : Nat) (r : Rat), i < n → rlen r ≤ 1 + 10 * i → rlen (r + (G i).coef.val) ≤ 1 + 10 * (i + 1) := fun i r hi h => by
    have h1 := rlen_add r (G i).coef.val
    have h2 := rlen_raw (hc i hi)
    omega
  have hB0 : rlen 0 ≤ 1 + 10 * 0 := by rw [rlen_zero]; decide
  have hrl := rl3_len (nf := fun i => (G i).mono.nf) (na := fun i => (G i).mono.na) (nl := fun i j => ((G i).mono.am j).lin.n) (fv := fun i j => ((G i).mono.fc j).var) (lv := fun i j l => (((G i).mono.am j).lin.tm l).var) (k := n) hsz
  have hil := insAll_len (rl3 (fun i => (G i).mono.nf) (fun i => (G i).mono.na) (fun i j => ((G i).mono.am j).lin.n) (fun i j => ((G i).mono.fc j).var) (fun i j l => (((G i).mono.am j).lin.tm l).var) n) []
  refine ⟨coefS (fun i => cmpMon (G i).mono m) (fun i => (G i).coef.val) n, !anyB (fun i => decide (sgnI (G i).coef.val < 0)) n, anyB (fun i => anyB (fun j => ((G i).mono.fc j).var == v) (G i).mono.nf || anyB (fun j => anyB (fun l => (((G i).mono.am j).lin.tm l).var == v) ((G i).mono.am j).lin.n) (G i).mono.na) n, insAll [] (rl3 (fun i => (G i).mono.nf) (fun i => (G i).mono.na) (fun i j => ((G i).mono.am j).lin.n) (fun i j => ((G i).mono.fc j).var) (fun i j l => (((G i).mono.am j).lin.tm l).var) n), ?_, ?_, ?_, ?_, ?_, ?_, ?_, ?_, ?_, ?_⟩
  · exact coef_main n (by omega) (fun i r => rlen r ≤ 1 + 10 * i) (fun i => (G i).coef.neg) (fun i => rowN q0 (G i).coef.n (G i).coef.V) (fun i => rowN q0 (G i).coef.m (G i).coef.W)
      (fun i => .sl 3 (G i).mono.nf (fun j => ((G i).mono.fc j).L)) (fun i => .sl 3 (G i).mono.na (fun j => ((G i).mono.am j).L)) _ _ (fun i => cmpMon (G i).mono m) (fun i => (G i).coef.val)
      (fun i hi => monCmp_c (G i).mono m (hG i hi).mono hm) hB0 (fun i r hi h => addr_c r (G i).coef (k := 200) (by omega) ((hc i hi).le (by omega)) (by omega)) hB1 hB2
  · exact refCoef_main n (by omega) (fun i r => rlen r ≤ 1 + 10 * i) (fun i => (G i).coef.neg) (fun i => rowN q0 (G i).coef.n (G i).coef.V) (fun i => rowN q0 (G i).coef.m (G i).coef.W)
      (fun i => .sl 3 (G i).mono.nf (fun j => ((G i).mono.fc j).L)) (fun i => .sl 3 (G i).mono.na (fun j => ((G i).mono.am j).L)) _ _ (fun i => cmpMon (G i).mono m) (fun i => (G i).coef.val)
      (fun i hi => refMon_c (G i).mono m (hG i hi).mono hm) hB0 (fun i r hi h => refAddr_c r (G i).coef (k := 200) (by omega) ((hc i hi).le (by omega)) (by omega)) hB1 hB2
  · have := coefS_len (e := fun i => cmpMon (G i).mono m) (c := fun i => (G i).coef.val) (b := 9) (k := n) (fun i hi => rlen_raw (hc i hi))
    omega
  · exact nn_main n (Nat.le_trans hn (by decide)) (fun i => (G i).coef.neg) (fun i => rowN q0 (G i).coef.n (G i).coef.V) (fun i => rowN q0 (G i).coef.m (G i).coef.W)
      (fun i => .sl 3 (G i).mono.nf (fun j => ((G i).mono.fc j).L)) (fun i => .sl 3 (G i).mono.na (fun j => ((G i).mono.am j).L)) (fun i => sgnI (G i).coef.val) (fun i hi => rsign_c (G i).coef (hc i hi) (by omega))
  · exact refNn_main n (Nat.le_trans hn (by decide)) (fun i => (G i).coef.neg) (fun i => rowN q0 (G i).coef.n (G i).coef.V) (fun i => rowN q0 (G i).coef.m (G i).coef.W)
      (fun i => .sl 3 (G i).mono.nf (fun j => ((G i).mono.fc j).L)) (fun i => .sl 3 (G i).mono.na (fun j => ((G i).mono.am j).L)) (fun i => sgnI (G i).coef.val) (fun i hi => refSign_c (G i).coef (hc i hi) (by omega))
  · exact ment_main n (Nat.le_trans hn (by decide)) v (fun i => .bool (G i).coef.neg) (fun i => rowN q0 (G i).coef.n (G i).coef.V) (fun i => rowN q0 (G i).coef.m (G i).coef.W)
      (fun i => (G i).mono.nf) (fun i => (G i).mono.na) (fun i j => ((G i).mono.am j).lin.n) (fun i j => ((G i).mono.fc j).var) (fun i j => .int .i64 ((G i).mono.fc j).ix.num) (fun i j => ((G i).mono.fc j).ix.T) (fun i j => .int .i64 ((G i).mono.am j).lin.const) (fun i j => .int .i64 ((G i).mono.am j).deg) (fun i j l => (((G i).mono.am j).lin.tm l).var) (fun i j l => .int .i64 (((G i).mono.am j).lin.tm l).coef)
      (fun i hi => (hG i hi).mono.nf) (fun i hi => (hG i hi).mono.na) (fun i j hi hj => (hG i hi).mono.am j hj)
  · exact refMent_main n (Nat.le_trans hn (by decide)) v (fun i => .bool (G i).coef.neg) (fun i => rowN q0 (G i).coef.n (G i).coef.V) (fun i => rowN q0 (G i).coef.m (G i).coef.W)
      (fun i => (G i).mono.nf) (fun i => (G i).mono.na) (fun i j => ((G i).mono.am j).lin.n) (fun i j => ((G i).mono.fc j).var) (fun i j => .int .i64 ((G i).mono.fc j).ix.num) (fun i j => ((G i).mono.fc j).ix.T) (fun i j => .int .i64 ((G i).mono.am j).lin.const) (fun i j => .int .i64 ((G i).mono.am j).deg) (fun i j l => (((G i).mono.am j).lin.tm l).var) (fun i j l => .int .i64 (((G i).mono.am j).lin.tm l).coef)
      (fun i hi => (hG i hi).mono.nf) (fun i hi => (hG i hi).mono.na) (fun i j hi hj => (hG i hi).mono.am j hj)
  · exact vars_main n (by omega) (fun i => .bool (G i).coef.neg) (fun i => rowN q0 (G i).coef.n (G i).coef.V) (fun i => rowN q0 (G i).coef.m (G i).coef.W)
      (fun i => (G i).mono.nf) (fun i => (G i).mono.na) (fun i j => ((G i).mono.am j).lin.n) (fun i j => ((G i).mono.fc j).var) (fun i j => .int .i64 ((G i).mono.fc j).ix.num) (fun i j => ((G i).mono.fc j).ix.T) (fun i j => .int .i64 ((G i).mono.am j).lin.const) (fun i j => .int .i64 ((G i).mono.am j).deg) (fun i j l => (((G i).mono.am j).lin.tm l).var) (fun i j l => .int .i64 (((G i).mono.am j).lin.tm l).coef)
      (fun i hi => by have := (hsz i hi).1; omega) (fun i hi => by have := (hsz i hi).2.1; omega) (fun i j hi hj => by have := (hsz i hi).2.2 j hj; omega) (by omega)
  · exact refVars_main n (by omega) (fun i => .bool (G i).coef.neg) (fun i => rowN q0 (G i).coef.n (G i).coef.V) (fun i => rowN q0 (G i).coef.m (G i).coef.W)
      (fun i => (G i).mono.nf) (fun i => (G i).mono.na) (fun i j => ((G i).mono.am j).lin.n) (fun i j => ((G i).mono.fc j).var) (fun i j => .int .i64 ((G i).mono.fc j).ix.num) (fun i j => ((G i).mono.fc j).ix.T) (fun i j => .int .i64 ((G i).mono.am j).lin.const) (fun i j => .int .i64 ((G i).mono.am j).deg) (fun i j l => (((G i).mono.am j).lin.tm l).var) (fun i j l => .int .i64 (((G i).mono.am j).lin.tm l).coef)
      (fun i hi => by have := (hsz i hi).1; omega) (fun i hi => by have := (hsz i hi).2.1; omega) (fun i j hi hj => by have := (hsz i hi).2.2 j hj; omega) (by omega)
  · simp only [List.length_nil] at hil
    exact Nat.le_trans (show _ ≤ 5680 by omega) (by decide)
theorem reads_c (hA : PureF Pg F.amortcostlaw20_awake (fun _ => []) (fun _ => .one (.bool true))) (n : Nat) (hn : n ≤ lenB) (G : Int → Trm) (hG : ∀ i : Nat, i < n → (G i).Ok) (m : Mon) (hm : m.Ok) (v : Int) :
    PureF Pg F.amortcostlaw20_PolyReads (fun q => [.one (.sl 5 (q Int fun _ => (n : Int)) (fun i => (G i).L)), .agg m.L, .one (.int .i64 v)]) (fun _ => .one (.bool true)) := by
  by_cases h : n ≤ 10 ∧ ∀ i : Nat, i < n → (G i).Small
  · obtain ⟨r, b1, b2, l, hr⟩ := readsOk n h.1 G hG h.2 m hm v
    exact reads_main n _ _ _ v r b1 b2 l _ _ (keepTerms_c n hn G hG) (keepMono_c m hm) (fun _ _ => hr) hA
  · exact reads_main n _ _ _ v 0 true true [] _ _ (keepTerms_c n hn G hG) (keepMono_c m hm) (fun h' _ => absurd h' h) hA
end Sx
end

section
set_option maxRecDepth 100000
namespace Sx
open Go

theorem div_mk (x : Rat) {y : Rat} (hy : y.num ≠ 0) : x / y = mkRat (sg (decide (x.num < 0) != decide (y.num < 0)) (x.num.natAbs * y.den)) (x.den * y.num.natAbs) := by
  have hk : (sg (decide (y.num < 0)) y.num.natAbs) = y.num := sg_num y
  have hinv : y⁻¹ = mkRat (sg (decide (y.num < 0)) y.den) y.num.natAbs := by
    rw [Rat.inv_def]
    have h0 : y.num.natAbs ≠ 0 := by omega
    by_cases h : y.num < 0
    · have e : y.num = -(y.num.natAbs : Int) := by omega
      rw [decide_eq_true h]
      conv => lhs; rw [e]
      rw [Rat.divInt_neg', Rat.divInt_ofNat]
      rfl
    · have e : y.num = (y.num.natAbs : Int) := by omega
      rw [decide_eq_false h]
      conv => lhs; rw [e]
      rw [Rat.divInt_ofNat]
      rfl
  rw [Rat.div_def, hinv, sg_mul_sg, sg_num]
  conv => lhs; lhs; rw [← Rat.mkRat_self x]
  rw [Rat.mkRat_mul_mkRat]
theorem rlen_div (x : Rat) {y : Rat} (hy : y.num ≠ 0) : rlen (x / y) ≤ rlen x + rlen y := by
  rw [div_mk x hy]
  have h1 := lt_rlen_num x (Nat.le_refl _)
  have h2 := lt_rlen_den x (Nat.le_refl _)
  have h3 := lt_rlen_num y (Nat.le_refl _)
  have h4 := lt_rlen_den y (Nat.le_refl _)
  have := rlen_pos x
  refine rlen_mk _ ?_ ?_ (by omega)
  · rw [Nat.pow_add, sg_natAbs]; exact Nat.mul_lt_mul'' h1 h4
  · rw [Nat.pow_add]; exact Nat.mul_lt_mul'' h2 h3
theorem rmul_c (a b : Raw) {k : Nat} (ha : a.Ok k) (hb : b.Ok k) (hk : k ≤ 10000000) : PureF Pg F.rational_Mul (fun q => [.agg (a.L q), .agg (b.L q)]) (fun q => .agg (ratL q (a.val * b.val))) := by
  refine walkF mixed tau_ok At.rational_Mul (fun CN DN q R hCN hDN hq hR => ?_)
  have hca := canon_c a ha hk
  have hcb := canon_c b hb hk
  have hla := rlen_raw ha
  have hlb := rlen_raw hb
  generalize a.val = A at *
  generalize b.val = B at *
  obtain ⟨neg, n, V, m, W⟩ := a
  obtain ⟨neg', n', V', m', W'⟩ := b
  (conv => cbv)
  refine Need.mk (by (exact ⟨by kernel_rfl, by kernel_rfl⟩)) ?_
  refine call_fd hq hDN hca rfl ?_
  obtain ⟨s1, x1, y1, e1, hs1, hx1, hy1⟩ := ratL_open q A
  rw [e1]
  (conv => cbv)
  refine call_fd hq hDN hcb rfl ?_
  obtain ⟨s2, x2, y2, e2, hs2, hx2, hy2⟩ := ratL_open q B
  rw [e2]
  (conv => cbv)
  have hd1 : y1 ≠ 0 := by rw [hy1]; exact A.den_nz
  have hd2 : y2 ≠ 0 := by rw [hy2]; exact B.den_nz
  have lx1 : len x1 ≤ k + 1 := by rw [hx1]; exact Nat.le_trans (Nat.le_max_left _ _) hla
  have ly1 : len y1 ≤ k + 1 := by rw [hy1]; exact Nat.le_trans (Nat.le_max_right _ _) hla
  have lx2 : len x2 ≤ k + 1 := by rw [hx2]; exact Nat.le_trans (Nat.le_max_left _ _) hlb
  have ly2 : len y2 ≤ k + 1 := by rw [hy2]; exact Nat.le_trans (Nat.le_max_right _ _) hlb
  refine Need.mk (by (exact ⟨by kernel_rfl, by kernel_rfl⟩)) ?_
  refine call_fd hq hDN (mul_c x1 x2 (by omega) (by omega)) rfl ?_
  obtain ⟨p, hp⟩ : ∃ k, k = x1 * x2 := ⟨_, rfl⟩
  rw [← hp]
  (conv => cbv)
  refine call_fd hq hDN (mul_c y1 y2 (by omega) (by omega)) rfl ?_
  obtain ⟨dn, hdn⟩ : ∃ k, k = y1 * y2 := ⟨_, rfl⟩
  rw [← hdn]
  (conv => cbv)
  have lp : len p ≤ 2 * k + 2 := by have := len_mul x1 x2; rw [hp]; omega
  have ld : len dn ≤ 2 * k + 2 := by have := len_mul y1 y2; rw [hdn]; omega
  have hdn0 : dn ≠ 0 := by rw [hdn]; exact Nat.mul_ne_zero hd1 hd2
  obtain ⟨s, hs⟩ : ∃ s, s = (q Bool fun _ => !(s1 == s2)) := ⟨_, rfl⟩
  rw [← hs]
  have hM : mkRat (sg s p) dn = A * B := by rw [hs, hp, hdn, hs1, hs2, hx1, hx2, hy1, hy2]; subst hq; exact (mul_mk A B).symm
  refine call_fd hq hDN (made_c s p dn hdn0 (by omega) (by omega)) rfl ?_
  rw [hM]
  obtain ⟨b, x, y, e, hb, hx, hy⟩ := ratL_open q (A * B)
  rw [e]
  (conv => cbv)
  exact hR _ (VE.rat hq (by rw [hb]; subst hq; rfl) hx hy)
theorem rdiv_c (a b : Raw) {k : Nat} (ha : a.Ok k) (hb : b.Ok k) (hk : k ≤ 10000000) (h0 : b.val.num ≠ 0) : PureF Pg F.rational_Div (fun q => [.agg (a.L q), .agg (b.L q)]) (fun q => .tup [.agg (ratL q (a.val / b.val)), .one (.bool true)]) := by
  refine walkF mixed tau_ok At.rational_Div (fun CN DN q R hCN hDN hq hR => ?_)
  have hca := canon_c a ha hk
  have hcb := canon_c b hb hk
  have hla := rlen_raw ha
  have hlb := rlen_raw hb
  generalize a.val = A at *
  generalize b.val = B at *
  obtain ⟨neg, n, V, m, W⟩ := a
  obtain ⟨neg', n', V', m', W'⟩ := b
  (conv => cbv)
  refine Need.mk (by (exact ⟨by kernel_rfl, by kernel_rfl⟩)) ?_
  refine call_fd hq hDN hca rfl ?_
  obtain ⟨s1, x1, y1, e1, hs1, hx1, hy1⟩ := ratL_open q A
  rw [e1]
  (conv => cbv)
  refine call_fd hq hDN hcb rfl ?_
  obtain ⟨s2, x2, y2, e2, hs2, hx2, hy2⟩ := ratL_open q B
  rw [e2]
  (conv => cbv)
  have hd1 : y1 ≠ 0 := by rw [hy1]; exact A.den_nz
  have hd2 : x2 ≠ 0 := by rw [hx2]; omega
  have lx1 : len x1 ≤ k + 1 := by rw [hx1]; exact Nat.le_trans (Nat.le_max_left _ _) hla
  have ly1 : len y1 ≤ k + 1 := by rw [hy1]; exact Nat.le_trans (Nat.le_max_right _ _) hla
  have lx2 : len x2 ≤ k + 1 := by rw [hx2]; exact Nat.le_trans (Nat.le_max_left _ _) hlb
  have ly2 : len y2 ≤ k + 1 := by rw [hy2]; exact Nat.le_trans (Nat.le_max_right _ _) hlb
  split
  · rename_i g0
    rw [hq] at g0
    ((try simp (disch := omega) only [q0, nc, w64_id, wu64_id, wu32_id, wu8_id, Int.tdiv_eq_ediv_of_nonneg, Int.tmod_eq_emod_of_nonneg, Int.ofNat_eq_natCast, Int.natAbs_natCast, decide_eq_true_eq, decide_eq_false_iff_not, Bool.not_eq_true', Bool.not_eq_false', bne_iff_ne, bne_eq_false_iff_eq, beq_iff_eq, beq_eq_false_iff_ne, ne_eq] at g0); (try replace g0 := of_decide_eq_true g0); (try replace g0 := of_decide_eq_false g0))
    exact absurd (len_eq_zero.1 (by omega)) hd2
  · refine Need.mk (by (exact ⟨by kernel_rfl, by kernel_rfl⟩)) ?_
    refine call_fd hq hDN (mul_c x1 y2 (by omega) (by omega)) rfl ?_
    obtain ⟨p, hp⟩ : ∃ k, k = x1 * y2 := ⟨_, rfl⟩
    rw [← hp]
    (conv => cbv)
    refine call_fd hq hDN (mul_c y1 x2 (by omega) (by omega)) rfl ?_
    obtain ⟨dn, hdn⟩ : ∃ k, k = y1 * x2 := ⟨_, rfl⟩
    rw [← hdn]
    (conv => cbv)
    have lp : len p ≤ 2 * k + 2 := by have := len_mul x1 y2; rw [hp]; omega
    have ld : len dn ≤ 2 * k + 2 := by have := len_mul y1 x2; rw [hdn]; omega
    have hdn0 : dn ≠ 0 := by rw [hdn]; exact Nat.mul_ne_zero hd1 hd2
    obtain ⟨s, hs⟩ : ∃ s, s = (q Bool fun _ => !(s1 == s2)) := ⟨_, rfl⟩
    rw [← hs]
    have hM : mkRat (sg s p) dn = A / B := by rw [hs, hp, hdn, hs1, hs2, hx1, hx2, hy1, hy2]; subst hq; exact (div_mk A h0).symm
    refine call_fd hq hDN (made_c s p dn hdn0 (by omega) (by omega)) rfl ?_
    rw [hM]
    obtain ⟨b, x, y, e, hb, hx, hy⟩ := ratL_open q (A / B)
    rw [e]
    (conv => cbv)
    refine hR _ (.tup rfl (fun j a b ha hb' => ?_))
    rcases j with _ | _ | j
    · simp at ha hb'; subst ha; subst hb'; exact VE.rat hq (by rw [hb]; subst hq; rfl) hx hy
    · simp at ha hb'; subst ha; subst hb'; exact .refl
    · simp at ha
theorem rneg_c (a : Raw) {k : Nat} (ha : a.Ok k) (hk : k ≤ 10000000) : PureF Pg F.rational_Neg (fun q => [.agg (a.L q)]) (fun q => .agg (ratL q (-a.val))) := by
  refine walkF mixed tau_ok At.rational_Neg (fun CN DN q R hCN hDN hq hR => ?_)
  have hca := canon_c a ha hk
  generalize a.val = A at *
  obtain ⟨neg, n, V, m, W⟩ := a
  (conv => cbv)
  refine call_fn hq hCN hca rfl ?_
  obtain ⟨s1, x1, y1, e1, hs1, hx1, hy1⟩ := ratL_open q A
  rw [e1]
  obtain ⟨r, hr⟩ : ∃ r, r = -A := ⟨_, rfl⟩
  have hxr : x1 = r.num.natAbs := by rw [hr, Rat.neg_num, Int.natAbs_neg]; exact hx1
  have hyr : y1 = r.den := by rw [hr, Rat.neg_den]; exact hy1
  have hsg := neg_sign A
  have hs1' : decide (A.num < 0) = s1 := by rw [hs1]; subst hq; rfl
  rw [← hr, ← hx1, hs1'] at hsg
  rw [← hr] at hR
  clear hs1 hs1' hx1 hy1 e1
  (conv => cbv)
  split
  · rename_i g0
    rw [hq] at g0
    have h1 : s1 = false := by cases s1 <;> simp [q0] at g0 ⊢
    subst h1
    refine hR _ (VE.rat hq ?_ hxr hyr)
    rw [hsg]
    subst hq
    rfl
  · rename_i g0
    rw [hq] at g0
    have h1 : s1 = true := by cases s1 <;> simp [q0] at g0 ⊢
    subst h1
    refine hR _ (VE.rat hq ?_ hxr hyr)
    rw [hsg]
    subst hq
    rfl
theorem rsub_c (a b : Raw) {k : Nat} (ha : a.Ok k) (hb : b.Ok k) (hk : k ≤ 9000000) : PureF Pg F.rational_Sub (fun q => [.agg (a.L q), .agg (b.L q)]) (fun q => .agg (ratL q (a.val - b.val))) := by
  refine walkF mixed tau_ok At.rational_Sub (fun CN DN q R hCN hDN hq hR => ?_)
  have hcb := rneg_c b hb (by omega)
  have hlb := rlen_raw hb
  rw [Rat.sub_eq_add_neg] at hR
  have hsum := radd_c a (Raw.of (-b.val)) (ha.le (show k ≤ k + 1 by omega)) ((Raw.of_ok _).le (by rw [rlen_neg]; exact hlb)) (by omega)
  rw [Raw.of_val] at hsum
  generalize a.val = A at *
  generalize -b.val = B at *
  obtain ⟨neg, n, V, m, W⟩ := a
  obtain ⟨neg', n', V', m', W'⟩ := b
  (conv => cbv)
  refine Need.mk (by (exact ⟨by kernel_rfl, by kernel_rfl⟩)) ?_
  refine call_fd hq hDN hcb rfl ?_
  obtain ⟨s1, x1, y1, e1, hs1, hx1, hy1⟩ := ratL_open q B
  rw [e1]
  (conv => cbv)
  have hsum' : PureF Pg F.rational_Add (fun q => [.agg (Raw.L q ⟨neg, n, V, m, W⟩), .agg (ratL q B)]) (fun q => .agg (ratL q (A + B))) := hsum
  refine call_fd hq hDN hsum' (by rw [e1]; rfl) ?_
  obtain ⟨b, x, y, e, hb, hx, hy⟩ := ratL_open q (A + B)
  rw [e]
  (conv => cbv)
  exact hR _ (VE.rat hq (by rw [hb]; subst hq; rfl) hx hy)
end Sx
end

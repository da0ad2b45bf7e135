/- A part of the proof of PolyReadsSaid: texts SxReads3 SxReads4. -/
import Derived.Test.YtlnpmgmpakjhgaaGreatSxBV
set_option linter.all false
section
set_option maxRecDepth 100000
namespace Sx
open Go

theorem men11 {CN : CNt} {q : Qt} (hq : q = q0) (hCN : CN = CallN Pg) {v a : Int} {F1 F2 c0 c1 c2 c3 c4 : T} {K : AV → List Blk → Prop}
    (hK : K (.one (.t (.bool (a == v)))) [.box 3 [.t (.int .i64 v)], .box 96 [.t c0, .t c1, .t c2, .t c3, .t c4]]) :
    CN F.poly_Mentions_1_1 [.agg [.t (.int .i64 a), .t F1, .t F2], .one (.bp 0 0)] [.box 3 [.t (.int .i64 v)], .box 96 [.t c0, .t c1, .t c2, .t c3, .t c4]] K := by
  refine call_ing mixed tau_ok At.poly_Mentions_1_1 hq hCN rfl (fun DN hDN => ?_)
  (conv => cbv)
  subst hq
  exact hK
theorem men121 {CN : CNt} {q : Qt} (hq : q = q0) (hCN : CN = CallN Pg) {v a : Int} {F1 c0 c1 c2 c3 c4 d0 d1 d2 : T} {K : AV → List Blk → Prop}
    (hK : K (.one (.t (.bool (a == v)))) [.box 3 [.t (.int .i64 v)], .box 96 [.t c0, .t c1, .t c2, .t c3, .t c4], .box 177 [.t d0, .t d1, .t d2]]) :
    CN F.poly_Mentions_1_2_1 [.agg [.t (.int .i64 a), .t F1], .one (.bp 0 0)] [.box 3 [.t (.int .i64 v)], .box 96 [.t c0, .t c1, .t c2, .t c3, .t c4], .box 177 [.t d0, .t d1, .t d2]] K := by
  refine call_ing mixed tau_ok At.poly_Mentions_1_2_1 hq hCN rfl (fun DN hDN => ?_)
  (conv => cbv)
  subst hq
  exact hK
theorem men12 {CN : CNt} {q : Qt} (hq : q = q0) (hCN : CN = CallN Pg) {v nI : Int} {n : Nat} (hn : n ≤ lenB) (hnI : nI = n) {A : Int → Int} {B : Int → T} {a0 a2 c0 c1 c2 c3 c4 : T} {K : AV → List Blk → Prop}
    (hK : K (.one (.t (.bool (anyB (fun j => A j == v) n)))) [.box 3 [.t (.int .i64 v)], .box 96 [.t c0, .t c1, .t c2, .t c3, .t c4]]) :
    CN F.poly_Mentions_1_2 [.agg [.t a0, .t (.sl 2 nI (fun j => [.int .i64 (A j), B j])), .t a2], .one (.bp 0 0)] [.box 3 [.t (.int .i64 v)], .box 96 [.t c0, .t c1, .t c2, .t c3, .t c4]] K := by
  refine call_ing mixed tau_ok At.poly_Mentions_1_2 hq hCN rfl (fun DN hDN => ?_)
  (conv => cbv)
  refine any_lt hq hCN n hn F.poly_Mentions_1_2_1 (fun j => .int .i64 (A j)) B (fun j => A j == v) hnI (fun j hj K' hK' => men121 hq hCN hK') (fun x hx => ?_)
  (conv => cbv)
  rw [hx]
  exact hK
theorem men1 {CN : CNt} {q : Qt} (hq : q = q0) (hCN : CN = CallN Pg) {v nI mI : Int} {n m : Nat} (hn : n ≤ lenB) (hnI : nI = n) (hm : m ≤ lenB) (hmI : mI = m) {fv : Int → Int} {F1 F2 a0 a2 : Int → T} {nl : Int → Nat} (hnl : ∀ i : Nat, i < m → nl i ≤ lenB) {lI : Int → Int} (hlI : ∀ i : Nat, i < m → lI i = nl i) {lv : Int → Int → Int} {L1 : Int → Int → T} {c0 c1 c2 : T} {K : AV → List Blk → Prop}
    (hK : K (.one (.t (.bool (anyB (fun j => fv j == v) n || anyB (fun j => anyB (fun l => lv j l == v) (nl j)) m)))) [.box 3 [.t (.int .i64 v)]]) :
    CN F.poly_Mentions_1 [.agg [.t c0, .t c1, .t c2, .t (.sl 3 nI (fun j => [.int .i64 (fv j), F1 j, F2 j])), .t (.sl 3 mI (fun j => [a0 j, .sl 2 (lI j) (fun l => [.int .i64 (lv j l), L1 j l]), a2 j]))], .one (.bp 0 0)] [.box 3 [.t (.int .i64 v)]] K := by
  refine call_wk hCN ?_
  refine call_ing mixed tau_ok At.poly_Mentions_1 hq hCN rfl (fun DN hDN => ?_)
  (conv => cbv)
  refine any_fc hq hCN n hn F.poly_Mentions_1_1 (fun j => .int .i64 (fv j)) F1 F2 (fun j => fv j == v) hnI (fun j hj K' hK' => men11 hq hCN hK') (fun x hx => ?_)
  rw [← hx] at hK
  clear hx
  (conv => cbv)
  cases x
  · (conv => cbv)
    refine any_am hq hCN m hm F.poly_Mentions_1_2 a0 (fun j => .sl 2 (lI j) (fun l => [.int .i64 (lv j l), L1 j l])) a2 (fun j => anyB (fun l => lv j l == v) (nl j)) hmI (fun j hj K' hK' => men12 hq hCN (hnl j hj) (hlI j hj) hK') (fun x hx => ?_)
    (conv => cbv)
    rw [hx]
    rw [Bool.false_or] at hK
    exact hK
  · (conv => cbv)
    rw [Bool.true_or] at hK
    exact hK
theorem ment_main (n : Nat) (hn : n ≤ lenB) (v : Int) (C0 C1 C2 : Int → T) (nf na : Int → Nat) (nl : Int → Int → Nat) (fv : Int → Int → Int) (F1 F2 a0 a2 : Int → Int → T) (lv : Int → Int → Int → Int) (L1 : Int → Int → Int → T)
    (hf : ∀ i : Nat, i < n → nf i ≤ lenB) (ha : ∀ i : Nat, i < n → na i ≤ lenB) (hl : ∀ i j : Nat, i < n → j < na i → nl i j ≤ lenB) :
    PureF Pg F.poly_Mentions (fun q => [.one (.sl 5 (q Int fun _ => (n : Int)) (fun i => [C0 i, C1 i, C2 i, .sl 3 (q Int fun _ => (nf i : Int)) (fun j => [.int .i64 (fv i j), F1 i j, F2 i j]), .sl 3 (q Int fun _ => (na i : Int)) (fun j => [a0 i j, .sl 2 (q Int fun _ => (nl i j : Int)) (fun l => [.int .i64 (lv i j l), L1 i j l]), a2 i j])])), .one (.int .i64 v)])
      (fun _ => .one (.bool (anyB (fun i => anyB (fun j => fv i j == v) (nf i) || anyB (fun j => anyB (fun l => lv i j l == v) (nl i j)) (na i)) n))) := by
  refine walkF mixed tau_ok At.poly_Mentions (fun CN DN q R hCN hDN hq hR => ?_)
  obtain ⟨b, hb⟩ : ∃ b : Int → Bool, b = fun i => anyB (fun j => fv i j == v) (nf i) || anyB (fun j => anyB (fun l => lv i j l == v) (nl i j)) (na i) := ⟨_, rfl⟩
  rw [← hb] at hR
  have hb' : ∀ i, b i = (anyB (fun j => fv i j == v) (nf i) || anyB (fun j => anyB (fun l => lv i j l == v) (nl i j)) (na i)) := fun i => by rw [hb]
  clear hb
  obtain ⟨nI, hnI⟩ : ∃ nI, nI = q Int fun _ => (n : Int) := ⟨_, rfl⟩
  obtain ⟨fI, hfI⟩ : ∃ fI : Int → Int, fI = fun i => q Int fun _ => (nf i : Int) := ⟨_, rfl⟩
  obtain ⟨aI, haI⟩ : ∃ aI : Int → Int, aI = fun i => q Int fun _ => (na i : Int) := ⟨_, rfl⟩
  obtain ⟨lI, hlI⟩ : ∃ lI : Int → Int → Int, lI = fun i j => q Int fun _ => (nl i j : Int) := ⟨_, rfl⟩
  show awp CN DN q tau 0 _ ⟨startS _ ((([.one (.sl 5 (q Int fun _ => (n : Int)) (fun i => [C0 i, C1 i, C2 i, .sl 3 ((fun i => q Int fun _ => (nf i : Int)) i) (fun j => [.int .i64 (fv i j), F1 i j, F2 i j]), .sl 3 ((fun i => q Int fun _ => (na i : Int)) i) (fun j => [a0 i j, .sl 2 ((fun i j => q Int fun _ => (nl i j : Int)) i j) (fun l => [.int .i64 (lv i j l), L1 i j l]), a2 i j])])), .one (.int .i64 v)]) : List TV).map ofTV), []⟩ _
  rw [← hnI, ← hfI, ← haI, ← hlI]
  have hnI' : nI = n := by rw [hnI]; subst hq; rfl
  have hfI' : ∀ i, fI i = nf i := fun i => by rw [hfI]; subst hq; rfl
  have haI' : ∀ i, aI i = na i := fun i => by rw [haI]; subst hq; rfl
  have hlI' : ∀ i j, lI i j = nl i j := fun i j => by rw [hlI]; subst hq; rfl
  clear hnI hfI haI hlI
  (conv => cbv)
  refine any_tm hq hCN n hn F.poly_Mentions_1 C0 C1 C2 (fun i => .sl 3 (fI i) (fun j => [.int .i64 (fv i j), F1 i j, F2 i j])) (fun i => .sl 3 (aI i) (fun j => [a0 i j, .sl 2 (lI i j) (fun l => [.int .i64 (lv i j l), L1 i j l]), a2 i j])) b hnI' (fun i hi K' hK' => ?_) (fun x hx => ?_)
  · rw [hb'] at hK'
    exact men1 hq hCN (hf i hi) (hfI' i) (ha i hi) (haI' i) (nl := nl i) (fun j hj => hl i j hi hj) (fun j hj => hlI' i j) hK'
  · (conv => cbv)
    exact hR _ (by rw [hx]; exact .refl)
end Sx
end

section
set_option maxRecDepth 100000
namespace Sx
open Go

set_option maxHeartbeats 4000000 in
theorem refMent_main (n : Nat) (hn : n ≤ lenB) (v : Int) (C0 C1 C2 : Int → T) (nf na : Int → Nat) (nl : Int → Int → Nat) (fv : Int → Int → Int) (F1 F2 a0 a2 : Int → Int → T) (lv : Int → Int → Int → Int) (L1 : Int → Int → Int → T)
    (hf : ∀ i : Nat, i < n → nf i ≤ lenB) (ha : ∀ i : Nat, i < n → na i ≤ lenB) (hl : ∀ i j : Nat, i < n → j < na i → nl i j ≤ lenB) :
    PureF Pg F.amortcostref20_Mentions (fun q => [.one (.sl 5 (q Int fun _ => (n : Int)) (fun i => [C0 i, C1 i, C2 i, .sl 3 (q Int fun _ => (nf i : Int)) (fun j => [.int .i64 (fv i j), F1 i j, F2 i j]), .sl 3 (q Int fun _ => (na i : Int)) (fun j => [a0 i j, .sl 2 (q Int fun _ => (nl i j : Int)) (fun l => [.int .i64 (lv i j l), L1 i j l]), a2 i j])])), .one (.int .i64 v)])
      (fun _ => .one (.bool (anyB (fun i => anyB (fun j => fv i j == v) (nf i) || anyB (fun j => anyB (fun l => lv i j l == v) (nl i j)) (na i)) n))) := by
  have hn2 : n ≤ 9223372036854775807 := hn
  refine walkF mixed tau_ok At.amortcostref20_Mentions (fun CN DN q R hCN hDN hq hR => ?_)
  obtain ⟨b, hb⟩ : ∃ b : Int → Bool, b = fun i => anyB (fun j => fv i j == v) (nf i) || anyB (fun j => anyB (fun l => lv i j l == v) (nl i j)) (na i) := ⟨_, rfl⟩
  rw [← hb] at hR
  have hb' : ∀ i, b i = (anyB (fun j => fv i j == v) (nf i) || anyB (fun j => anyB (fun l => lv i j l == v) (nl i j)) (na i)) := fun i => by rw [hb]
  clear hb
  have fin : ∀ x : Bool, x = anyB b n → R (.one (.bool x)) := fun x hx => hR _ (by rw [hx]; exact .refl)
  clear hR
  obtain ⟨nI, hnI⟩ : ∃ nI, nI = q Int fun _ => (n : Int) := ⟨_, rfl⟩
  obtain ⟨fI, hfI⟩ : ∃ fI : Int → Int, fI = fun i => q Int fun _ => (nf i : Int) := ⟨_, rfl⟩
  obtain ⟨aI, haI⟩ : ∃ aI : Int → Int, aI = fun i => q Int fun _ => (na i : Int) := ⟨_, rfl⟩
  obtain ⟨lI, hlI⟩ : ∃ lI : Int → Int → Int, lI = fun i j => q Int fun _ => (nl i j : Int) := ⟨_, rfl⟩
  show awp CN DN q tau 0 _ ⟨startS _ ((([.one (.sl 5 (q Int fun _ => (n : Int)) (fun i => [C0 i, C1 i, C2 i, .sl 3 ((fun i => q Int fun _ => (nf i : Int)) i) (fun j => [.int .i64 (fv i j), F1 i j, F2 i j]), .sl 3 ((fun i => q Int fun _ => (na i : Int)) i) (fun j => [a0 i j, .sl 2 ((fun i j => q Int fun _ => (nl i j : Int)) i j) (fun l => [.int .i64 (lv i j l), L1 i j l]), a2 i j])])), .one (.int .i64 v)]) : List TV).map ofTV), []⟩ _
  rw [← hnI, ← hfI, ← haI, ← hlI]
  have hnI' : nI = n := by rw [hnI]; subst hq; rfl
  have hfI' : ∀ i, fI i = nf i := fun i => by rw [hfI]; subst hq; rfl
  have haI' : ∀ i, aI i = na i := fun i => by rw [haI]; subst hq; rfl
  have hlI' : ∀ i j, lI i j = nl i j := fun i j => by rw [hlI]; subst hq; rfl
  clear hnI hfI haI hlI
  obtain ⟨X, hX⟩ : ∃ X : Int → T, X = fun i => .sl 3 (fI i) (fun j => [.int .i64 (fv i j), F1 i j, F2 i j]) := ⟨_, rfl⟩
  obtain ⟨Y, hY⟩ : ∃ Y : Int → T, Y = fun i => .sl 3 (aI i) (fun j => [a0 i j, .sl 2 (lI i j) (fun l => [.int .i64 (lv i j l), L1 i j l]), a2 i j]) := ⟨_, rfl⟩
  obtain ⟨P0, hP0⟩ : ∃ P0 : T, P0 = .sl 5 nI (fun i => [C0 i, C1 i, C2 i, .sl 3 (fI i) (fun j => [.int .i64 (fv i j), F1 i j, F2 i j]), .sl 3 (aI i) (fun j => [a0 i j, .sl 2 (lI i j) (fun l => [.int .i64 (lv i j l), L1 i j l]), a2 i j])]) := ⟨_, rfl⟩
  (conv => cbv)
  refine LoopN.mk [1, 13, 14, 15] (fun d σ => ∃ k : Int, (0 ≤ k ∧ k ≤ n ∧ d = ((n : Int) - k).toNat ∧ anyB b k.toNat = false) ∧
    σ = ⟨mkS [(1, .one (.t (.int .i64 v))), (13, .one (.t (.sl 5 nI (fun i => [C0 i, C1 i, C2 i, .sl 3 (fI i) (fun j => [.int .i64 (fv i j), F1 i j, F2 i j]), .sl 3 (aI i) (fun j => [a0 i j, .sl 2 (lI i j) (fun l => [.int .i64 (lv i j l), L1 i j l]), a2 i j])])))), (14, .one (.t (.int .i64 nI))), (15, .one (.t (.int .i64 k)))] 0 55, []⟩) ⟨n, 0, ⟨by omega, by omega, by omega, rfl⟩, ?_⟩ ?_
  · cbv
  · rintro d σ ⟨k, ⟨h1, h2, rfl, h3⟩, rfl⟩ K hK
    (conv => cbv)
    obtain ⟨k, rfl⟩ := Int.eq_ofNat_of_zero_le h1
    rw [Int.toNat_natCast] at h3
    split
    · rename_i g0
      rw [hq] at g0
      ((try simp (disch := omega) only [q0, nc, w64_id, wu64_id, wu32_id, wu8_id, Int.tdiv_eq_ediv_of_nonneg, Int.tmod_eq_emod_of_nonneg, Int.ofNat_eq_natCast, Int.natAbs_natCast, decide_eq_true_eq, decide_eq_false_iff_not, Bool.not_eq_true', Bool.not_eq_false', bne_iff_ne, bne_eq_false_iff_eq, beq_iff_eq, beq_eq_false_iff_ne, ne_eq] at g0); (try replace g0 := of_decide_eq_true g0); (try replace g0 := of_decide_eq_false g0))
      refine Need.mk (by omega) ?_
      have hbk := hb' k
      have hfk := hf k (by omega)
      have hak := ha k (by omega)
      have hlk := fun j => hl k j (by omega)
      have hfIk := hfI' k
      have haIk := haI' k
      have hlIk := hlI' k
      try simp only [nc, Int.ofNat_eq_natCast]
      have hf2 : nf k ≤ 9223372036854775807 := hfk
      have ha2 : na k ≤ 9223372036854775807 := hak
      have hit : b k = true → R (.one (.bool true)) := fun h => fin _ (anyB_hit h (by omega)).symm
      refine LoopN.mk [1, 6, 13, 14, 15, 21, 22, 23] (fun d σ => ∃ j : Int, (0 ≤ j ∧ j ≤ nf k ∧ d = ((nf k : Int) - j).toNat ∧ anyB (fun j => fv k j == v) j.toNat = false) ∧
        σ = ⟨mkS [(1, .one (.t (.int .i64 v))), (6, .one (.bp 0 0)), (13, .one (.t (.sl 5 nI (fun i => [C0 i, C1 i, C2 i, .sl 3 (fI i) (fun j => [.int .i64 (fv i j), F1 i j, F2 i j]), .sl 3 (aI i) (fun j => [a0 i j, .sl 2 (lI i j) (fun l => [.int .i64 (lv i j l), L1 i j l]), a2 i j])])))), (14, .one (.t (.int .i64 nI))), (15, .one (.t (.int .i64 k))), (21, .one (.t (.sl 3 (fI k) (fun j => [.int .i64 (fv k j), F1 k j, F2 k j])))), (22, .one (.t (.int .i64 (fI k)))), (23, .one (.t (.int .i64 j)))] 0 55, [.box 96 [.t (C0 k), .t (C1 k), .t (C2 k), .t (.sl 3 (fI k) (fun j => [.int .i64 (fv k j), F1 k j, F2 k j])), .t (.sl 3 (aI k) (fun j => [a0 k j, .sl 2 (lI k j) (fun l => [.int .i64 (lv k j l), L1 k j l]), a2 k j]))]]⟩) ⟨nf k, 0, ⟨by omega, by omega, by omega, rfl⟩, ?_⟩ ?_
      · cbv
      · rintro d σ ⟨j, ⟨m1, m2, rfl, m3⟩, rfl⟩ K2 hK2
        (conv => cbv)
        obtain ⟨j, rfl⟩ := Int.eq_ofNat_of_zero_le m1
        rw [Int.toNat_natCast] at m3
        try simp only [nc, Int.ofNat_eq_natCast]
        split
        · rename_i g1
          rw [hq] at g1
          ((try simp (disch := omega) only [q0, nc, w64_id, wu64_id, wu32_id, wu8_id, Int.tdiv_eq_ediv_of_nonneg, Int.tmod_eq_emod_of_nonneg, Int.ofNat_eq_natCast, Int.natAbs_natCast, decide_eq_true_eq, decide_eq_false_iff_not, Bool.not_eq_true', Bool.not_eq_false', bne_iff_ne, bne_eq_false_iff_eq, beq_iff_eq, beq_eq_false_iff_ne, ne_eq] at g1); (try replace g1 := of_decide_eq_true g1); (try replace g1 := of_decide_eq_false g1))
          refine Need.mk (by omega) ?_
          split
          · rename_i g2
            rw [hq] at g2
            refine hit ?_
            rw [hbk, anyB_hit (k := j) (show (fv k j == v) = true from g2) (by omega), Bool.true_or]
          · rename_i g2
            rw [hq] at g2
            have ej : (q Int fun _ => IntKind.i64.wrap ((j : Int) + 1)) = j + 1 := by subst hq; (try simp (disch := omega) only [q0, nc, w64_id, wu64_id, wu32_id, wu8_id, Int.tdiv_eq_ediv_of_nonneg, Int.tmod_eq_emod_of_nonneg, Int.ofNat_eq_natCast, Int.natAbs_natCast, decide_eq_true_eq, decide_eq_false_iff_not, Bool.not_eq_true', bne_iff_ne, beq_iff_eq, ne_eq])
            rw [ej]
            refine hK2 _ ⟨_, ?_, (j : Int) + 1, ⟨by omega, by omega, rfl, ?_⟩, rfl⟩
            · omega
            · rw [show ((j : Int) + 1).toNat = j + 1 by omega, anyB, m3]
              exact g2
        · rename_i g1
          rw [hq] at g1
          ((try simp (disch := omega) only [q0, nc, w64_id, wu64_id, wu32_id, wu8_id, Int.tdiv_eq_ediv_of_nonneg, Int.tmod_eq_emod_of_nonneg, Int.ofNat_eq_natCast, Int.natAbs_natCast, decide_eq_true_eq, decide_eq_false_iff_not, Bool.not_eq_true', Bool.not_eq_false', bne_iff_ne, bne_eq_false_iff_eq, beq_iff_eq, beq_eq_false_iff_ne, ne_eq] at g1); (try replace g1 := of_decide_eq_true g1); (try replace g1 := of_decide_eq_false g1))
          have hj : j = nf k := by omega
          subst hj
          rw [m3, Bool.false_or] at hbk
          refine LoopN.mk [1, 13, 14, 15, 34, 35, 36] (fun d σ => ∃ j : Int, (0 ≤ j ∧ j ≤ na k ∧ d = ((na k : Int) - j).toNat ∧ anyB (fun j => anyB (fun l => lv k j l == v) (nl k j)) j.toNat = false) ∧
            σ = ⟨mkS [(1, .one (.t (.int .i64 v))), (13, .one (.t (.sl 5 nI (fun i => [C0 i, C1 i, C2 i, .sl 3 (fI i) (fun j => [.int .i64 (fv i j), F1 i j, F2 i j]), .sl 3 (aI i) (fun j => [a0 i j, .sl 2 (lI i j) (fun l => [.int .i64 (lv i j l), L1 i j l]), a2 i j])])))), (14, .one (.t (.int .i64 nI))), (15, .one (.t (.int .i64 k))), (34, .one (.t (.sl 3 (aI k) (fun j => [a0 k j, .sl 2 (lI k j) (fun l => [.int .i64 (lv k j l), L1 k j l]), a2 k j])))), (35, .one (.t (.int .i64 (aI k)))), (36, .one (.t (.int .i64 j)))] 0 55, []⟩) ⟨na k, 0, ⟨by omega, by omega, by omega, rfl⟩, ?_⟩ ?_
          · cbv
          · rintro d σ ⟨j, ⟨m1, m2, rfl, m3⟩, rfl⟩ K3 hK3
            (conv => cbv)
            obtain ⟨j, rfl⟩ := Int.eq_ofNat_of_zero_le m1
            rw [Int.toNat_natCast] at m3
            try simp only [nc, Int.ofNat_eq_natCast]
            split
            · rename_i g3
              rw [hq] at g3
              ((try simp (disch := omega) only [q0, nc, w64_id, wu64_id, wu32_id, wu8_id, Int.tdiv_eq_ediv_of_nonneg, Int.tmod_eq_emod_of_nonneg, Int.ofNat_eq_natCast, Int.natAbs_natCast, decide_eq_true_eq, decide_eq_false_iff_not, Bool.not_eq_true', Bool.not_eq_false', bne_iff_ne, bne_eq_false_iff_eq, beq_iff_eq, beq_eq_false_iff_ne, ne_eq] at g3); (try replace g3 := of_decide_eq_true g3); (try replace g3 := of_decide_eq_false g3))
              refine Need.mk (by omega) ?_
              have hlkj := hlk j (by omega)
              have hl2 : nl k j ≤ 9223372036854775807 := hlkj
              have hlIkj := hlIk j
              refine LoopN.mk [1, 13, 14, 15, 34, 35, 36, 42, 43, 44] (fun d σ => ∃ l : Int, (0 ≤ l ∧ l ≤ nl k j ∧ d = ((nl k j : Int) - l).toNat ∧ anyB (fun l => lv k j l == v) l.toNat = false) ∧
                σ = ⟨mkS [(1, .one (.t (.int .i64 v))), (13, .one (.t (.sl 5 nI (fun i => [C0 i, C1 i, C2 i, .sl 3 (fI i) (fun j => [.int .i64 (fv i j), F1 i j, F2 i j]), .sl 3 (aI i) (fun j => [a0 i j, .sl 2 (lI i j) (fun l => [.int .i64 (lv i j l), L1 i j l]), a2 i j])])))), (14, .one (.t (.int .i64 nI))), (15, .one (.t (.int .i64 k))), (34, .one (.t (.sl 3 (aI k) (fun j => [a0 k j, .sl 2 (lI k j) (fun l => [.int .i64 (lv k j l), L1 k j l]), a2 k j])))), (35, .one (.t (.int .i64 (aI k)))), (36, .one (.t (.int .i64 j))), (42, .one (.t (.sl 2 (lI k j) (fun l => [.int .i64 (lv k j l), L1 k j l])))), (43, .one (.t (.int .i64 (lI k j)))), (44, .one (.t (.int .i64 l)))] 0 55, []⟩) ⟨nl k j, 0, ⟨by omega, by omega, by omega, rfl⟩, ?_⟩ ?_
              · cbv
              · rintro d σ ⟨l, ⟨w1, w2, rfl, w3⟩, rfl⟩ K4 hK4
                (conv => cbv)
                obtain ⟨l, rfl⟩ := Int.eq_ofNat_of_zero_le w1
                rw [Int.toNat_natCast] at w3
                try simp only [nc, Int.ofNat_eq_natCast]
                split
                · rename_i g4
                  rw [hq] at g4
                  ((try simp (disch := omega) only [q0, nc, w64_id, wu64_id, wu32_id, wu8_id, Int.tdiv_eq_ediv_of_nonneg, Int.tmod_eq_emod_of_nonneg, Int.ofNat_eq_natCast, Int.natAbs_natCast, decide_eq_true_eq, decide_eq_false_iff_not, Bool.not_eq_true', Bool.not_eq_false', bne_iff_ne, bne_eq_false_iff_eq, beq_iff_eq, beq_eq_false_iff_ne, ne_eq] at g4); (try replace g4 := of_decide_eq_true g4); (try replace g4 := of_decide_eq_false g4))
                  refine Need.mk (by omega) ?_
                  split
                  · rename_i g5
                    rw [hq] at g5
                    refine hit ?_
                    rw [hbk]
                    refine anyB_hit (k := j) ?_ (by omega)
                    exact anyB_hit (k := l) (show (lv k j l == v) = true from g5) (by omega)
                  · rename_i g5
                    rw [hq] at g5
                    have el : (q Int fun _ => IntKind.i64.wrap ((l : Int) + 1)) = l + 1 := by subst hq; (try simp (disch := omega) only [q0, nc, w64_id, wu64_id, wu32_id, wu8_id, Int.tdiv_eq_ediv_of_nonneg, Int.tmod_eq_emod_of_nonneg, Int.ofNat_eq_natCast, Int.natAbs_natCast, decide_eq_true_eq, decide_eq_false_iff_not, Bool.not_eq_true', bne_iff_ne, beq_iff_eq, ne_eq])
                    rw [el]
                    refine hK4 _ ⟨_, ?_, (l : Int) + 1, ⟨by omega, by omega, rfl, ?_⟩, rfl⟩
                    · omega
                    · rw [show ((l : Int) + 1).toNat = l + 1 by omega, anyB, w3]
                      exact g5
                · rename_i g4
                  rw [hq] at g4
                  ((try simp (disch := omega) only [q0, nc, w64_id, wu64_id, wu32_id, wu8_id, Int.tdiv_eq_ediv_of_nonneg, Int.tmod_eq_emod_of_nonneg, Int.ofNat_eq_natCast, Int.natAbs_natCast, decide_eq_true_eq, decide_eq_false_iff_not, Bool.not_eq_true', Bool.not_eq_false', bne_iff_ne, bne_eq_false_iff_eq, beq_iff_eq, beq_eq_false_iff_ne, ne_eq] at g4); (try replace g4 := of_decide_eq_true g4); (try replace g4 := of_decide_eq_false g4))
                  have hl : l = nl k j := by omega
                  subst hl
                  have ej : (q Int fun _ => IntKind.i64.wrap ((j : Int) + 1)) = j + 1 := by subst hq; (try simp (disch := omega) only [q0, nc, w64_id, wu64_id, wu32_id, wu8_id, Int.tdiv_eq_ediv_of_nonneg, Int.tmod_eq_emod_of_nonneg, Int.ofNat_eq_natCast, Int.natAbs_natCast, decide_eq_true_eq, decide_eq_false_iff_not, Bool.not_eq_true', bne_iff_ne, beq_iff_eq, ne_eq])
                  rw [ej]
                  refine hK3 _ ⟨_, ?_, (j : Int) + 1, ⟨by omega, by omega, rfl, ?_⟩, rfl⟩
                  · omega
                  · rw [show ((j : Int) + 1).toNat = j + 1 by omega, anyB, m3]
                    exact w3
            · rename_i g3
              rw [hq] at g3
              ((try simp (disch := omega) only [q0, nc, w64_id, wu64_id, wu32_id, wu8_id, Int.tdiv_eq_ediv_of_nonneg, Int.tmod_eq_emod_of_nonneg, Int.ofNat_eq_natCast, Int.natAbs_natCast, decide_eq_true_eq, decide_eq_false_iff_not, Bool.not_eq_true', Bool.not_eq_false', bne_iff_ne, bne_eq_false_iff_eq, beq_iff_eq, beq_eq_false_iff_ne, ne_eq] at g3); (try replace g3 := of_decide_eq_true g3); (try replace g3 := of_decide_eq_false g3))
              have hj : j = na k := by omega
              subst hj
              have ek : (q Int fun _ => IntKind.i64.wrap ((k : Int) + 1)) = k + 1 := by subst hq; (try simp (disch := omega) only [q0, nc, w64_id, wu64_id, wu32_id, wu8_id, Int.tdiv_eq_ediv_of_nonneg, Int.tmod_eq_emod_of_nonneg, Int.ofNat_eq_natCast, Int.natAbs_natCast, decide_eq_true_eq, decide_eq_false_iff_not, Bool.not_eq_true', bne_iff_ne, beq_iff_eq, ne_eq])
              rw [ek]
              refine hK _ ⟨_, ?_, (k : Int) + 1, ⟨by omega, by omega, rfl, ?_⟩, rfl⟩
              · omega
              · rw [show ((k : Int) + 1).toNat = k + 1 by omega, anyB, h3, hbk]
                exact m3
    · rename_i g0
      rw [hq] at g0
      ((try simp (disch := omega) only [q0, nc, w64_id, wu64_id, wu32_id, wu8_id, Int.tdiv_eq_ediv_of_nonneg, Int.tmod_eq_emod_of_nonneg, Int.ofNat_eq_natCast, Int.natAbs_natCast, decide_eq_true_eq, decide_eq_false_iff_not, Bool.not_eq_true', Bool.not_eq_false', bne_iff_ne, bne_eq_false_iff_eq, beq_iff_eq, beq_eq_false_iff_ne, ne_eq] at g0); (try replace g0 := of_decide_eq_true g0); (try replace g0 := of_decide_eq_false g0))
      have hk : k = n := by omega
      subst hk
      exact fin _ h3.symm
end Sx
end

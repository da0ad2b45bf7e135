/- A part of the proof of PolyReadsSaid: texts SxVars1. -/
import Derived.Test.YtlnpmgmpakjhgaaGreatSxAV
import Derived.Test.YtlnpmgmpakjhgaaGreatSxAW
import Derived.Test.YtlnpmgmpakjhgaaGreatSxAX
set_option linter.all false
set_option maxRecDepth 100000
namespace Sx
open Go

theorem ins_fc {CN : CNt} {q : Qt} (hq : q = q0) (hCN : CN = CallN Pg) {zs : List Int} {nI v : Int} (hnI : nI = zs.length) (hb : zs.length ≤ 1000000000) {V : Int → Int} (hV : ∀ i : Nat, i < zs.length → V i = zs.getD i 0) {c0 c1 c2 c3 c4 d0 d1 d2 : T} {K : AV → List Blk → Prop}
    (hK1 : insL zs v = zs → K (.one (.row 1 nI)) [.box 96 [.t c0, .t c1, .t c2, .t c3, .t c4], .sl Ty.«int» 1 nI (fun i => [.int .i64 (V i)]), .box 168 [.t d0, .t d1, .t d2]])
    (hK2 : ∀ (mI : Int) (G : Int → List T), mI = ((insL zs v).length : Int) → (insL zs v).length = zs.length + 1 → (∀ i : Nat, i < (insL zs v).length → G i = [.int .i64 ((insL zs v).getD i 0)]) → K (.one (.row 3 mI)) [.box 96 [.t c0, .t c1, .t c2, .t c3, .t c4], .dead, .box 168 [.t d0, .t d1, .t d2], .sl Ty.«int» 1 mI G]) :
    CN F.amortcostref20_insert [.one (.row 1 nI), .one (.t (.int .i64 v))] [.box 96 [.t c0, .t c1, .t c2, .t c3, .t c4], .sl Ty.«int» 1 nI (fun i => [.int .i64 (V i)]), .box 168 [.t d0, .t d1, .t d2]] K := by
  refine call_ing mixed tau_ok At.amortcostref20_insert hq hCN rfl (fun DN hDN => ?_)
  (conv => cbv)
  generalize hQ : blockK 0 (seqK _ _) = Q1
  have hrest : ∀ (kI : Int) (k : Nat), kI = k → k ≤ zs.length → (∀ i : Nat, i < k → zs.getD i 0 < v) → (k < zs.length → v ≤ V k) → Q1 (.exit 0) ⟨mkS [(0, .one (.row 1 nI)), (1, .one (.t (.int .i64 v))), (5, .one (.t (.int .i64 kI)))] 0 49, [.box 96 [.t c0, .t c1, .t c2, .t c3, .t c4], .sl Ty.«int» 1 nI (fun i => [.int .i64 (V i)]), .box 168 [.t d0, .t d1, .t d2]]⟩ := by
    intro kI k hkI h1 h2 h3
    rw [← hQ]
    clear hQ
    (conv => cbv)
    have e1 : (q Int fun _ => IntKind.i64.wrap (kI + 1)) = kI + 1 := by subst hq; (try simp (disch := omega) only [q0, nc, w64_id, wu64_id, wu32_id, wu8_id, Int.tdiv_eq_ediv_of_nonneg, Int.tmod_eq_emod_of_nonneg, Int.ofNat_eq_natCast, Int.natAbs_natCast, decide_eq_true_eq, decide_eq_false_iff_not, Bool.not_eq_true', bne_iff_ne, beq_iff_eq, ne_eq])
    have e2 : (q Int fun _ => nI + Int.ofNat 1) = nI + 1 := by subst hq; rfl
    have e3 : (q Int fun _ => minI (q Int fun _ => (q Int fun _ => nI + Int.ofNat 1) - kI) (q Int fun _ => (q Int fun _ => nI + Int.ofNat 1) - q Int fun _ => IntKind.i64.wrap (kI + 1))) = nI - kI := by
      rw [e1, e2]
      subst hq
      show minI (nI + 1 - kI) (nI + 1 - (kI + 1)) = nI - kI
      unfold minI
      split <;> omega
    have main : (k < zs.length → v < V k) → ∀ G : Int → List T, G = updFn (cpyFn (kI + 1) (nI - kI) (appFn nI (fun i => [.int .i64 (V i)]) (fun i => [[T.int .i64 0]].getD i.toNat [])) (fun j => appFn nI (fun i => [.int .i64 (V i)]) (fun i => [[T.int .i64 0]].getD i.toNat []) (q Int fun _ => kI + j))) kI [.int .i64 v] →
        K (.one (.row 3 (nI + 1))) [.box 96 [.t c0, .t c1, .t c2, .t c3, .t c4], .dead, .box 168 [.t d0, .t d1, .t d2], .sl Ty.«int» 1 (nI + 1) G] := by
      intro hlt G hG
      have hins : insL zs v = zs.take k ++ v :: zs.drop k := insL_at h1 h2 (fun h => by rw [← hV k h]; exact hlt h)
      refine hK2 (nI + 1) G ?_ ?_ (fun i hi => ?_)
      · rw [hins, ins_len zs v h1]; omega
      · rw [hins, ins_len zs v h1]
      · rw [hins, ins_len zs v h1] at hi
        rw [hins, ins_getD zs v h1, hG]
        have eq2 : ∀ j : Int, (q Int fun _ => kI + j) = kI + j := fun j => by subst hq; rfl
        unfold updFn cpyFn appFn
        by_cases hik : i < k
        · rw [if_neg (by omega), if_neg (by omega), if_pos (by omega), if_pos hik, hV i (by omega)]
        · by_cases hik2 : i = k
          · rw [if_pos (by omega), if_neg hik, if_pos hik2]
          · rw [if_neg (by omega), if_pos (by omega), eq2, if_pos (by omega), if_neg hik, if_neg hik2, show kI + ((i : Int) - (kI + 1)) = ((i - 1 : Nat) : Int) by omega, hV (i - 1) (by omega)]
    rw [e3, e1, e2]
    split
    · rename_i g0
      rw [hq] at g0
      ((try simp (disch := omega) only [q0, nc, w64_id, wu64_id, wu32_id, wu8_id, Int.tdiv_eq_ediv_of_nonneg, Int.tmod_eq_emod_of_nonneg, Int.ofNat_eq_natCast, Int.natAbs_natCast, decide_eq_true_eq, decide_eq_false_iff_not, Bool.not_eq_true', Bool.not_eq_false', bne_iff_ne, bne_eq_false_iff_eq, beq_iff_eq, beq_eq_false_iff_ne, ne_eq] at g0); (try replace g0 := of_decide_eq_true g0); (try replace g0 := of_decide_eq_false g0))
      refine Need.mk (by omega) ?_
      split
      · rename_i g1
        rw [hq] at g1
        ((try simp (disch := omega) only [q0, nc, w64_id, wu64_id, wu32_id, wu8_id, Int.tdiv_eq_ediv_of_nonneg, Int.tmod_eq_emod_of_nonneg, Int.ofNat_eq_natCast, Int.natAbs_natCast, decide_eq_true_eq, decide_eq_false_iff_not, Bool.not_eq_true', Bool.not_eq_false', bne_iff_ne, bne_eq_false_iff_eq, beq_iff_eq, beq_eq_false_iff_ne, ne_eq] at g1); (try replace g1 := of_decide_eq_true g1); (try replace g1 := of_decide_eq_false g1))
        refine hK1 (insL_same (k := k) (by omega) h2 ?_)
        rw [← hV k (by omega), ← hkI]
        exact g1
      · rename_i g1
        rw [hq] at g1
        ((try simp (disch := omega) only [q0, nc, w64_id, wu64_id, wu32_id, wu8_id, Int.tdiv_eq_ediv_of_nonneg, Int.tmod_eq_emod_of_nonneg, Int.ofNat_eq_natCast, Int.natAbs_natCast, decide_eq_true_eq, decide_eq_false_iff_not, Bool.not_eq_true', Bool.not_eq_false', bne_iff_ne, bne_eq_false_iff_eq, beq_iff_eq, beq_eq_false_iff_ne, ne_eq] at g1); (try replace g1 := of_decide_eq_true g1); (try replace g1 := of_decide_eq_false g1))
        refine Need.mk (show (nI + 1) * 8 ≤ 140737488355328 by omega) (Need.mk (by (exact ⟨by kernel_rfl, by kernel_rfl⟩)) (Need.mk (by omega) (Need.mk (by omega) (Need.mk (by omega) (main (fun h => ?_) _ rfl)))))
        have h4 := h3 h
        rw [hkI] at g1
        omega
    · rename_i g0
      rw [hq] at g0
      ((try simp (disch := omega) only [q0, nc, w64_id, wu64_id, wu32_id, wu8_id, Int.tdiv_eq_ediv_of_nonneg, Int.tmod_eq_emod_of_nonneg, Int.ofNat_eq_natCast, Int.natAbs_natCast, decide_eq_true_eq, decide_eq_false_iff_not, Bool.not_eq_true', Bool.not_eq_false', bne_iff_ne, bne_eq_false_iff_eq, beq_iff_eq, beq_eq_false_iff_ne, ne_eq] at g0); (try replace g0 := of_decide_eq_true g0); (try replace g0 := of_decide_eq_false g0))
      refine Need.mk (show (nI + 1) * 8 ≤ 140737488355328 by omega) (Need.mk (by (exact ⟨by kernel_rfl, by kernel_rfl⟩)) (Need.mk (by omega) (Need.mk (by omega) (Need.mk (by omega) (main (fun h => by omega) _ rfl)))))
  clear hQ
  refine LoopN.mk [0, 1, 5] (fun d σ => ∃ k : Int, (0 ≤ k ∧ k ≤ zs.length ∧ d = ((zs.length : Int) - k).toNat ∧ ∀ i : Nat, (i : Int) < k → zs.getD i 0 < v) ∧
    σ = ⟨mkS [(0, .one (.row 1 nI)), (1, .one (.t (.int .i64 v))), (5, .one (.t (.int .i64 k)))] 0 49, [.box 96 [.t c0, .t c1, .t c2, .t c3, .t c4], .sl Ty.«int» 1 nI (fun i => [.int .i64 (V i)]), .box 168 [.t d0, .t d1, .t d2]]⟩) ⟨zs.length, 0, ⟨by omega, by omega, by omega, fun i hi => by omega⟩, ?_⟩ ?_
  · cbv
  · rintro d σ ⟨k, ⟨h1, h2, rfl, h3⟩, rfl⟩ K' hK'
    (conv => cbv)
    obtain ⟨k, rfl⟩ := Int.eq_ofNat_of_zero_le h1
    split
    · rename_i g0
      rw [hq] at g0
      ((try simp (disch := omega) only [q0, nc, w64_id, wu64_id, wu32_id, wu8_id, Int.tdiv_eq_ediv_of_nonneg, Int.tmod_eq_emod_of_nonneg, Int.ofNat_eq_natCast, Int.natAbs_natCast, decide_eq_true_eq, decide_eq_false_iff_not, Bool.not_eq_true', Bool.not_eq_false', bne_iff_ne, bne_eq_false_iff_eq, beq_iff_eq, beq_eq_false_iff_ne, ne_eq] at g0); (try replace g0 := of_decide_eq_true g0); (try replace g0 := of_decide_eq_false g0))
      refine Need.mk (by omega) ?_
      split
      · rename_i g1
        rw [hq] at g1
        ((try simp (disch := omega) only [q0, nc, w64_id, wu64_id, wu32_id, wu8_id, Int.tdiv_eq_ediv_of_nonneg, Int.tmod_eq_emod_of_nonneg, Int.ofNat_eq_natCast, Int.natAbs_natCast, decide_eq_true_eq, decide_eq_false_iff_not, Bool.not_eq_true', Bool.not_eq_false', bne_iff_ne, bne_eq_false_iff_eq, beq_iff_eq, beq_eq_false_iff_ne, ne_eq] at g1); (try replace g1 := of_decide_eq_true g1); (try replace g1 := of_decide_eq_false g1))
        have ek : (q Int fun _ => IntKind.i64.wrap ((k : Int) + 1)) = k + 1 := by subst hq; (try simp (disch := omega) only [q0, nc, w64_id, wu64_id, wu32_id, wu8_id, Int.tdiv_eq_ediv_of_nonneg, Int.tmod_eq_emod_of_nonneg, Int.ofNat_eq_natCast, Int.natAbs_natCast, decide_eq_true_eq, decide_eq_false_iff_not, Bool.not_eq_true', bne_iff_ne, beq_iff_eq, ne_eq])
        try simp only [nc, Int.ofNat_eq_natCast]
        rw [ek]
        refine hK' _ ⟨_, ?_, (k : Int) + 1, ⟨by omega, by omega, rfl, fun i hi => ?_⟩, rfl⟩
        · omega
        · by_cases hik : i = k
          · subst hik
            rw [← hV i (by omega)]
            exact g1
          · exact h3 i (by omega)
      · rename_i g1
        rw [hq] at g1
        ((try simp (disch := omega) only [q0, nc, w64_id, wu64_id, wu32_id, wu8_id, Int.tdiv_eq_ediv_of_nonneg, Int.tmod_eq_emod_of_nonneg, Int.ofNat_eq_natCast, Int.natAbs_natCast, decide_eq_true_eq, decide_eq_false_iff_not, Bool.not_eq_true', Bool.not_eq_false', bne_iff_ne, bne_eq_false_iff_eq, beq_iff_eq, beq_eq_false_iff_ne, ne_eq] at g1); (try replace g1 := of_decide_eq_true g1); (try replace g1 := of_decide_eq_false g1))
        exact hrest k k rfl (by omega) (fun i hi => h3 i (by omega)) (fun _ => by omega)
    · rename_i g0
      rw [hq] at g0
      ((try simp (disch := omega) only [q0, nc, w64_id, wu64_id, wu32_id, wu8_id, Int.tdiv_eq_ediv_of_nonneg, Int.tmod_eq_emod_of_nonneg, Int.ofNat_eq_natCast, Int.natAbs_natCast, decide_eq_true_eq, decide_eq_false_iff_not, Bool.not_eq_true', Bool.not_eq_false', bne_iff_ne, bne_eq_false_iff_eq, beq_iff_eq, beq_eq_false_iff_ne, ne_eq] at g0); (try replace g0 := of_decide_eq_true g0); (try replace g0 := of_decide_eq_false g0))
      exact hrest k k rfl (by omega) (fun i hi => h3 i (by omega)) (fun h => by omega)

theorem ins_lt {CN : CNt} {q : Qt} (hq : q = q0) (hCN : CN = CallN Pg) {zs : List Int} {nI v : Int} (hnI : nI = zs.length) (hb : zs.length ≤ 1000000000) {V : Int → Int} (hV : ∀ i : Nat, i < zs.length → V i = zs.getD i 0) {d0 d1 : T} {K : AV → List Blk → Prop}
    (hK1 : insL zs v = zs → K (.one (.row 0 nI)) [.sl Ty.«int» 1 nI (fun i => [.int .i64 (V i)]), .box 187 [.t d0, .t d1]])
    (hK2 : ∀ (mI : Int) (G : Int → List T), mI = ((insL zs v).length : Int) → (insL zs v).length = zs.length + 1 → (∀ i : Nat, i < (insL zs v).length → G i = [.int .i64 ((insL zs v).getD i 0)]) → K (.one (.row 2 mI)) [.dead, .box 187 [.t d0, .t d1], .sl Ty.«int» 1 mI G]) :
    CN F.amortcostref20_insert [.one (.row 0 nI), .one (.t (.int .i64 v))] [.sl Ty.«int» 1 nI (fun i => [.int .i64 (V i)]), .box 187 [.t d0, .t d1]] K := by
  refine call_ing mixed tau_ok At.amortcostref20_insert hq hCN rfl (fun DN hDN => ?_)
  (conv => cbv)
  generalize hQ : blockK 0 (seqK _ _) = Q1
  have hrest : ∀ (kI : Int) (k : Nat), kI = k → k ≤ zs.length → (∀ i : Nat, i < k → zs.getD i 0 < v) → (k < zs.length → v ≤ V k) → Q1 (.exit 0) ⟨mkS [(0, .one (.row 0 nI)), (1, .one (.t (.int .i64 v))), (5, .one (.t (.int .i64 kI)))] 0 49, [.sl Ty.«int» 1 nI (fun i => [.int .i64 (V i)]), .box 187 [.t d0, .t d1]]⟩ := by
    intro kI k hkI h1 h2 h3
    rw [← hQ]
    clear hQ
    (conv => cbv)
    have e1 : (q Int fun _ => IntKind.i64.wrap (kI + 1)) = kI + 1 := by subst hq; (try simp (disch := omega) only [q0, nc, w64_id, wu64_id, wu32_id, wu8_id, Int.tdiv_eq_ediv_of_nonneg, Int.tmod_eq_emod_of_nonneg, Int.ofNat_eq_natCast, Int.natAbs_natCast, decide_eq_true_eq, decide_eq_false_iff_not, Bool.not_eq_true', bne_iff_ne, beq_iff_eq, ne_eq])
    have e2 : (q Int fun _ => nI + Int.ofNat 1) = nI + 1 := by subst hq; rfl
    have e3 : (q Int fun _ => minI (q Int fun _ => (q Int fun _ => nI + Int.ofNat 1) - kI) (q Int fun _ => (q Int fun _ => nI + Int.ofNat 1) - q Int fun _ => IntKind.i64.wrap (kI + 1))) = nI - kI := by
      rw [e1, e2]
      subst hq
      show minI (nI + 1 - kI) (nI + 1 - (kI + 1)) = nI - kI
      unfold minI
      split <;> omega
    have main : (k < zs.length → v < V k) → ∀ G : Int → List T, G = updFn (cpyFn (kI + 1) (nI - kI) (appFn nI (fun i => [.int .i64 (V i)]) (fun i => [[T.int .i64 0]].getD i.toNat [])) (fun j => appFn nI (fun i => [.int .i64 (V i)]) (fun i => [[T.int .i64 0]].getD i.toNat []) (q Int fun _ => kI + j))) kI [.int .i64 v] →
        K (.one (.row 2 (nI + 1))) [.dead, .box 187 [.t d0, .t d1], .sl Ty.«int» 1 (nI + 1) G] := by
      intro hlt G hG
      have hins : insL zs v = zs.take k ++ v :: zs.drop k := insL_at h1 h2 (fun h => by rw [← hV k h]; exact hlt h)
      refine hK2 (nI + 1) G ?_ ?_ (fun i hi => ?_)
      · rw [hins, ins_len zs v h1]; omega
      · rw [hins, ins_len zs v h1]
      · rw [hins, ins_len zs v h1] at hi
        rw [hins, ins_getD zs v h1, hG]
        have eq2 : ∀ j : Int, (q Int fun _ => kI + j) = kI + j := fun j => by subst hq; rfl
        unfold updFn cpyFn appFn
        by_cases hik : i < k
        · rw [if_neg (by omega), if_neg (by omega), if_pos (by omega), if_pos hik, hV i (by omega)]
        · by_cases hik2 : i = k
          · rw [if_pos (by omega), if_neg hik, if_pos hik2]
          · rw [if_neg (by omega), if_pos (by omega), eq2, if_pos (by omega), if_neg hik, if_neg hik2, show kI + ((i : Int) - (kI + 1)) = ((i - 1 : Nat) : Int) by omega, hV (i - 1) (by omega)]
    rw [e3, e1, e2]
    split
    · rename_i g0
      rw [hq] at g0
      ((try simp (disch := omega) only [q0, nc, w64_id, wu64_id, wu32_id, wu8_id, Int.tdiv_eq_ediv_of_nonneg, Int.tmod_eq_emod_of_nonneg, Int.ofNat_eq_natCast, Int.natAbs_natCast, decide_eq_true_eq, decide_eq_false_iff_not, Bool.not_eq_true', Bool.not_eq_false', bne_iff_ne, bne_eq_false_iff_eq, beq_iff_eq, beq_eq_false_iff_ne, ne_eq] at g0); (try replace g0 := of_decide_eq_true g0); (try replace g0 := of_decide_eq_false g0))
      refine Need.mk (by omega) ?_
      split
      · rename_i g1
        rw [hq] at g1
        ((try simp (disch := omega) only [q0, nc, w64_id, wu64_id, wu32_id, wu8_id, Int.tdiv_eq_ediv_of_nonneg, Int.tmod_eq_emod_of_nonneg, Int.ofNat_eq_natCast, Int.natAbs_natCast, decide_eq_true_eq, decide_eq_false_iff_not, Bool.not_eq_true', Bool.not_eq_false', bne_iff_ne, bne_eq_false_iff_eq, beq_iff_eq, beq_eq_false_iff_ne, ne_eq] at g1); (try replace g1 := of_decide_eq_true g1); (try replace g1 := of_decide_eq_false g1))
        refine hK1 (insL_same (k := k) (by omega) h2 ?_)
        rw [← hV k (by omega), ← hkI]
        exact g1
      · rename_i g1
        rw [hq] at g1
        ((try simp (disch := omega) only [q0, nc, w64_id, wu64_id, wu32_id, wu8_id, Int.tdiv_eq_ediv_of_nonneg, Int.tmod_eq_emod_of_nonneg, Int.ofNat_eq_natCast, Int.natAbs_natCast, decide_eq_true_eq, decide_eq_false_iff_not, Bool.not_eq_true', Bool.not_eq_false', bne_iff_ne, bne_eq_false_iff_eq, beq_iff_eq, beq_eq_false_iff_ne, ne_eq] at g1); (try replace g1 := of_decide_eq_true g1); (try replace g1 := of_decide_eq_false g1))
        refine Need.mk (show (nI + 1) * 8 ≤ 140737488355328 by omega) (Need.mk (by (exact ⟨by kernel_rfl, by kernel_rfl⟩)) (Need.mk (by omega) (Need.mk (by omega) (Need.mk (by omega) (main (fun h => ?_) _ rfl)))))
        have h4 := h3 h
        rw [hkI] at g1
        omega
    · rename_i g0
      rw [hq] at g0
      ((try simp (disch := omega) only [q0, nc, w64_id, wu64_id, wu32_id, wu8_id, Int.tdiv_eq_ediv_of_nonneg, Int.tmod_eq_emod_of_nonneg, Int.ofNat_eq_natCast, Int.natAbs_natCast, decide_eq_true_eq, decide_eq_false_iff_not, Bool.not_eq_true', Bool.not_eq_false', bne_iff_ne, bne_eq_false_iff_eq, beq_iff_eq, beq_eq_false_iff_ne, ne_eq] at g0); (try replace g0 := of_decide_eq_true g0); (try replace g0 := of_decide_eq_false g0))
      refine Need.mk (show (nI + 1) * 8 ≤ 140737488355328 by omega) (Need.mk (by (exact ⟨by kernel_rfl, by kernel_rfl⟩)) (Need.mk (by omega) (Need.mk (by omega) (Need.mk (by omega) (main (fun h => by omega) _ rfl)))))
  clear hQ
  refine LoopN.mk [0, 1, 5] (fun d σ => ∃ k : Int, (0 ≤ k ∧ k ≤ zs.length ∧ d = ((zs.length : Int) - k).toNat ∧ ∀ i : Nat, (i : Int) < k → zs.getD i 0 < v) ∧
    σ = ⟨mkS [(0, .one (.row 0 nI)), (1, .one (.t (.int .i64 v))), (5, .one (.t (.int .i64 k)))] 0 49, [.sl Ty.«int» 1 nI (fun i => [.int .i64 (V i)]), .box 187 [.t d0, .t d1]]⟩) ⟨zs.length, 0, ⟨by omega, by omega, by omega, fun i hi => by omega⟩, ?_⟩ ?_
  · cbv
  · rintro d σ ⟨k, ⟨h1, h2, rfl, h3⟩, rfl⟩ K' hK'
    (conv => cbv)
    obtain ⟨k, rfl⟩ := Int.eq_ofNat_of_zero_le h1
    split
    · rename_i g0
      rw [hq] at g0
      ((try simp (disch := omega) only [q0, nc, w64_id, wu64_id, wu32_id, wu8_id, Int.tdiv_eq_ediv_of_nonneg, Int.tmod_eq_emod_of_nonneg, Int.ofNat_eq_natCast, Int.natAbs_natCast, decide_eq_true_eq, decide_eq_false_iff_not, Bool.not_eq_true', Bool.not_eq_false', bne_iff_ne, bne_eq_false_iff_eq, beq_iff_eq, beq_eq_false_iff_ne, ne_eq] at g0); (try replace g0 := of_decide_eq_true g0); (try replace g0 := of_decide_eq_false g0))
      refine Need.mk (by omega) ?_
      split
      · rename_i g1
        rw [hq] at g1
        ((try simp (disch := omega) only [q0, nc, w64_id, wu64_id, wu32_id, wu8_id, Int.tdiv_eq_ediv_of_nonneg, Int.tmod_eq_emod_of_nonneg, Int.ofNat_eq_natCast, Int.natAbs_natCast, decide_eq_true_eq, decide_eq_false_iff_not, Bool.not_eq_true', Bool.not_eq_false', bne_iff_ne, bne_eq_false_iff_eq, beq_iff_eq, beq_eq_false_iff_ne, ne_eq] at g1); (try replace g1 := of_decide_eq_true g1); (try replace g1 := of_decide_eq_false g1))
        have ek : (q Int fun _ => IntKind.i64.wrap ((k : Int) + 1)) = k + 1 := by subst hq; (try simp (disch := omega) only [q0, nc, w64_id, wu64_id, wu32_id, wu8_id, Int.tdiv_eq_ediv_of_nonneg, Int.tmod_eq_emod_of_nonneg, Int.ofNat_eq_natCast, Int.natAbs_natCast, decide_eq_true_eq, decide_eq_false_iff_not, Bool.not_eq_true', bne_iff_ne, beq_iff_eq, ne_eq])
        try simp only [nc, Int.ofNat_eq_natCast]
        rw [ek]
        refine hK' _ ⟨_, ?_, (k : Int) + 1, ⟨by omega, by omega, rfl, fun i hi => ?_⟩, rfl⟩
        · omega
        · by_cases hik : i = k
          · subst hik
            rw [← hV i (by omega)]
            exact g1
          · exact h3 i (by omega)
      · rename_i g1
        rw [hq] at g1
        ((try simp (disch := omega) only [q0, nc, w64_id, wu64_id, wu32_id, wu8_id, Int.tdiv_eq_ediv_of_nonneg, Int.tmod_eq_emod_of_nonneg, Int.ofNat_eq_natCast, Int.natAbs_natCast, decide_eq_true_eq, decide_eq_false_iff_not, Bool.not_eq_true', Bool.not_eq_false', bne_iff_ne, bne_eq_false_iff_eq, beq_iff_eq, beq_eq_false_iff_ne, ne_eq] at g1); (try replace g1 := of_decide_eq_true g1); (try replace g1 := of_decide_eq_false g1))
        exact hrest k k rfl (by omega) (fun i hi => h3 i (by omega)) (fun _ => by omega)
    · rename_i g0
      rw [hq] at g0
      ((try simp (disch := omega) only [q0, nc, w64_id, wu64_id, wu32_id, wu8_id, Int.tdiv_eq_ediv_of_nonneg, Int.tmod_eq_emod_of_nonneg, Int.ofNat_eq_natCast, Int.natAbs_natCast, decide_eq_true_eq, decide_eq_false_iff_not, Bool.not_eq_true', Bool.not_eq_false', bne_iff_ne, bne_eq_false_iff_eq, beq_iff_eq, beq_eq_false_iff_ne, ne_eq] at g0); (try replace g0 := of_decide_eq_true g0); (try replace g0 := of_decide_eq_false g0))
      exact hrest k k rfl (by omega) (fun i hi => h3 i (by omega)) (fun h => by omega)
end Sx

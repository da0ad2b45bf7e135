/- A part of the proof of PolyReadsSaid: texts SxRef4 SxKeep3. -/
import Derived.Test.YtlnpmgmpakjhgaaGreatSxAV
import Derived.Test.YtlnpmgmpakjhgaaGreatSxBJ
import Derived.Test.YtlnpmgmpakjhgaaGreatSxAZ
import Derived.Test.YtlnpmgmpakjhgaaGreatSxBI
set_option linter.all false
section
set_option maxRecDepth 100000
namespace Sx
open Go

theorem call_rel {P : Program} {CN : CNt} {q : Qt} {g : FuncId} {ts : Qt → List TV} {R : TV → Prop} {args : List AV} {H : List Blk} {K : AV → List Blk → Prop} (hq : q = q0) (hCN : CN = CallN P)
    (hc : PureC P g (ts q0) R) (ht : tos H args = some (ts q)) (hK : ∀ r, R r → K (ofTV r) H) : CN g args H K := by
  subst hq; subst hCN
  exact CallN.pure ht hc hK
theorem guess_c (r b : Nat) (hb : 2 ≤ len b) (hbl : len b ≤ 100000000) (hr : len r ≤ len b + 1) : PureC Pg F.amortcostref1_guess [.one (natT q0 r), .one (natT q0 b)] (fun x => ∃ d : Nat, d < 1000000000 ∧ x = .one (.int .u64 (d : Int))) := by
  refine walkR mixed tau_ok At.amortcostref1_guess (ts := fun q => [.one (natT q r), .one (natT q b)]) (fun CN DN q R hCN hDN hq hR => ?_)
  have fin : ∀ x : Int, 0 ≤ x → x < 1000000000 → R (.one (.int .u64 x)) := fun x h0 h1 => by
    obtain ⟨d, rfl⟩ := Int.eq_ofNat_of_zero_le h0
    exact hR _ _ ⟨d, by omega, rfl⟩ .refl
  (conv => cbv)
  split
  · exact fin 0 (by omega) (by omega)
  · rename_i g0
    rw [hq] at g0
    ((try simp (disch := omega) only [q0, nc, w64_id, wu64_id, wu32_id, wu8_id, Int.tdiv_eq_ediv_of_nonneg, Int.tmod_eq_emod_of_nonneg, Int.ofNat_eq_natCast, Int.natAbs_natCast, decide_eq_true_eq, decide_eq_false_iff_not, Bool.not_eq_true', Bool.not_eq_false', bne_iff_ne, bne_eq_false_iff_eq, beq_iff_eq, beq_eq_false_iff_ne, ne_eq] at g0); (try replace g0 := of_decide_eq_true g0); (try replace g0 := of_decide_eq_false g0))
    obtain ⟨n, hn⟩ : ∃ n, len b = n + 2 := ⟨len b - 2, by omega⟩
    have e1 : (q Int fun _ => IntKind.i64.wrap ((q Int fun _ => (len b : Int)) - 1)) = ((n + 1 : Nat) : Int) := by subst hq; (try simp (disch := omega) only [q0, nc, w64_id, wu64_id, wu32_id, wu8_id, Int.tdiv_eq_ediv_of_nonneg, Int.tmod_eq_emod_of_nonneg, Int.ofNat_eq_natCast, Int.natAbs_natCast, decide_eq_true_eq, decide_eq_false_iff_not, Bool.not_eq_true', bne_iff_ne, beq_iff_eq, ne_eq]); omega
    have e2 : (q Int fun _ => IntKind.i64.wrap ((q Int fun _ => (len b : Int)) - 2)) = (n : Int) := by subst hq; (try simp (disch := omega) only [q0, nc, w64_id, wu64_id, wu32_id, wu8_id, Int.tdiv_eq_ediv_of_nonneg, Int.tmod_eq_emod_of_nonneg, Int.ofNat_eq_natCast, Int.natAbs_natCast, decide_eq_true_eq, decide_eq_false_iff_not, Bool.not_eq_true', bne_iff_ne, beq_iff_eq, ne_eq]); omega
    rw [e1, e2]
    have hb1 := limb_lt b ((n + 1 : Nat) : Int)
    have hb1' := limb_nonneg b ((n + 1 : Nat) : Int)
    have hb0 := limb_lt b (n : Int)
    have hb0' := limb_nonneg b (n : Int)
    have hr1 := limb_lt r ((n + 1 : Nat) : Int)
    have hr1' := limb_nonneg r ((n + 1 : Nat) : Int)
    have hr0 := limb_lt r (n : Int)
    have hr0' := limb_nonneg r (n : Int)
    have htop : limb b ((n + 1 : Nat) : Int) ≠ 0 := by
      have h := limb_top (N := b) (fun h => by rw [h, len_zero] at hb; omega)
      rw [show ((len b : Int) - 1) = ((n + 1 : Nat) : Int) by omega] at h
      exact h
    obtain ⟨tp, htp⟩ : ∃ tp : Int, tp = limb b ((n + 1 : Nat) : Int) * 1000000000 + limb b (n : Int) := ⟨_, rfl⟩
    obtain ⟨hv, hhv⟩ : ∃ hv : Int, hv = limb r ((n + 1 : Nat) : Int) * 1000000000 + limb r (n : Int) := ⟨_, rfl⟩
    have et : (q Int fun _ => IntKind.u64.wrap ((q Int fun _ => IntKind.u64.wrap ((q Int fun _ => IntKind.u64.wrap (q Int fun _ => limb b ((n + 1 : Nat) : Int))) * 1000000000)) + q Int fun _ => IntKind.u64.wrap (q Int fun _ => limb b (n : Int)))) = tp := by
      subst hq
      simp (disch := omega) only [q0, wu64_id]
      exact htp.symm
    have eh : (q Int fun _ => IntKind.u64.wrap ((q Int fun _ => IntKind.u64.wrap ((q Int fun _ => IntKind.u64.wrap (q Int fun _ => limb r ((n + 1 : Nat) : Int))) * 1000000000)) + q Int fun _ => IntKind.u64.wrap (q Int fun _ => limb r (n : Int)))) = hv := by
      subst hq
      simp (disch := omega) only [q0, wu64_id]
      exact hhv.symm
    rw [et, eh]
    have t1 : 1000000000 ≤ tp := by omega
    have t2 : tp < 1000000000000000000 := by omega
    have v1 : 0 ≤ hv := by omega
    have v2 : hv < 1000000000000000000 := by omega
    refine Need.mk (by (exact ⟨by kernel_rfl, by kernel_rfl⟩)) (Need.mk (by subst hq; (try simp (disch := omega) only [q0, nc, w64_id, wu64_id, wu32_id, wu8_id, Int.tdiv_eq_ediv_of_nonneg, Int.tmod_eq_emod_of_nonneg, Int.ofNat_eq_natCast, Int.natAbs_natCast, decide_eq_true_eq, decide_eq_false_iff_not, Bool.not_eq_true', bne_iff_ne, beq_iff_eq, ne_eq]); omega) (Need.mk (by subst hq; (try simp (disch := omega) only [q0, nc, w64_id, wu64_id, wu32_id, wu8_id, Int.tdiv_eq_ediv_of_nonneg, Int.tmod_eq_emod_of_nonneg, Int.ofNat_eq_natCast, Int.natAbs_natCast, decide_eq_true_eq, decide_eq_false_iff_not, Bool.not_eq_true', bne_iff_ne, beq_iff_eq, ne_eq]); omega) (Need.mk (by (exact ⟨by kernel_rfl, by kernel_rfl⟩)) (Need.mk (by subst hq; (try simp (disch := omega) only [q0, nc, w64_id, wu64_id, wu32_id, wu8_id, Int.tdiv_eq_ediv_of_nonneg, Int.tmod_eq_emod_of_nonneg, Int.ofNat_eq_natCast, Int.natAbs_natCast, decide_eq_true_eq, decide_eq_false_iff_not, Bool.not_eq_true', bne_iff_ne, beq_iff_eq, ne_eq]); omega) (Need.mk (by subst hq; (try simp (disch := omega) only [q0, nc, w64_id, wu64_id, wu32_id, wu8_id, Int.tdiv_eq_ediv_of_nonneg, Int.tmod_eq_emod_of_nonneg, Int.ofNat_eq_natCast, Int.natAbs_natCast, decide_eq_true_eq, decide_eq_false_iff_not, Bool.not_eq_true', bne_iff_ne, beq_iff_eq, ne_eq]); omega) ?_)))))
    clear et eh e1 e2
    split
    · have h1 : 0 ≤ hv / tp := Int.ediv_nonneg v1 (by omega)
      have h2 : hv / tp < 1000000000 := Int.ediv_lt_of_lt_mul (by omega) (by omega)
      have e : (q Int fun _ => IntKind.u64.wrap (hv.tdiv tp)) = hv / tp := by
        subst hq
        simp (disch := omega) only [q0, Int.tdiv_eq_ediv_of_nonneg, wu64_id]
      rw [e]
      exact Need.mk (by omega) (fin _ h1 h2)
    · rename_i g1
      rw [hq] at g1
      ((try simp (disch := omega) only [q0, nc, w64_id, wu64_id, wu32_id, wu8_id, Int.tdiv_eq_ediv_of_nonneg, Int.tmod_eq_emod_of_nonneg, Int.ofNat_eq_natCast, Int.natAbs_natCast, decide_eq_true_eq, decide_eq_false_iff_not, Bool.not_eq_true', Bool.not_eq_false', bne_iff_ne, bne_eq_false_iff_eq, beq_iff_eq, beq_eq_false_iff_ne, ne_eq] at g1); (try replace g1 := of_decide_eq_true g1); (try replace g1 := of_decide_eq_false g1))
      have hrl := limb_lt r (len b : Int)
      have hrl' := limb_nonneg r (len b : Int)
      have c1 : FLe 4876203697187506176 60 := ⟨7812500000000000, 7, by decide, .inr ⟨by decide, by decide⟩⟩
      obtain ⟨b1, p1, p1'⟩ := fmul_le (ofInt_le (k := 30) hrl' (by omega) (by decide)) c1 (by decide) (by decide)
      obtain ⟨b2, p2, p2'⟩ := fadd_le (t := 91) p1' (ofInt_le (k := 60) v1 (by omega) (by decide)) (by decide) (by decide) (by decide) (by decide)
      obtain ⟨b3, p3, p3'⟩ := fdiv_le p2' (ofInt_in (l := 29) (k := 60) (n := tp) (by omega) (by omega) (by decide)) (by decide) (by decide)
      obtain ⟨d, p4, p5, p6⟩ := ftoU64 (k := 63) p3' (by decide)
      subst hq
      refine Need.mk (by (try simp (disch := omega) only [q0, nc, w64_id, wu64_id, wu32_id, wu8_id, Int.tdiv_eq_ediv_of_nonneg, Int.tmod_eq_emod_of_nonneg, Int.ofNat_eq_natCast, Int.natAbs_natCast, decide_eq_true_eq, decide_eq_false_iff_not, Bool.not_eq_true', bne_iff_ne, beq_iff_eq, ne_eq]); omega) ?_
      simp only [q0, p1, p2, p3, p4, Option.isSome_some, Option.getD_some]
      refine Need.mk trivial (Need.mk trivial (Need.mk trivial (Need.mk trivial ?_)))
      have w1 := wu64 (d + 2)
      refine fin _ ?_ ?_
      · split <;> omega
      · split <;> omega
end Sx
end

section
set_option maxRecDepth 100000
namespace Sx
open Go

theorem kmono_main (n m : Nat) (hn : n ≤ lenB) (hm : m ≤ lenB) (A0 A1 A2 : Int → T) (B0 : Int → Int) (nl : Int → Nat) (G : Int → Int → List T) (B2 : Int → T)
    (h : ∀ i : Nat, i < n → PureC Pg F.amortcostkeep_Index [.agg [A1 i, A2 i]] (fun r => ∃ b, r = .one (.bool b))) :
    PureC Pg F.amortcostkeep_Mono [.agg [.sl 3 n (fun i => [A0 i, A1 i, A2 i]), .sl 3 m (fun i => [.int .i64 (B0 i), .sl 2 (nl i) (G i), B2 i])]] (fun r => ∃ b, r = .one (.bool b) ∧ (b = true → n ≤ 8 ∧ m ≤ 8 ∧ ∀ i : Nat, i < m → nl i ≤ 70)) := by
  have hn2 : n ≤ 9223372036854775807 := hn
  have hm2 : m ≤ 9223372036854775807 := hm
  refine walkR mixed tau_ok At.amortcostkeep_Mono (ts := fun q => [.agg [.sl 3 (q Int fun _ => (n : Int)) (fun i => [A0 i, A1 i, A2 i]), .sl 3 (q Int fun _ => (m : Int)) (fun i => [.int .i64 (B0 i), .sl 2 ((fun i => (nl i : Int)) i) (G i), B2 i])]]) (fun CN DN q R hCN hDN hq hR => ?_)
  have fin : R (.one (.bool false)) := hR _ _ ⟨false, rfl, fun h => by cases h⟩ .refl
  obtain ⟨nI, hnI⟩ : ∃ nI, nI = q Int fun _ => (n : Int) := ⟨_, rfl⟩
  obtain ⟨mI, hmI⟩ : ∃ mI, mI = q Int fun _ => (m : Int) := ⟨_, rfl⟩
  obtain ⟨lI, hlI⟩ : ∃ lI : Int → Int, lI = fun i => (nl i : Int) := ⟨_, rfl⟩
  rw [← hnI, ← hmI, ← hlI]
  have hnI' : nI = n := by rw [hnI]; subst hq; rfl
  have hmI' : mI = m := by rw [hmI]; subst hq; rfl
  have hlI' : ∀ i, lI i = nl i := fun i => by rw [hlI]
  clear hnI hmI hlI
  (conv => cbv)
  split
  · exact fin
  · rename_i g0
    rw [hq] at g0
    ((try simp (disch := omega) only [q0, nc, w64_id, wu64_id, wu32_id, wu8_id, Int.tdiv_eq_ediv_of_nonneg, Int.tmod_eq_emod_of_nonneg, Int.ofNat_eq_natCast, Int.natAbs_natCast, decide_eq_true_eq, decide_eq_false_iff_not, Bool.not_eq_true', Bool.not_eq_false', bne_iff_ne, bne_eq_false_iff_eq, beq_iff_eq, beq_eq_false_iff_ne, ne_eq] at g0); (try replace g0 := of_decide_eq_true g0); (try replace g0 := of_decide_eq_false g0))
    split
    · exact fin
    · rename_i g1
      rw [hq] at g1
      ((try simp (disch := omega) only [q0, nc, w64_id, wu64_id, wu32_id, wu8_id, Int.tdiv_eq_ediv_of_nonneg, Int.tmod_eq_emod_of_nonneg, Int.ofNat_eq_natCast, Int.natAbs_natCast, decide_eq_true_eq, decide_eq_false_iff_not, Bool.not_eq_true', Bool.not_eq_false', bne_iff_ne, bne_eq_false_iff_eq, beq_iff_eq, beq_eq_false_iff_ne, ne_eq] at g1); (try replace g1 := of_decide_eq_true g1); (try replace g1 := of_decide_eq_false g1))
      refine LoopN.mk [1, 18, 19, 20] (fun d σ => ∃ k : Int, (0 ≤ k ∧ k ≤ n ∧ d = ((n : Int) - k).toNat) ∧
        σ = ⟨mkS [(1, .one (.bp 0 0)), (18, .one (.t (.sl 3 nI (fun i => [A0 i, A1 i, A2 i])))), (19, .one (.t (.int .i64 nI))), (20, .one (.t (.int .i64 k)))] 0 41, [.box 85 [.t (.sl 3 nI (fun i => [A0 i, A1 i, A2 i])), .t (.sl 3 mI (fun i => [.int .i64 (B0 i), .sl 2 (lI i) (G i), B2 i]))]]⟩) ⟨n, 0, ⟨by omega, by omega, by omega⟩, ?_⟩ ?_
      · cbv
      · rintro d σ ⟨k, ⟨h1, h2, rfl⟩, rfl⟩ K' hK'
        (conv => cbv)
        obtain ⟨k, rfl⟩ := Int.eq_ofNat_of_zero_le h1
        split
        · rename_i g2
          rw [hq] at g2
          ((try simp (disch := omega) only [q0, nc, w64_id, wu64_id, wu32_id, wu8_id, Int.tdiv_eq_ediv_of_nonneg, Int.tmod_eq_emod_of_nonneg, Int.ofNat_eq_natCast, Int.natAbs_natCast, decide_eq_true_eq, decide_eq_false_iff_not, Bool.not_eq_true', Bool.not_eq_false', bne_iff_ne, bne_eq_false_iff_eq, beq_iff_eq, beq_eq_false_iff_ne, ne_eq] at g2); (try replace g2 := of_decide_eq_true g2); (try replace g2 := of_decide_eq_false g2))
          refine Need.mk (by omega) ?_
          refine call_rel (ts := fun _ => _) hq hCN (h k (by omega)) rfl (fun r hr => ?_)
          obtain ⟨b, rfl⟩ := hr
          (conv => cbv)
          cases b
          · have e1 : (q Bool fun _ => !false) = true := by subst hq; rfl
            rw [e1]
            exact fin
          · have e1 : (q Bool fun _ => !true) = false := by subst hq; rfl
            rw [e1]
            try simp only [nc, Int.ofNat_eq_natCast]
            have ek : (q Int fun _ => IntKind.i64.wrap ((k : Int) + 1)) = k + 1 := by subst hq; (try simp (disch := omega) only [q0, nc, w64_id, wu64_id, wu32_id, wu8_id, Int.tdiv_eq_ediv_of_nonneg, Int.tmod_eq_emod_of_nonneg, Int.ofNat_eq_natCast, Int.natAbs_natCast, decide_eq_true_eq, decide_eq_false_iff_not, Bool.not_eq_true', bne_iff_ne, beq_iff_eq, ne_eq])
            rw [ek]
            exact hK' _ ⟨_, by omega, (k : Int) + 1, ⟨by omega, by omega, rfl⟩, rfl⟩
        · refine LoopN.mk [30, 31, 32] (fun d σ => ∃ k : Int, (0 ≤ k ∧ k ≤ m ∧ d = ((m : Int) - k).toNat ∧ ∀ i : Nat, i < k → nl i ≤ 70) ∧
            σ = ⟨mkS [(30, .one (.t (.sl 3 mI (fun i => [.int .i64 (B0 i), .sl 2 (lI i) (G i), B2 i])))), (31, .one (.t (.int .i64 mI))), (32, .one (.t (.int .i64 k)))] 0 41, []⟩) ⟨m, 0, ⟨by omega, by omega, by omega, fun i hi => by omega⟩, ?_⟩ ?_
          · cbv
          · rintro d σ ⟨k, ⟨h1, h2, rfl, h4⟩, rfl⟩ K' hK'
            (conv => cbv)
            obtain ⟨k, rfl⟩ := Int.eq_ofNat_of_zero_le h1
            split
            · rename_i g2
              rw [hq] at g2
              ((try simp (disch := omega) only [q0, nc, w64_id, wu64_id, wu32_id, wu8_id, Int.tdiv_eq_ediv_of_nonneg, Int.tmod_eq_emod_of_nonneg, Int.ofNat_eq_natCast, Int.natAbs_natCast, decide_eq_true_eq, decide_eq_false_iff_not, Bool.not_eq_true', Bool.not_eq_false', bne_iff_ne, bne_eq_false_iff_eq, beq_iff_eq, beq_eq_false_iff_ne, ne_eq] at g2); (try replace g2 := of_decide_eq_true g2); (try replace g2 := of_decide_eq_false g2))
              refine Need.mk (by omega) ?_
              have hl := lin_c (B0 k) (nl k) (G k)
              rw [← hlI' k] at hl
              refine call_rel (ts := fun _ => _) hq hCN hl rfl (fun r hr => ?_)
              obtain ⟨b, rfl, hb⟩ := hr
              (conv => cbv)
              cases b
              · have e1 : (q Bool fun _ => !false) = true := by subst hq; rfl
                rw [e1]
                exact fin
              · have e1 : (q Bool fun _ => !true) = false := by subst hq; rfl
                rw [e1]
                try simp only [nc, Int.ofNat_eq_natCast]
                have ek : (q Int fun _ => IntKind.i64.wrap ((k : Int) + 1)) = k + 1 := by subst hq; (try simp (disch := omega) only [q0, nc, w64_id, wu64_id, wu32_id, wu8_id, Int.tdiv_eq_ediv_of_nonneg, Int.tmod_eq_emod_of_nonneg, Int.ofNat_eq_natCast, Int.natAbs_natCast, decide_eq_true_eq, decide_eq_false_iff_not, Bool.not_eq_true', bne_iff_ne, beq_iff_eq, ne_eq])
                rw [ek]
                refine hK' _ ⟨_, by omega, (k : Int) + 1, ⟨by omega, by omega, rfl, fun i hi => ?_⟩, rfl⟩
                by_cases e : i = k
                · subst e
                  exact hb rfl
                · exact h4 i (by omega)
            · rename_i g2
              rw [hq] at g2
              ((try simp (disch := omega) only [q0, nc, w64_id, wu64_id, wu32_id, wu8_id, Int.tdiv_eq_ediv_of_nonneg, Int.tmod_eq_emod_of_nonneg, Int.ofNat_eq_natCast, Int.natAbs_natCast, decide_eq_true_eq, decide_eq_false_iff_not, Bool.not_eq_true', Bool.not_eq_false', bne_iff_ne, bne_eq_false_iff_eq, beq_iff_eq, beq_eq_false_iff_ne, ne_eq] at g2); (try replace g2 := of_decide_eq_true g2); (try replace g2 := of_decide_eq_false g2))
              refine hR _ _ ⟨true, rfl, fun _ => ⟨by omega, by omega, fun i hi => h4 i (by omega)⟩⟩ .refl
theorem kterms_main (n : Nat) (hn : n ≤ lenB) (C0 C1 C2 C3 C4 : Int → T) (P1 P2 : Nat → Prop)
    (h1 : ∀ i : Nat, i < n → PureC Pg F.amortcostkeep_Mono [.agg [C3 i, C4 i]] (fun r => ∃ b, r = .one (.bool b) ∧ (b = true → P1 i)))
    (h2 : ∀ i : Nat, i < n → PureC Pg F.amortcostkeep_Rat [.agg [C0 i, C1 i, C2 i]] (fun r => ∃ b, r = .one (.bool b) ∧ (b = true → P2 i))) :
    PureC Pg F.amortcostkeep_Terms [.one (.sl 5 n (fun i => [C0 i, C1 i, C2 i, C3 i, C4 i])), .one (.int .i64 10)] (fun r => ∃ b, r = .one (.bool b) ∧ (b = true → n ≤ 10 ∧ ∀ i : Nat, i < n → P1 i ∧ P2 i)) := by
  have hn2 : n ≤ 9223372036854775807 := hn
  refine walkR mixed tau_ok At.amortcostkeep_Terms (ts := fun q => [.one (.sl 5 (q Int fun _ => (n : Int)) (fun i => [C0 i, C1 i, C2 i, C3 i, C4 i])), .one (.int .i64 10)]) (fun CN DN q R hCN hDN hq hR => ?_)
  have fin : R (.one (.bool false)) := hR _ _ ⟨false, rfl, fun h => by cases h⟩ .refl
  obtain ⟨nI, hnI⟩ : ∃ nI, nI = q Int fun _ => (n : Int) := ⟨_, rfl⟩
  rw [← hnI]
  have hnI' : nI = n := by rw [hnI]; subst hq; rfl
  clear hnI
  (conv => cbv)
  refine LoopN.mk [0, 1, 5] (fun d σ => ∃ k : Int, (0 ≤ k ∧ k ≤ n ∧ d = ((n : Int) - k).toNat ∧ ∀ i : Nat, i < k → P1 i ∧ P2 i) ∧
    σ = ⟨mkS [(0, .one (.t (.sl 5 nI (fun i => [C0 i, C1 i, C2 i, C3 i, C4 i])))), (1, .one (.t (.int .i64 10))), (5, .one (.t (.int .i64 k)))] 0 37, []⟩) ⟨n, 0, ⟨by omega, by omega, by omega, fun i hi => by omega⟩, ?_⟩ ?_
  · cbv
  · rintro d σ ⟨k, ⟨g1, g2, rfl, g3⟩, rfl⟩ K' hK'
    have last : K' = K' := rfl
    (conv => cbv)
    obtain ⟨k, rfl⟩ := Int.eq_ofNat_of_zero_le g1
    split
    · rename_i g0
      rw [hq] at g0
      ((try simp (disch := omega) only [q0, nc, w64_id, wu64_id, wu32_id, wu8_id, Int.tdiv_eq_ediv_of_nonneg, Int.tmod_eq_emod_of_nonneg, Int.ofNat_eq_natCast, Int.natAbs_natCast, decide_eq_true_eq, decide_eq_false_iff_not, Bool.not_eq_true', Bool.not_eq_false', bne_iff_ne, bne_eq_false_iff_eq, beq_iff_eq, beq_eq_false_iff_ne, ne_eq] at g0); (try replace g0 := of_decide_eq_true g0); (try replace g0 := of_decide_eq_false g0))
      split
      · rename_i g4
        rw [hq] at g4
        ((try simp (disch := omega) only [q0, nc, w64_id, wu64_id, wu32_id, wu8_id, Int.tdiv_eq_ediv_of_nonneg, Int.tmod_eq_emod_of_nonneg, Int.ofNat_eq_natCast, Int.natAbs_natCast, decide_eq_true_eq, decide_eq_false_iff_not, Bool.not_eq_true', Bool.not_eq_false', bne_iff_ne, bne_eq_false_iff_eq, beq_iff_eq, beq_eq_false_iff_ne, ne_eq] at g4); (try replace g4 := of_decide_eq_true g4); (try replace g4 := of_decide_eq_false g4))
        refine Need.mk (by omega) ?_
        refine call_rel (ts := fun _ => _) hq hCN (h1 k (by omega)) rfl (fun r hr => ?_)
        obtain ⟨b, rfl, hb⟩ := hr
        (conv => cbv)
        cases b
        · have e1 : (q Bool fun _ => !false) = true := by subst hq; rfl
          rw [e1]
          exact fin
        · have e1 : (q Bool fun _ => !true) = false := by subst hq; rfl
          rw [e1]
          dsimp only
          try simp only [nc, Int.ofNat_eq_natCast]
          refine Need.mk (by omega) ?_
          refine call_rel (ts := fun _ => _) hq hCN (h2 k (by omega)) rfl (fun r hr => ?_)
          obtain ⟨b, rfl, hb'⟩ := hr
          (conv => cbv)
          cases b
          · have e1 : (q Bool fun _ => !false) = true := by subst hq; rfl
            rw [e1]
            exact fin
          · have e1 : (q Bool fun _ => !true) = false := by subst hq; rfl
            rw [e1]
            try simp only [nc, Int.ofNat_eq_natCast]
            have ek : (q Int fun _ => IntKind.i64.wrap ((k : Int) + 1)) = k + 1 := by subst hq; (try simp (disch := omega) only [q0, nc, w64_id, wu64_id, wu32_id, wu8_id, Int.tdiv_eq_ediv_of_nonneg, Int.tmod_eq_emod_of_nonneg, Int.ofNat_eq_natCast, Int.natAbs_natCast, decide_eq_true_eq, decide_eq_false_iff_not, Bool.not_eq_true', bne_iff_ne, beq_iff_eq, ne_eq])
            rw [ek]
            refine hK' _ ⟨_, by omega, (k : Int) + 1, ⟨by omega, by omega, rfl, fun i hi => ?_⟩, rfl⟩
            by_cases e : i = k
            · subst e
              exact ⟨hb rfl, hb' rfl⟩
            · exact g3 i (by omega)
      · rename_i g4
        rw [hq] at g4
        ((try simp (disch := omega) only [q0, nc, w64_id, wu64_id, wu32_id, wu8_id, Int.tdiv_eq_ediv_of_nonneg, Int.tmod_eq_emod_of_nonneg, Int.ofNat_eq_natCast, Int.natAbs_natCast, decide_eq_true_eq, decide_eq_false_iff_not, Bool.not_eq_true', Bool.not_eq_false', bne_iff_ne, bne_eq_false_iff_eq, beq_iff_eq, beq_eq_false_iff_ne, ne_eq] at g4); (try replace g4 := of_decide_eq_true g4); (try replace g4 := of_decide_eq_false g4))
        refine hR _ _ ⟨_, rfl, fun h => ?_⟩ .refl
        rw [hq] at h
        ((try simp (disch := omega) only [q0, nc, w64_id, wu64_id, wu32_id, wu8_id, Int.tdiv_eq_ediv_of_nonneg, Int.tmod_eq_emod_of_nonneg, Int.ofNat_eq_natCast, Int.natAbs_natCast, decide_eq_true_eq, decide_eq_false_iff_not, Bool.not_eq_true', Bool.not_eq_false', bne_iff_ne, bne_eq_false_iff_eq, beq_iff_eq, beq_eq_false_iff_ne, ne_eq] at h); (try replace h := of_decide_eq_true h); (try replace h := of_decide_eq_false h))
        omega
    · rename_i g0
      rw [hq] at g0
      ((try simp (disch := omega) only [q0, nc, w64_id, wu64_id, wu32_id, wu8_id, Int.tdiv_eq_ediv_of_nonneg, Int.tmod_eq_emod_of_nonneg, Int.ofNat_eq_natCast, Int.natAbs_natCast, decide_eq_true_eq, decide_eq_false_iff_not, Bool.not_eq_true', Bool.not_eq_false', bne_iff_ne, bne_eq_false_iff_eq, beq_iff_eq, beq_eq_false_iff_ne, ne_eq] at g0); (try replace g0 := of_decide_eq_true g0); (try replace g0 := of_decide_eq_false g0))
      refine hR _ _ ⟨_, rfl, fun h => ?_⟩ .refl
      rw [hq] at h
      ((try simp (disch := omega) only [q0, nc, w64_id, wu64_id, wu32_id, wu8_id, Int.tdiv_eq_ediv_of_nonneg, Int.tmod_eq_emod_of_nonneg, Int.ofNat_eq_natCast, Int.natAbs_natCast, decide_eq_true_eq, decide_eq_false_iff_not, Bool.not_eq_true', Bool.not_eq_false', bne_iff_ne, bne_eq_false_iff_eq, beq_iff_eq, beq_eq_false_iff_ne, ne_eq] at h); (try replace h := of_decide_eq_true h); (try replace h := of_decide_eq_false h))
      exact ⟨by omega, fun i hi => g3 i (by omega)⟩
end Sx
end

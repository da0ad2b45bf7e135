/- A part of the proof of PolyReadsSaid: texts SxVars2 TryzShelf. -/
import Derived.Test.YtlnpmgmpakjhgaaGreatSxAY
import Derived.Test.YtlnpmgmpakjhgaaGreatSxBC
import Derived.Shelf.Sort.Plain
import Derived.Ground.Names2Prog
import Derived.Shelf.Slices.CompactI
import Derived.Shelf.Slices.Cells
import Derived.Shelf.Slices.In.SortNone
import Derived.Test.YtlnpmgmpakjhgaaGreatProg
set_option linter.all false
section
set_option maxRecDepth 100000
namespace Sx
open Go

def intsT (l : List Int) : T := .sl 1 (l.length : Int) (fun i => [.int .i64 (l.getD i.toNat 0)])
theorem TE.ints {l : List Int} {n : Int} {G : Int → List T} (hn : n = l.length) (hG : ∀ i : Nat, i < l.length → G i = [.int .i64 (l.getD i 0)]) : TE (.sl 1 n G) (intsT l) :=
  TE.ext hn (fun i hi => by rw [hG i (by omega)]; rfl)

set_option maxHeartbeats 4000000 in
theorem refVars_main (n : Nat) (hn : n ≤ 1000000) (C0 C1 C2 : Int → T) (nf na : Int → Nat) (nl : Int → Int → Nat) (fv : Int → Int → Int) (F1 F2 a0 a2 : Int → Int → T) (lv : Int → Int → Int → Int) (L1 : Int → Int → Int → T)
    (hf : ∀ i : Nat, i < n → nf i ≤ 1000000) (ha : ∀ i : Nat, i < n → na i ≤ 1000000) (hl : ∀ i j : Nat, i < n → j < na i → nl i j ≤ 1000000) (hB : (rl3 nf na nl fv lv n).length ≤ 100000000) :
    PureF Pg F.amortcostref20_Vars (fun q => [.one (.sl 5 (q Int fun _ => (n : Int)) (fun i => [C0 i, C1 i, C2 i, .sl 3 (q Int fun _ => (nf i : Int)) (fun j => [.int .i64 (fv i j), F1 i j, F2 i j]), .sl 3 (q Int fun _ => (na i : Int)) (fun j => [a0 i j, .sl 2 (q Int fun _ => (nl i j : Int)) (fun l => [.int .i64 (lv i j l), L1 i j l]), a2 i j])]))])
      (fun _ => .one (intsT (insAll [] (rl3 nf na nl fv lv n)))) := by
  refine walkF mixed tau_ok At.amortcostref20_Vars (fun CN DN q R hCN hDN hq hR => ?_)
  obtain ⟨W, hW⟩ : ∃ W : Nat → List Int, W = rl3 nf na nl fv lv := ⟨_, rfl⟩
  rw [← hW] at hB hR
  have hW0 : W 0 = [] := by rw [hW]; rfl
  have hW1 : ∀ k : Nat, W (k + 1) = W k ++ (rl (fv k) (nf k) ++ rl2 (nl k) (lv k) (na k)) := fun k => by rw [hW]; rfl
  have hW2 : ∀ k : Nat, k < n → (W k).length + (nf k + (rl2 (nl k) (lv k) (na k)).length) ≤ 100000000 := fun k hk => by
    have := rl3_le (nf := nf) (na := na) (nl := nl) (fv := fv) (lv := lv) hk
    rw [← hW] at this
    omega
  clear hW
  have fin : ∀ (mI : Int) (G : Int → List T), mI = (insAll [] (W n)).length → (∀ i : Nat, i < (insAll [] (W n)).length → G i = [.int .i64 ((insAll [] (W n)).getD i 0)]) → R (.one (.sl 1 mI G)) := fun mI G h1 h2 => hR _ (.one (TE.ints h1 h2))
  clear hR
  obtain ⟨nI, hnI⟩ : ∃ nI, nI = q Int fun _ => (n : Int) := ⟨_, rfl⟩
  obtain ⟨fI, hfI⟩ : ∃ fI : Int → Int, fI = fun i => q Int fun _ => (nf i : Int) := ⟨_, rfl⟩
  obtain ⟨aI, haI⟩ : ∃ aI : Int → Int, aI = fun i => q Int fun _ => (na i : Int) := ⟨_, rfl⟩
  obtain ⟨lI, hlI⟩ : ∃ lI : Int → Int → Int, lI = fun i j => q Int fun _ => (nl i j : Int) := ⟨_, rfl⟩
  show awp CN DN q tau 0 _ ⟨startS _ ((([.one (.sl 5 (q Int fun _ => (n : Int)) (fun i => [C0 i, C1 i, C2 i, .sl 3 ((fun i => q Int fun _ => (nf i : Int)) i) (fun j => [.int .i64 (fv i j), F1 i j, F2 i j]), .sl 3 ((fun i => q Int fun _ => (na i : Int)) i) (fun j => [a0 i j, .sl 2 ((fun i j => q Int fun _ => (nl i j : Int)) i j) (fun l => [.int .i64 (lv i j l), L1 i j l]), a2 i j])]))]) : List TV).map ofTV), []⟩ _
  rw [← hnI, ← hfI, ← haI, ← hlI]
  have hnI' : nI = n := by rw [hnI]; subst hq; rfl
  have hfI' : ∀ i, fI i = nf i := fun i => by rw [hfI]; subst hq; rfl
  have haI' : ∀ i, aI i = na i := fun i => by rw [haI]; subst hq; rfl
  have hlI' : ∀ i j, lI i j = nl i j := fun i j => by rw [hlI]; subst hq; rfl
  clear hnI hfI haI hlI
  (conv => cbv)
  refine LoopN.mr [3, 12, 13, 14] [(3, Ty.«int», 1)] (fun d σ => ∃ (k zI : Int) (G : Int → List T), (0 ≤ k ∧ k ≤ n ∧ d = ((n : Int) - k).toNat ∧ zI = (insAll [] (W k.toNat)).length ∧ ∀ i : Nat, i < (insAll [] (W k.toNat)).length → G i = [.int .i64 ((insAll [] (W k.toNat)).getD i 0)]) ∧
    σ = ⟨mkS [(3, .one (.row 0 zI)), (12, .one (.t (.sl 5 nI (fun i => [C0 i, C1 i, C2 i, .sl 3 (fI i) (fun j => [.int .i64 (fv i j), F1 i j, F2 i j]), .sl 3 (aI i) (fun j => [a0 i j, .sl 2 (lI i j) (fun l => [.int .i64 (lv i j l), L1 i j l]), a2 i j])])))), (13, .one (.t (.int .i64 nI))), (14, .one (.t (.int .i64 k)))] 0 55, [.sl Ty.«int» 1 zI G]⟩) ⟨n, 0, 0, fun _ => [], ⟨by omega, by omega, by omega, ?_, ?_⟩, ?_⟩ ?_
  · show (0 : Int) = (insAll [] (W 0)).length; rw [hW0]; rfl
  · intro i hi
    have h2 : i < (insAll [] (W 0)).length := hi
    rw [hW0] at h2
    exact absurd h2 (by simp [insAll])
  · cbv
  · rintro d σ ⟨k, zI, G, ⟨h1, h2, rfl, h3, h4⟩, rfl⟩ K hK
    (conv => cbv)
    obtain ⟨k, rfl⟩ := Int.eq_ofNat_of_zero_le h1
    rw [Int.toNat_natCast] at h3 h4
    split
    · rename_i g0
      rw [hq] at g0
      ((try simp (disch := omega) only [q0, nc, w64_id, wu64_id, wu32_id, wu8_id, Int.tdiv_eq_ediv_of_nonneg, Int.tmod_eq_emod_of_nonneg, Int.ofNat_eq_natCast, Int.natAbs_natCast, decide_eq_true_eq, decide_eq_false_iff_not, Bool.not_eq_true', Bool.not_eq_false', bne_iff_ne, bne_eq_false_iff_eq, beq_iff_eq, beq_eq_false_iff_ne, ne_eq] at g0); (try replace g0 := of_decide_eq_true g0); (try replace g0 := of_decide_eq_false g0))
      refine Need.mk (by omega) ?_
      have hfk := hf k (by omega)
      have hak := ha k (by omega)
      have hlk := fun j => hl k j (by omega)
      have hfIk := hfI' k
      have haIk := haI' k
      have hlIk := hlI' k
      have hWk := hW2 k (by omega)
      have hWk1 := hW1 k
      try simp only [nc, Int.ofNat_eq_natCast]
      have go1 : ∀ (j : Nat), j < nf k → insAll [] (W k ++ rl (fv k) (j + 1)) = insL (insAll [] (W k ++ rl (fv k) j)) (fv k j) := fun j hj => by
        show insAll [] (W k ++ (rl (fv k) j ++ [fv k j])) = _
        rw [← List.append_assoc, insAll_one]
      have len1 : ∀ j : Nat, j ≤ nf k → (insAll [] (W k ++ rl (fv k) j)).length ≤ 100000000 := fun j hj => by
        have h := insAll_len (W k ++ rl (fv k) j) []
        rw [List.length_append, rl_len] at h
        simp at h
        omega
      refine LoopN.mk [3, 5, 12, 13, 14, 20, 21, 22] (fun d σ => ∃ (j zI : Int) (G : Int → List T), (0 ≤ j ∧ j ≤ nf k ∧ d = ((nf k : Int) - j).toNat ∧ zI = (insAll [] (W k ++ rl (fv k) j.toNat)).length ∧ ∀ i : Nat, i < (insAll [] (W k ++ rl (fv k) j.toNat)).length → G i = [.int .i64 ((insAll [] (W k ++ rl (fv k) j.toNat)).getD i 0)]) ∧
        σ = ⟨mkS [(3, .one (.row 1 zI)), (5, .one (.bp 0 0)), (12, .one (.t (.sl 5 nI (fun i => [C0 i, C1 i, C2 i, .sl 3 (fI i) (fun j => [.int .i64 (fv i j), F1 i j, F2 i j]), .sl 3 (aI i) (fun j => [a0 i j, .sl 2 (lI i j) (fun l => [.int .i64 (lv i j l), L1 i j l]), a2 i j])])))), (13, .one (.t (.int .i64 nI))), (14, .one (.t (.int .i64 k))), (20, .one (.t (.sl 3 (fI k) (fun j => [.int .i64 (fv k j), F1 k j, F2 k j])))), (21, .one (.t (.int .i64 (fI k)))), (22, .one (.t (.int .i64 j)))] 0 55, [.box 96 [.t (C0 k), .t (C1 k), .t (C2 k), .t (.sl 3 (fI k) (fun j => [.int .i64 (fv k j), F1 k j, F2 k j])), .t (.sl 3 (aI k) (fun j => [a0 k j, .sl 2 (lI k j) (fun l => [.int .i64 (lv k j l), L1 k j l]), a2 k j]))], .sl Ty.«int» 1 zI G]⟩) ⟨nf k, 0, zI, G, ⟨by omega, by omega, by omega, ?_, ?_⟩, ?_⟩ ?_
      · show zI = (insAll [] (W k ++ [])).length; rw [List.append_nil]; exact h3
      · show ∀ i : Nat, i < (insAll [] (W k ++ [])).length → G i = [.int .i64 ((insAll [] (W k ++ [])).getD i 0)]; rw [List.append_nil]; exact h4
      · cbv
      · rintro d σ ⟨j, zI, G, ⟨m1, m2, rfl, m3, m4⟩, rfl⟩ K2 hK2
        (conv => cbv)
        obtain ⟨j, rfl⟩ := Int.eq_ofNat_of_zero_le m1
        rw [Int.toNat_natCast] at m3 m4
        try simp only [nc, Int.ofNat_eq_natCast]
        split
        · rename_i g1
          rw [hq] at g1
          ((try simp (disch := omega) only [q0, nc, w64_id, wu64_id, wu32_id, wu8_id, Int.tdiv_eq_ediv_of_nonneg, Int.tmod_eq_emod_of_nonneg, Int.ofNat_eq_natCast, Int.natAbs_natCast, decide_eq_true_eq, decide_eq_false_iff_not, Bool.not_eq_true', Bool.not_eq_false', bne_iff_ne, bne_eq_false_iff_eq, beq_iff_eq, beq_eq_false_iff_ne, ne_eq] at g1); (try replace g1 := of_decide_eq_true g1); (try replace g1 := of_decide_eq_false g1))
          refine Need.mk (by omega) ?_
          have ej : (q Int fun _ => IntKind.i64.wrap ((j : Int) + 1)) = j + 1 := by subst hq; (try simp (disch := omega) only [q0, nc, w64_id, wu64_id, wu32_id, wu8_id, Int.tdiv_eq_ediv_of_nonneg, Int.tmod_eq_emod_of_nonneg, Int.ofNat_eq_natCast, Int.natAbs_natCast, decide_eq_true_eq, decide_eq_false_iff_not, Bool.not_eq_true', bne_iff_ne, beq_iff_eq, ne_eq])
          have hgo := go1 j (by omega)
          have hlen := len1 j (by omega)
          obtain ⟨zs, hzs⟩ : ∃ zs, zs = insAll [] (W k ++ rl (fv k) j) := ⟨_, rfl⟩
          rw [← hzs] at m3 m4 hgo hlen
          refine call_eq hCN 1 (fun i => [.int .i64 (zs.getD i.toNat 0)]) rfl (fun i hi => by rw [m4 i (by omega)]; rfl) ?_
          refine ins_fc hq hCN (zs := zs) m3 (by omega) (V := fun i => zs.getD i.toNat 0) (fun i hi => rfl) (fun he => ?_) (fun mI G' q1 q2 q3 => ?_)
          · (conv => cbv)
            try simp only [nc, Int.ofNat_eq_natCast]
            rw [ej]
            refine hK2 _ ⟨_, ?_, (j : Int) + 1, _, _, ⟨by omega, by omega, rfl, ?_, ?_⟩, rfl⟩
            · omega
            · rw [show ((j : Int) + 1).toNat = j + 1 by omega, hgo, he]; exact m3
            · rw [show ((j : Int) + 1).toNat = j + 1 by omega, hgo, he]
              intro i hi
              rfl
          · (conv => cbv)
            try simp only [nc, Int.ofNat_eq_natCast]
            rw [ej]
            refine hK2 _ ⟨_, ?_, (j : Int) + 1, _, _, ⟨by omega, by omega, rfl, ?_, ?_⟩, rfl⟩
            · omega
            · rw [show ((j : Int) + 1).toNat = j + 1 by omega, hgo]; exact q1
            · rw [show ((j : Int) + 1).toNat = j + 1 by omega, hgo]; exact q3
        · rename_i g1
          rw [hq] at g1
          ((try simp (disch := omega) only [q0, nc, w64_id, wu64_id, wu32_id, wu8_id, Int.tdiv_eq_ediv_of_nonneg, Int.tmod_eq_emod_of_nonneg, Int.ofNat_eq_natCast, Int.natAbs_natCast, decide_eq_true_eq, decide_eq_false_iff_not, Bool.not_eq_true', Bool.not_eq_false', bne_iff_ne, bne_eq_false_iff_eq, beq_iff_eq, beq_eq_false_iff_ne, ne_eq] at g1); (try replace g1 := of_decide_eq_true g1); (try replace g1 := of_decide_eq_false g1))
          have hj : j = nf k := by omega
          subst hj
          obtain ⟨B0, hB0⟩ : ∃ B0, B0 = W k ++ rl (fv k) (nf k) := ⟨_, rfl⟩
          rw [← hB0] at m3 m4
          rw [← List.append_assoc, ← hB0] at hWk1
          have hB0l : B0.length + (rl2 (nl k) (lv k) (na k)).length ≤ 100000000 := by rw [hB0, List.length_append, rl_len]; omega
          refine LoopN.mk [3, 12, 13, 14, 33, 34, 35] (fun d σ => ∃ (j zI : Int) (G : Int → List T), (0 ≤ j ∧ j ≤ na k ∧ d = ((na k : Int) - j).toNat ∧ zI = (insAll [] (B0 ++ rl2 (nl k) (lv k) j.toNat)).length ∧ ∀ i : Nat, i < (insAll [] (B0 ++ rl2 (nl k) (lv k) j.toNat)).length → G i = [.int .i64 ((insAll [] (B0 ++ rl2 (nl k) (lv k) j.toNat)).getD i 0)]) ∧
            σ = ⟨mkS [(3, .one (.row 0 zI)), (12, .one (.t (.sl 5 nI (fun i => [C0 i, C1 i, C2 i, .sl 3 (fI i) (fun j => [.int .i64 (fv i j), F1 i j, F2 i j]), .sl 3 (aI i) (fun j => [a0 i j, .sl 2 (lI i j) (fun l => [.int .i64 (lv i j l), L1 i j l]), a2 i j])])))), (13, .one (.t (.int .i64 nI))), (14, .one (.t (.int .i64 k))), (33, .one (.t (.sl 3 (aI k) (fun j => [a0 k j, .sl 2 (lI k j) (fun l => [.int .i64 (lv k j l), L1 k j l]), a2 k j])))), (34, .one (.t (.int .i64 (aI k)))), (35, .one (.t (.int .i64 j)))] 0 55, [.sl Ty.«int» 1 zI G]⟩) ⟨na k, 0, zI, G, ⟨by omega, by omega, by omega, ?_, ?_⟩, ?_⟩ ?_
          · show zI = (insAll [] (B0 ++ [])).length; rw [List.append_nil]; exact m3
          · show ∀ i : Nat, i < (insAll [] (B0 ++ [])).length → G i = [.int .i64 ((insAll [] (B0 ++ [])).getD i 0)]; rw [List.append_nil]; exact m4
          · cbv
          · clear m3 m4
            rintro d σ ⟨j, zI, G, ⟨m1, m2, rfl, m3, m4⟩, rfl⟩ K3 hK3
            (conv => cbv)
            obtain ⟨j, rfl⟩ := Int.eq_ofNat_of_zero_le m1
            rw [Int.toNat_natCast] at m3 m4
            try simp only [nc, Int.ofNat_eq_natCast]
            split
            · rename_i g3
              rw [hq] at g3
              ((try simp (disch := omega) only [q0, nc, w64_id, wu64_id, wu32_id, wu8_id, Int.tdiv_eq_ediv_of_nonneg, Int.tmod_eq_emod_of_nonneg, Int.ofNat_eq_natCast, Int.natAbs_natCast, decide_eq_true_eq, decide_eq_false_iff_not, Bool.not_eq_true', Bool.not_eq_false', bne_iff_ne, bne_eq_false_iff_eq, beq_iff_eq, beq_eq_false_iff_ne, ne_eq] at g3); (try replace g3 := of_decide_eq_true g3); (try replace g3 := of_decide_eq_false g3))
              refine Need.mk (by omega) ?_
              have hlkj := hlk j (by omega)
              have hlIkj := hlIk j
              have h2l := rl2_le (nl := nl k) (lv := lv k) (j := j) (n := na k) (by omega)
              have go2 : ∀ (l : Nat), insAll [] ((B0 ++ rl2 (nl k) (lv k) j) ++ rl (lv k j) (l + 1)) = insL (insAll [] ((B0 ++ rl2 (nl k) (lv k) j) ++ rl (lv k j) l)) (lv k j l) := fun l => by
                show insAll [] ((B0 ++ rl2 (nl k) (lv k) j) ++ (rl (lv k j) l ++ [lv k j l])) = _
                rw [← List.append_assoc, insAll_one]
              have len2 : ∀ l : Nat, l ≤ nl k j → (insAll [] ((B0 ++ rl2 (nl k) (lv k) j) ++ rl (lv k j) l)).length ≤ 100000000 := fun l hl => by
                have h := insAll_len ((B0 ++ rl2 (nl k) (lv k) j) ++ rl (lv k j) l) []
                rw [List.length_append, List.length_append, rl_len] at h
                rw [List.length_nil, Nat.zero_add] at h
                omega
              obtain ⟨B1, hB1⟩ : ∃ B1, B1 = B0 ++ rl2 (nl k) (lv k) j := ⟨_, rfl⟩
              have hnext : B0 ++ rl2 (nl k) (lv k) (j + 1) = B1 ++ rl (lv k j) (nl k j) := by rw [hB1, List.append_assoc]; rfl
              rw [← hB1] at m3 m4 go2 len2
              refine LoopN.mk [3, 12, 13, 14, 33, 34, 35, 41, 42, 43] (fun d σ => ∃ (l zI : Int) (G : Int → List T), (0 ≤ l ∧ l ≤ nl k j ∧ d = ((nl k j : Int) - l).toNat ∧ zI = (insAll [] (B1 ++ rl (lv k j) l.toNat)).length ∧ ∀ i : Nat, i < (insAll [] (B1 ++ rl (lv k j) l.toNat)).length → G i = [.int .i64 ((insAll [] (B1 ++ rl (lv k j) l.toNat)).getD i 0)]) ∧
                σ = ⟨mkS [(3, .one (.row 0 zI)), (12, .one (.t (.sl 5 nI (fun i => [C0 i, C1 i, C2 i, .sl 3 (fI i) (fun j => [.int .i64 (fv i j), F1 i j, F2 i j]), .sl 3 (aI i) (fun j => [a0 i j, .sl 2 (lI i j) (fun l => [.int .i64 (lv i j l), L1 i j l]), a2 i j])])))), (13, .one (.t (.int .i64 nI))), (14, .one (.t (.int .i64 k))), (33, .one (.t (.sl 3 (aI k) (fun j => [a0 k j, .sl 2 (lI k j) (fun l => [.int .i64 (lv k j l), L1 k j l]), a2 k j])))), (34, .one (.t (.int .i64 (aI k)))), (35, .one (.t (.int .i64 j))), (41, .one (.t (.sl 2 (lI k j) (fun l => [.int .i64 (lv k j l), L1 k j l])))), (42, .one (.t (.int .i64 (lI k j)))), (43, .one (.t (.int .i64 l)))] 0 55, [.sl Ty.«int» 1 zI G]⟩) ⟨nl k j, 0, zI, G, ⟨by omega, by omega, by omega, ?_, ?_⟩, ?_⟩ ?_
              · show zI = (insAll [] (B1 ++ [])).length; rw [List.append_nil]; exact m3
              · show ∀ i : Nat, i < (insAll [] (B1 ++ [])).length → G i = [.int .i64 ((insAll [] (B1 ++ [])).getD i 0)]; rw [List.append_nil]; exact m4
              · cbv
              · clear m3 m4
                rintro d σ ⟨l, zI, G, ⟨w1, w2, rfl, w3, w4⟩, rfl⟩ K4 hK4
                (conv => cbv)
                obtain ⟨l, rfl⟩ := Int.eq_ofNat_of_zero_le w1
                rw [Int.toNat_natCast] at w3 w4
                try simp only [nc, Int.ofNat_eq_natCast]
                split
                · rename_i g4
                  rw [hq] at g4
                  ((try simp (disch := omega) only [q0, nc, w64_id, wu64_id, wu32_id, wu8_id, Int.tdiv_eq_ediv_of_nonneg, Int.tmod_eq_emod_of_nonneg, Int.ofNat_eq_natCast, Int.natAbs_natCast, decide_eq_true_eq, decide_eq_false_iff_not, Bool.not_eq_true', Bool.not_eq_false', bne_iff_ne, bne_eq_false_iff_eq, beq_iff_eq, beq_eq_false_iff_ne, ne_eq] at g4); (try replace g4 := of_decide_eq_true g4); (try replace g4 := of_decide_eq_false g4))
                  refine Need.mk (by omega) ?_
                  have el : (q Int fun _ => IntKind.i64.wrap ((l : Int) + 1)) = l + 1 := by subst hq; (try simp (disch := omega) only [q0, nc, w64_id, wu64_id, wu32_id, wu8_id, Int.tdiv_eq_ediv_of_nonneg, Int.tmod_eq_emod_of_nonneg, Int.ofNat_eq_natCast, Int.natAbs_natCast, decide_eq_true_eq, decide_eq_false_iff_not, Bool.not_eq_true', bne_iff_ne, beq_iff_eq, ne_eq])
                  have hgo := go2 l
                  have hlen := len2 l (by omega)
                  obtain ⟨zs, hzs⟩ : ∃ zs, zs = insAll [] (B1 ++ rl (lv k j) l) := ⟨_, rfl⟩
                  rw [← hzs] at w3 w4 hgo hlen
                  refine call_eq hCN 0 (fun i => [.int .i64 (zs.getD i.toNat 0)]) rfl (fun i hi => by rw [w4 i (by omega)]; rfl) ?_
                  refine ins_lt hq hCN (zs := zs) w3 (by omega) (V := fun i => zs.getD i.toNat 0) (fun i hi => rfl) (fun he => ?_) (fun mI G' q1 q2 q3 => ?_)
                  · (conv => cbv)
                    try simp only [nc, Int.ofNat_eq_natCast]
                    rw [el]
                    refine hK4 _ ⟨_, ?_, (l : Int) + 1, _, _, ⟨by omega, by omega, rfl, ?_, ?_⟩, rfl⟩
                    · omega
                    · rw [show ((l : Int) + 1).toNat = l + 1 by omega, hgo, he]; exact w3
                    · rw [show ((l : Int) + 1).toNat = l + 1 by omega, hgo, he]
                      intro i hi
                      rfl
                  · (conv => cbv)
                    try simp only [nc, Int.ofNat_eq_natCast]
                    rw [el]
                    refine hK4 _ ⟨_, ?_, (l : Int) + 1, _, _, ⟨by omega, by omega, rfl, ?_, ?_⟩, rfl⟩
                    · omega
                    · rw [show ((l : Int) + 1).toNat = l + 1 by omega, hgo]; exact q1
                    · rw [show ((l : Int) + 1).toNat = l + 1 by omega, hgo]; exact q3
                · rename_i g4
                  rw [hq] at g4
                  ((try simp (disch := omega) only [q0, nc, w64_id, wu64_id, wu32_id, wu8_id, Int.tdiv_eq_ediv_of_nonneg, Int.tmod_eq_emod_of_nonneg, Int.ofNat_eq_natCast, Int.natAbs_natCast, decide_eq_true_eq, decide_eq_false_iff_not, Bool.not_eq_true', Bool.not_eq_false', bne_iff_ne, bne_eq_false_iff_eq, beq_iff_eq, beq_eq_false_iff_ne, ne_eq] at g4); (try replace g4 := of_decide_eq_true g4); (try replace g4 := of_decide_eq_false g4))
                  have hl : l = nl k j := by omega
                  subst hl
                  have ej : (q Int fun _ => IntKind.i64.wrap ((j : Int) + 1)) = j + 1 := by subst hq; (try simp (disch := omega) only [q0, nc, w64_id, wu64_id, wu32_id, wu8_id, Int.tdiv_eq_ediv_of_nonneg, Int.tmod_eq_emod_of_nonneg, Int.ofNat_eq_natCast, Int.natAbs_natCast, decide_eq_true_eq, decide_eq_false_iff_not, Bool.not_eq_true', bne_iff_ne, beq_iff_eq, ne_eq])
                  rw [ej]
                  refine hK3 _ ⟨_, ?_, (j : Int) + 1, _, _, ⟨by omega, by omega, rfl, ?_, ?_⟩, rfl⟩
                  · omega
                  · rw [show ((j : Int) + 1).toNat = j + 1 by omega, hnext]; exact w3
                  · rw [show ((j : Int) + 1).toNat = j + 1 by omega, hnext]; exact w4
            · rename_i g3
              rw [hq] at g3
              ((try simp (disch := omega) only [q0, nc, w64_id, wu64_id, wu32_id, wu8_id, Int.tdiv_eq_ediv_of_nonneg, Int.tmod_eq_emod_of_nonneg, Int.ofNat_eq_natCast, Int.natAbs_natCast, decide_eq_true_eq, decide_eq_false_iff_not, Bool.not_eq_true', Bool.not_eq_false', bne_iff_ne, bne_eq_false_iff_eq, beq_iff_eq, beq_eq_false_iff_ne, ne_eq] at g3); (try replace g3 := of_decide_eq_true g3); (try replace g3 := of_decide_eq_false g3))
              have hj : j = na k := by omega
              subst hj
              have ek : (q Int fun _ => IntKind.i64.wrap ((k : Int) + 1)) = k + 1 := by subst hq; (try simp (disch := omega) only [q0, nc, w64_id, wu64_id, wu32_id, wu8_id, Int.tdiv_eq_ediv_of_nonneg, Int.tmod_eq_emod_of_nonneg, Int.ofNat_eq_natCast, Int.natAbs_natCast, decide_eq_true_eq, decide_eq_false_iff_not, Bool.not_eq_true', bne_iff_ne, beq_iff_eq, ne_eq])
              rw [ek]
              refine hK _ ⟨_, ?_, (k : Int) + 1, _, _, ⟨by omega, by omega, rfl, ?_, ?_⟩, rfl⟩
              · omega
              · rw [show ((k : Int) + 1).toNat = k + 1 by omega, hWk1]; exact m3
              · rw [show ((k : Int) + 1).toNat = k + 1 by omega, hWk1]; exact m4
    · rename_i g0
      rw [hq] at g0
      ((try simp (disch := omega) only [q0, nc, w64_id, wu64_id, wu32_id, wu8_id, Int.tdiv_eq_ediv_of_nonneg, Int.tmod_eq_emod_of_nonneg, Int.ofNat_eq_natCast, Int.natAbs_natCast, decide_eq_true_eq, decide_eq_false_iff_not, Bool.not_eq_true', Bool.not_eq_false', bne_iff_ne, bne_eq_false_iff_eq, beq_iff_eq, beq_eq_false_iff_ne, ne_eq] at g0); (try replace g0 := of_decide_eq_true g0); (try replace g0 := of_decide_eq_false g0))
      have hk : k = n := by omega
      subst hk
      exact fin _ _ h3 h4
end Sx
end

section
namespace Go.Proofs
open Go.Shelf
def Tryz.lays189_ren : Go.Shelf.Ren := ⟨fun | 189 => 119 | 125 => 228 | 257 => 227 | 128 => 318 | 129 => 319 | 294 => 309 | 295 => 310 | 296 => 311 | 297 => 312 | 298 => 313 | 299 => 314 | 216 => 315 | 300 => 316 | 301 => 317 | 328 => 379 | 329 => 380 | 330 => 381 | 331 => 382 | 332 => 383 | 215 => 303 | 343 => 410 | n => n, fun | 28 => 37 | 3 => 3 | 46 => 275 | 0 => 0 | 51 => 196 | 53 => 195 | 4 => 4 | 183 => 345 | 182 => 344 | 131 => 323 | 5 => 5 | 9 => 9 | 218 => 404 | 222 => 137 | 228 => 431 | 229 => 432 | n => n, fun | n => n⟩
theorem Tryz.lays189 : Go.Proofs.Lays.n189 Tryz.prog Tryz.lays189_ren := {
  mixed := by kernel_rfl
  f125 := Tryz.func228.trans (congrArg some (by kernel_rfl))
  f128 := Tryz.func318.trans (congrArg some (by kernel_rfl))
  f129 := Tryz.func319.trans (congrArg some (by kernel_rfl))
  f189 := Tryz.func119.trans (congrArg some (by kernel_rfl))
  f215 := Tryz.func303.trans (congrArg some (by kernel_rfl))
  f216 := Tryz.func315.trans (congrArg some (by kernel_rfl))
  f257 := Tryz.func227.trans (congrArg some (by kernel_rfl))
  f294 := Tryz.func309.trans (congrArg some (by kernel_rfl))
  f295 := Tryz.func310.trans (congrArg some (by kernel_rfl))
  f296 := Tryz.func311.trans (congrArg some (by kernel_rfl))
  f297 := Tryz.func312.trans (congrArg some (by kernel_rfl))
  f298 := Tryz.func313.trans (congrArg some (by kernel_rfl))
  f299 := Tryz.func314.trans (congrArg some (by kernel_rfl))
  f300 := Tryz.func316.trans (congrArg some (by kernel_rfl))
  f301 := Tryz.func317.trans (congrArg some (by kernel_rfl))
  f328 := Tryz.func379.trans (congrArg some (by kernel_rfl))
  f329 := Tryz.func380.trans (congrArg some (by kernel_rfl))
  f330 := Tryz.func381.trans (congrArg some (by kernel_rfl))
  f331 := Tryz.func382.trans (congrArg some (by kernel_rfl))
  f332 := Tryz.func383.trans (congrArg some (by kernel_rfl))
  f343 := Tryz.func410.trans (congrArg some (by kernel_rfl))
  t0 := Tryz.underlying0
  a0 := Tryz.isAgg0
  z0 := Tryz.sizeOf0
  v0 := Tryz.zeroValue0
  t3 := Tryz.underlying3
  a3 := Tryz.isAgg3
  z3 := Tryz.sizeOf3
  v3 := Tryz.zeroValue3
  t4 := Tryz.underlying4
  a4 := Tryz.isAgg4
  z4 := Tryz.sizeOf4
  v4 := Tryz.zeroValue4
  t5 := Tryz.underlying5
  a5 := Tryz.isAgg5
  z5 := Tryz.sizeOf5
  v5 := Tryz.zeroValue5
  t9 := Tryz.underlying9
  a9 := Tryz.isAgg9
  z9 := Tryz.sizeOf9
  v9 := Tryz.zeroValue9
  t28 := Tryz.underlying37
  a28 := Tryz.isAgg37
  z28 := Tryz.sizeOf37
  v28 := Tryz.zeroValue37
  t46 := Tryz.underlying275
  a46 := Tryz.isAgg275
  z46 := Tryz.sizeOf275
  v46 := Tryz.zeroValue275
  t51 := Tryz.underlying196
  a51 := Tryz.isAgg196
  z51 := Tryz.sizeOf196
  v51 := Tryz.zeroValue196
  t53 := Tryz.underlying195
  a53 := Tryz.isAgg195
  z53 := Tryz.sizeOf195
  v53 := Tryz.zeroValue195
  t131 := Tryz.underlying323
  a131 := Tryz.isAgg323
  z131 := Tryz.sizeOf323
  v131 := Tryz.zeroValue323
  t182 := Tryz.underlying344
  a182 := Tryz.isAgg344
  z182 := Tryz.sizeOf344
  v182 := Tryz.zeroValue344
  t183 := Tryz.underlying345
  a183 := Tryz.isAgg345
  z183 := Tryz.sizeOf345
  v183 := Tryz.zeroValue345
  t218 := Tryz.underlying404
  a218 := Tryz.isAgg404
  z218 := Tryz.sizeOf404
  v218 := Tryz.zeroValue404
  t222 := Tryz.underlying137
  a222 := Tryz.isAgg137
  z222 := Tryz.sizeOf137
  v222 := Tryz.zeroValue137
  t228 := Tryz.underlying431
  a228 := Tryz.isAgg431
  z228 := Tryz.sizeOf431
  v228 := Tryz.zeroValue431
  t229 := Tryz.underlying432
  a229 := Tryz.isAgg432
  z229 := Tryz.sizeOf432
  v229 := Tryz.zeroValue432 }
open Go.Sort Go.RowKit in
theorem Tryz.slices_Sort_int (blk off cap : Nat) (zs : List Int) (w : World) (hH : Holds (Value.int .i64) w blk off zs.toArray) (hblk : blk < w.heap.size) (hsz : zs.length < 4611686018427387904) :
    Calls Tryz.prog 119 #[.slice (some ⟨blk, off, none⟩) zs.length cap] w fun e w' =>
      e = .returned (.tuple #[]) ∧ ∃ n os, w' = grow (putRow (Value.int .i64) (Sort.ahead w n) blk off (zs.mergeSort fun x y => decide (x ≤ y)).toArray) os := Any.slices_Sort_int Tryz.lays189 blk off cap zs w hH hblk hsz
def Tryz.laysNm220_ren : Go.Shelf.Ren := ⟨fun | 20 => 120 | n => n, fun | 22 => 37 | 3 => 3 | 4 => 4 | 0 => 0 | n => n, fun | n => n⟩
theorem Tryz.laysNm220 : Go.Proofs.Lays2.n20 Tryz.prog Tryz.laysNm220_ren := {
  mixed := by kernel_rfl
  f20 := Tryz.func120.trans (congrArg some (by kernel_rfl))
  t0 := Tryz.underlying0
  a0 := Tryz.isAgg0
  z0 := Tryz.sizeOf0
  v0 := Tryz.zeroValue0
  t3 := Tryz.underlying3
  a3 := Tryz.isAgg3
  z3 := Tryz.sizeOf3
  v3 := Tryz.zeroValue3
  t4 := Tryz.underlying4
  a4 := Tryz.isAgg4
  z4 := Tryz.sizeOf4
  v4 := Tryz.zeroValue4
  t22 := Tryz.underlying37
  a22 := Tryz.isAgg37
  z22 := Tryz.sizeOf37
  v22 := Tryz.zeroValue37
  i3 := by kernel_rfl }
open Go.RowKit Go.Lib Go.Sort in

theorem Tryz.slices_Compact_int_arr (blk off cap : Nat) (d : Array Int) (w : World) (hH : Holds encI w blk off d) (hsz : d.size ≤ 9223372036854775807) (hcap : d.size ≤ cap) :
    Calls Tryz.prog 120 #[.slice (some ⟨blk, off, none⟩) d.size cap] w fun e w' => e = .returned (.slice (some ⟨blk, off, none⟩) (compactUpTo d d.size).length cap) ∧ ∃ q, w' = putRow encI (Sort.ahead w q) blk off (compactUpTo d d.size ++ List.replicate (d.size - (compactUpTo d d.size).length) 0).toArray := Any.slices_Compact_int_arr Tryz.laysNm220 blk off cap d w hH hsz hcap
open Go.RowKit Go.Lib Go.Sort in

theorem Tryz.slices_Compact_int (blk off cap : Nat) (zs : List Int) (w : World) (hH : Holds (Value.int .i64) w blk off zs.toArray) (hsz : zs.length ≤ 9223372036854775807) (hcap : zs.length ≤ cap) :
    Calls Tryz.prog 120 #[.slice (some ⟨blk, off, none⟩) zs.length cap] w fun e w' => e = .returned (.slice (some ⟨blk, off, none⟩) (Lib.compact zs).length cap) ∧ ∃ q, w' = putRow (Value.int .i64) (Sort.ahead w q) blk off (Lib.compact zs ++ List.replicate (zs.length - (Lib.compact zs).length) 0).toArray := Any.slices_Compact_int Tryz.laysNm220 blk off cap zs w hH hsz hcap
open Go.RowKit Go.Lib Go.Sort in

theorem Tryz.slices_Compact_int_empty (a : Option Addr) (cap : Nat) (w : World) :
    Calls Tryz.prog 120 #[.slice a 0 cap] w fun e w' => e = .returned (.slice a 0 cap) ∧ w' = w := Any.slices_Compact_int_empty Tryz.laysNm220 a cap w
open Go.RowKit Go.Lib Go.Sort in

theorem Tryz.slices_Compact_int_cells (b off n c : Nat) (zs : List Int) (w : World) (hz : n ≤ zs.length) (hbig : n ≤ 9223372036854775807) (hcap : n ≤ c) (hc : ∀ j, j < zs.length → w.cell? ⟨b, off + j, none⟩ = some (.int .i64 (zs.getD j 0))) (hf : ∀ j, j < n → w.frozen? ⟨b, off + j, none⟩ = false) :
    Calls Tryz.prog 120 #[.slice (some ⟨b, off, none⟩) n c] w fun e w' => e = .returned (.slice (some ⟨b, off, none⟩) (Lib.compact (zs.take n)).length c) ∧ ∃ q, w' = (w.drewN q).setCells b off ((Lib.compact (zs.take n) ++ List.replicate (n - (Lib.compact (zs.take n)).length) 0).map (Value.int .i64)) := Any.slices_Compact_int_cells Tryz.laysNm220 b off n c zs w hz hbig hcap hc hf
open Go.RowKit Go.Sort in

theorem Tryz.slices_Sort_int_none (p : Option Addr) (cap : Nat) (w : World) :
    Calls Tryz.prog 119 #[.slice p 0 cap] w fun e w' => e = .returned (.tuple #[]) ∧ w' = w := Any.slices_Sort_int_none Tryz.lays189 p cap w
end Go.Proofs
end

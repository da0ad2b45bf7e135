/- A part of the proof of PolyReadsSaid: texts SxVars3. -/
import Derived.Test.YtlnpmgmpakjhgaaGreatSxBD
set_option linter.all false
set_option maxRecDepth 100000
namespace Sx
open Go

theorem call_sort {CN : CNt} (hCN : CN = CallN Pg) {id : Nat} {ty : TypeId} {n : Nat} {V : Int → Int} {H : List Blk} {K : AV → List Blk → Prop} (hb : getB H id = .sl ty 1 (n : Int) (fun i => [.int .i64 (V i)])) (hn : n < 4611686018427387904)
    (hK : ∀ V' : Int → Int, ((List.range n).map fun i : Nat => V' i) = (((List.range n).map fun i : Nat => V i).mergeSort fun x y => decide (x ≤ y)) → K (.tup []) (H.set id (.sl ty 1 (n : Int) (fun i => [.int .i64 (V' i)])))) : CN F.slices_Sort_int_int [.one (.row id (n : Int))] H K := by
  subst hCN
  exact CallN.sortInts At.slices_Sort_int_int.ent hb hn (fun base cap w => Go.Proofs.Tryz.slices_Sort_int_none base cap w) (f := fun l => l.mergeSort fun x y => decide (x ≤ y)) (fun l => List.length_mergeSort l)
    (fun blk off cap zs w h1 h2 h3 => Go.Proofs.Tryz.slices_Sort_int blk off cap zs w h1 h2 h3) hK
theorem call_compact {CN : CNt} (hCN : CN = CallN Pg) {id : Nat} {ty : TypeId} {n : Nat} {V : Int → Int} {H : List Blk} {K : AV → List Blk → Prop} (hb : getB H id = .sl ty 1 (n : Int) (fun i => [.int .i64 (V i)])) (hn : n < 4611686018427387904)
    (hK : ∀ (m : Nat) (V' : Int → Int), m ≤ n → ((List.range m).map fun i : Nat => V' i) = Go.Lib.compact ((List.range n).map fun i : Nat => V i) → K (.one (.row id (m : Int))) (H.set id (.sl ty 1 (n : Int) (fun i => [.int .i64 (V' i)])))) : CN F.slices_Compact_int_int [.one (.row id (n : Int))] H K := by
  subst hCN
  exact CallN.compactInts At.slices_Compact_int_int.ent hb hn (fun base cap w => Go.Proofs.Tryz.slices_Compact_int_empty base cap w) (f := Go.Lib.compact) compact_len
    (fun blk off cap zs w h1 h2 h3 => Go.Proofs.Tryz.slices_Compact_int blk off cap zs w h1 h2 h3) hK
theorem map_range_getD (zs : List Int) : ((List.range zs.length).map fun i : Nat => zs.getD (i : Int).toNat 0) = zs := by
  refine List.ext_getElem (by simp) (fun i h1 h2 => ?_)
  rw [List.getElem_map, List.getElem_range, Int.toNat_natCast, List.getD_eq_getElem?_getD, List.getElem?_eq_getElem h2]
  rfl
theorem app_getD {zs : List Int} {zI : Int} (hz : zI = zs.length) {G : Int → List T} {v : Int} (h : ∀ i : Nat, i < zs.length → G i = [.int .i64 (zs.getD i 0)]) : ∀ i : Nat, i < (zs ++ [v]).length → appFn zI G (fun i => [[T.int .i64 v]].getD i.toNat []) i = [.int .i64 ((zs ++ [v]).getD i 0)] := by
  intro i hi
  rw [List.length_append, List.length_singleton] at hi
  unfold appFn
  by_cases hik : i < zs.length
  · rw [if_pos (by omega), h i hik]
    rw [List.getD_eq_getElem?_getD, List.getD_eq_getElem?_getD, List.getElem?_append_left hik]
  · have e : i = zs.length := by omega
    have e2 : (zs ++ [v]).getD i 0 = v := by
      rw [List.getD_eq_getElem?_getD, List.getElem?_append_right (by omega), e]
      simp
    rw [if_neg (by omega), e2, show (i : Int) - zI = 0 by omega]
    rfl

set_option maxHeartbeats 4000000 in
theorem vars_main (n : Nat) (hn : n ≤ 1000000) (C0 C1 C2 : Int → T) (nf na : Int → Nat) (nl : Int → Int → Nat) (fv : Int → Int → Int) (F1 F2 a0 a2 : Int → Int → T) (lv : Int → Int → Int → Int) (L1 : Int → Int → Int → T)
    (hf : ∀ i : Nat, i < n → nf i ≤ 1000000) (ha : ∀ i : Nat, i < n → na i ≤ 1000000) (hl : ∀ i j : Nat, i < n → j < na i → nl i j ≤ 1000000) (hB : (rl3 nf na nl fv lv n).length ≤ 100000000) :
    PureF Pg F.poly_Vars (fun q => [.one (.sl 5 (q Int fun _ => (n : Int)) (fun i => [C0 i, C1 i, C2 i, .sl 3 (q Int fun _ => (nf i : Int)) (fun j => [.int .i64 (fv i j), F1 i j, F2 i j]), .sl 3 (q Int fun _ => (na i : Int)) (fun j => [a0 i j, .sl 2 (q Int fun _ => (nl i j : Int)) (fun l => [.int .i64 (lv i j l), L1 i j l]), a2 i j])]))])
      (fun _ => .one (intsT (insAll [] (rl3 nf na nl fv lv n)))) := by
  refine walkF mixed tau_ok At.poly_Vars (fun CN DN q R hCN hDN hq hR => ?_)
  obtain ⟨W, hW⟩ : ∃ W : Nat → List Int, W = rl3 nf na nl fv lv := ⟨_, rfl⟩
  rw [← hW] at hB hR
  have hW0 : W 0 = [] := by rw [hW]; rfl
  have hW1 : ∀ k : Nat, W (k + 1) = W k ++ (rl (fv k) (nf k) ++ rl2 (nl k) (lv k) (na k)) := fun k => by rw [hW]; rfl
  have hW2 : ∀ k : Nat, k < n → (W k).length + (nf k + (rl2 (nl k) (lv k) (na k)).length) ≤ 100000000 := fun k hk => by
    have := rl3_le (nf := nf) (na := na) (nl := nl) (fv := fv) (lv := lv) hk
    rw [← hW] at this
    omega
  clear hW
  have fin : ∀ (m : Nat) (V : Int → Int), ((List.range m).map fun i : Nat => V i) = insAll [] (W n) → R (.one (.sl 1 (m : Int) (fun i => [.int .i64 (V i)]))) := fun m V h => by
    have hl : m = (insAll [] (W n)).length := by rw [← h]; simp
    refine hR _ (.one (TE.ints (by rw [hl]) (fun i hi => ?_)))
    rw [← h] at hi ⊢
    rw [List.length_map, List.length_range] at hi
    rw [List.getD_eq_getElem?_getD, List.getElem?_map, List.getElem?_range hi]
    rfl
  clear hR
  obtain ⟨nI, hnI⟩ : ∃ nI, nI = q Int fun _ => (n : Int) := ⟨_, rfl⟩
  obtain ⟨fI, hfI⟩ : ∃ fI : Int → Int, fI = fun i => q Int fun _ => (nf i : Int) := ⟨_, rfl⟩
  obtain ⟨aI, haI⟩ : ∃ aI : Int → Int, aI = fun i => q Int fun _ => (na i : Int) := ⟨_, rfl⟩
  obtain ⟨lI, hlI⟩ : ∃ lI : Int → Int → Int, lI = fun i j => q Int fun _ => (nl i j : Int) := ⟨_, rfl⟩
  show awp CN DN q tau 0 _ ⟨startS _ ((([.one (.sl 5 (q Int fun _ => (n : Int)) (fun i => [C0 i, C1 i, C2 i, .sl 3 ((fun i => q Int fun _ => (nf i : Int)) i) (fun j => [.int .i64 (fv i j), F1 i j, F2 i j]), .sl 3 ((fun i => q Int fun _ => (na i : Int)) i) (fun j => [a0 i j, .sl 2 ((fun i j => q Int fun _ => (nl i j : Int)) i j) (fun l => [.int .i64 (lv i j l), L1 i j l]), a2 i j])]))]) : List TV).map ofTV), []⟩ _
  rw [← hnI, ← hfI, ← haI, ← hlI]
  have hnI' : nI = n := by rw [hnI]; subst hq; rfl
  have hfI' : ∀ i, fI i = nf i := fun i => by rw [hfI]; subst hq; rfl
  have haI' : ∀ i, aI i = na i := fun i => by rw [haI]; subst hq; rfl
  have hlI' : ∀ i j, lI i j = nl i j := fun i j => by rw [hlI]; subst hq; rfl
  clear hnI hfI haI hlI
  (conv => cbv)
  refine LoopN.mr [3, 12, 13, 14] [(3, Ty.«int», 1)] (fun d σ => ∃ (k zI : Int) (G : Int → List T), (0 ≤ k ∧ k ≤ n ∧ d = ((n : Int) - k).toNat ∧ zI = ((W k.toNat)).length ∧ ∀ i : Nat, i < ((W k.toNat)).length → G i = [.int .i64 (((W k.toNat)).getD i 0)]) ∧
    σ = ⟨mkS [(3, .one (.row 0 zI)), (12, .one (.t (.sl 5 nI (fun i => [C0 i, C1 i, C2 i, .sl 3 (fI i) (fun j => [.int .i64 (fv i j), F1 i j, F2 i j]), .sl 3 (aI i) (fun j => [a0 i j, .sl 2 (lI i j) (fun l => [.int .i64 (lv i j l), L1 i j l]), a2 i j])])))), (13, .one (.t (.int .i64 nI))), (14, .one (.t (.int .i64 k)))] 0 60, [.sl Ty.«int» 1 zI G]⟩) ⟨n, 0, 0, fun _ => [], ⟨by omega, by omega, by omega, ?_, ?_⟩, ?_⟩ ?_
  · show (0 : Int) = ((W 0)).length; rw [hW0]; rfl
  · intro i hi
    have h2 : i < ((W 0)).length := hi
    rw [hW0] at h2
    exact absurd h2 (by simp)
  · cbv
  · rintro d σ ⟨k, zI, G, ⟨h1, h2, rfl, h3, h4⟩, rfl⟩ K hK
    (conv => cbv)
    obtain ⟨k, rfl⟩ := Int.eq_ofNat_of_zero_le h1
    rw [Int.toNat_natCast] at h3 h4
    split
    · rename_i g0
      rw [hq] at g0
      ((try simp (disch := omega) only [q0, nc, w64_id, wu64_id, wu32_id, wu8_id, Int.tdiv_eq_ediv_of_nonneg, Int.tmod_eq_emod_of_nonneg, Int.ofNat_eq_natCast, Int.natAbs_natCast, decide_eq_true_eq, decide_eq_false_iff_not, Bool.not_eq_true', Bool.not_eq_false', bne_iff_ne, bne_eq_false_iff_eq, beq_iff_eq, beq_eq_false_iff_ne, ne_eq] at g0); (try replace g0 := of_decide_eq_true g0); (try replace g0 := of_decide_eq_false g0))
      refine Need.mk (by omega) ?_
      have hfk := hf k (by omega)
      have hak := ha k (by omega)
      have hlk := fun j => hl k j (by omega)
      have hfIk := hfI' k
      have haIk := haI' k
      have hlIk := hlI' k
      have hWk := hW2 k (by omega)
      have hWk1 := hW1 k
      try simp only [nc, Int.ofNat_eq_natCast]
      have go1 : ∀ (j : Nat), j < nf k → (W k ++ rl (fv k) (j + 1)) = (W k ++ rl (fv k) j) ++ [fv k j] := fun j hj => by
        show (W k ++ (rl (fv k) j ++ [fv k j])) = _
        rw [← List.append_assoc]
      have len1 : ∀ j : Nat, j ≤ nf k → ((W k ++ rl (fv k) j)).length ≤ 100000000 := fun j hj => by
        rw [List.length_append, rl_len]
        omega
      refine LoopN.mk [3, 5, 12, 13, 14, 20, 21, 22] (fun d σ => ∃ (j zI : Int) (G : Int → List T), (0 ≤ j ∧ j ≤ nf k ∧ d = ((nf k : Int) - j).toNat ∧ zI = ((W k ++ rl (fv k) j.toNat)).length ∧ ∀ i : Nat, i < ((W k ++ rl (fv k) j.toNat)).length → G i = [.int .i64 (((W k ++ rl (fv k) j.toNat)).getD i 0)]) ∧
        σ = ⟨mkS [(3, .one (.row 1 zI)), (5, .one (.bp 0 0)), (12, .one (.t (.sl 5 nI (fun i => [C0 i, C1 i, C2 i, .sl 3 (fI i) (fun j => [.int .i64 (fv i j), F1 i j, F2 i j]), .sl 3 (aI i) (fun j => [a0 i j, .sl 2 (lI i j) (fun l => [.int .i64 (lv i j l), L1 i j l]), a2 i j])])))), (13, .one (.t (.int .i64 nI))), (14, .one (.t (.int .i64 k))), (20, .one (.t (.sl 3 (fI k) (fun j => [.int .i64 (fv k j), F1 k j, F2 k j])))), (21, .one (.t (.int .i64 (fI k)))), (22, .one (.t (.int .i64 j)))] 0 60, [.box 96 [.t (C0 k), .t (C1 k), .t (C2 k), .t (.sl 3 (fI k) (fun j => [.int .i64 (fv k j), F1 k j, F2 k j])), .t (.sl 3 (aI k) (fun j => [a0 k j, .sl 2 (lI k j) (fun l => [.int .i64 (lv k j l), L1 k j l]), a2 k j]))], .sl Ty.«int» 1 zI G]⟩) ⟨nf k, 0, zI, G, ⟨by omega, by omega, by omega, ?_, ?_⟩, ?_⟩ ?_
      · show zI = ((W k ++ [])).length; rw [List.append_nil]; exact h3
      · show ∀ i : Nat, i < ((W k ++ [])).length → G i = [.int .i64 (((W k ++ [])).getD i 0)]; rw [List.append_nil]; exact h4
      · cbv
      · rintro d σ ⟨j, zI, G, ⟨m1, m2, rfl, m3, m4⟩, rfl⟩ K2 hK2
        (conv => cbv)
        obtain ⟨j, rfl⟩ := Int.eq_ofNat_of_zero_le m1
        rw [Int.toNat_natCast] at m3 m4
        try simp only [nc, Int.ofNat_eq_natCast]
        split
        · rename_i g1
          rw [hq] at g1
          ((try simp (disch := omega) only [q0, nc, w64_id, wu64_id, wu32_id, wu8_id, Int.tdiv_eq_ediv_of_nonneg, Int.tmod_eq_emod_of_nonneg, Int.ofNat_eq_natCast, Int.natAbs_natCast, decide_eq_true_eq, decide_eq_false_iff_not, Bool.not_eq_true', Bool.not_eq_false', bne_iff_ne, bne_eq_false_iff_eq, beq_iff_eq, beq_eq_false_iff_ne, ne_eq] at g1); (try replace g1 := of_decide_eq_true g1); (try replace g1 := of_decide_eq_false g1))
          refine Need.mk (by omega) ?_
          have ej : (q Int fun _ => IntKind.i64.wrap ((j : Int) + 1)) = j + 1 := by subst hq; (try simp (disch := omega) only [q0, nc, w64_id, wu64_id, wu32_id, wu8_id, Int.tdiv_eq_ediv_of_nonneg, Int.tmod_eq_emod_of_nonneg, Int.ofNat_eq_natCast, Int.natAbs_natCast, decide_eq_true_eq, decide_eq_false_iff_not, Bool.not_eq_true', bne_iff_ne, beq_iff_eq, ne_eq])
          have hgo := go1 j (by omega)
          have hlen := len1 j (by omega)
          obtain ⟨zs, hzs⟩ : ∃ zs, zs = (W k ++ rl (fv k) j) := ⟨_, rfl⟩
          rw [← hzs] at m3 m4 hgo hlen
          have e' : (q Int fun _ => zI + ((1 : Nat) : Int)) = zI + 1 := by subst hq; rfl
          rw [ej, e']
          refine Need.mk (show (zI + 1) * 8 ≤ 140737488355328 by omega) ?_
          refine hK2 _ ⟨_, ?_, (j : Int) + 1, _, _, ⟨by omega, by omega, rfl, ?_, ?_⟩, rfl⟩
          · omega
          · rw [show ((j : Int) + 1).toNat = j + 1 by omega, hgo, List.length_append, List.length_singleton]; omega
          · rw [show ((j : Int) + 1).toNat = j + 1 by omega, hgo]
            exact app_getD m3 m4
        · rename_i g1
          rw [hq] at g1
          ((try simp (disch := omega) only [q0, nc, w64_id, wu64_id, wu32_id, wu8_id, Int.tdiv_eq_ediv_of_nonneg, Int.tmod_eq_emod_of_nonneg, Int.ofNat_eq_natCast, Int.natAbs_natCast, decide_eq_true_eq, decide_eq_false_iff_not, Bool.not_eq_true', Bool.not_eq_false', bne_iff_ne, bne_eq_false_iff_eq, beq_iff_eq, beq_eq_false_iff_ne, ne_eq] at g1); (try replace g1 := of_decide_eq_true g1); (try replace g1 := of_decide_eq_false g1))
          have hj : j = nf k := by omega
          subst hj
          obtain ⟨B0, hB0⟩ : ∃ B0, B0 = W k ++ rl (fv k) (nf k) := ⟨_, rfl⟩
          rw [← hB0] at m3 m4
          rw [← List.append_assoc, ← hB0] at hWk1
          have hB0l : B0.length + (rl2 (nl k) (lv k) (na k)).length ≤ 100000000 := by rw [hB0, List.length_append, rl_len]; omega
          refine LoopN.mk [3, 12, 13, 14, 34, 35, 36] (fun d σ => ∃ (j zI : Int) (G : Int → List T), (0 ≤ j ∧ j ≤ na k ∧ d = ((na k : Int) - j).toNat ∧ zI = ((B0 ++ rl2 (nl k) (lv k) j.toNat)).length ∧ ∀ i : Nat, i < ((B0 ++ rl2 (nl k) (lv k) j.toNat)).length → G i = [.int .i64 (((B0 ++ rl2 (nl k) (lv k) j.toNat)).getD i 0)]) ∧
            σ = ⟨mkS [(3, .one (.row 0 zI)), (12, .one (.t (.sl 5 nI (fun i => [C0 i, C1 i, C2 i, .sl 3 (fI i) (fun j => [.int .i64 (fv i j), F1 i j, F2 i j]), .sl 3 (aI i) (fun j => [a0 i j, .sl 2 (lI i j) (fun l => [.int .i64 (lv i j l), L1 i j l]), a2 i j])])))), (13, .one (.t (.int .i64 nI))), (14, .one (.t (.int .i64 k))), (34, .one (.t (.sl 3 (aI k) (fun j => [a0 k j, .sl 2 (lI k j) (fun l => [.int .i64 (lv k j l), L1 k j l]), a2 k j])))), (35, .one (.t (.int .i64 (aI k)))), (36, .one (.t (.int .i64 j)))] 0 60, [.sl Ty.«int» 1 zI G]⟩) ⟨na k, 0, zI, G, ⟨by omega, by omega, by omega, ?_, ?_⟩, ?_⟩ ?_
          · show zI = ((B0 ++ [])).length; rw [List.append_nil]; exact m3
          · show ∀ i : Nat, i < ((B0 ++ [])).length → G i = [.int .i64 (((B0 ++ [])).getD i 0)]; rw [List.append_nil]; exact m4
          · cbv
          · clear m3 m4
            rintro d σ ⟨j, zI, G, ⟨m1, m2, rfl, m3, m4⟩, rfl⟩ K3 hK3
            (conv => cbv)
            obtain ⟨j, rfl⟩ := Int.eq_ofNat_of_zero_le m1
            rw [Int.toNat_natCast] at m3 m4
            try simp only [nc, Int.ofNat_eq_natCast]
            split
            · rename_i g3
              rw [hq] at g3
              ((try simp (disch := omega) only [q0, nc, w64_id, wu64_id, wu32_id, wu8_id, Int.tdiv_eq_ediv_of_nonneg, Int.tmod_eq_emod_of_nonneg, Int.ofNat_eq_natCast, Int.natAbs_natCast, decide_eq_true_eq, decide_eq_false_iff_not, Bool.not_eq_true', Bool.not_eq_false', bne_iff_ne, bne_eq_false_iff_eq, beq_iff_eq, beq_eq_false_iff_ne, ne_eq] at g3); (try replace g3 := of_decide_eq_true g3); (try replace g3 := of_decide_eq_false g3))
              refine Need.mk (by omega) ?_
              have hlkj := hlk j (by omega)
              have hlIkj := hlIk j
              have h2l := rl2_le (nl := nl k) (lv := lv k) (j := j) (n := na k) (by omega)
              have go2 : ∀ (l : Nat), ((B0 ++ rl2 (nl k) (lv k) j) ++ rl (lv k j) (l + 1)) = ((B0 ++ rl2 (nl k) (lv k) j) ++ rl (lv k j) l) ++ [lv k j l] := fun l => by
                show ((B0 ++ rl2 (nl k) (lv k) j) ++ (rl (lv k j) l ++ [lv k j l])) = _
                rw [← List.append_assoc]
              have len2 : ∀ l : Nat, l ≤ nl k j → (((B0 ++ rl2 (nl k) (lv k) j) ++ rl (lv k j) l)).length ≤ 100000000 := fun l hl => by
                rw [List.length_append, List.length_append, rl_len]
                omega
              obtain ⟨B1, hB1⟩ : ∃ B1, B1 = B0 ++ rl2 (nl k) (lv k) j := ⟨_, rfl⟩
              have hnext : B0 ++ rl2 (nl k) (lv k) (j + 1) = B1 ++ rl (lv k j) (nl k j) := by rw [hB1, List.append_assoc]; rfl
              rw [← hB1] at m3 m4 go2 len2
              refine LoopN.mk [3, 12, 13, 14, 34, 35, 36, 42, 43, 44] (fun d σ => ∃ (l zI : Int) (G : Int → List T), (0 ≤ l ∧ l ≤ nl k j ∧ d = ((nl k j : Int) - l).toNat ∧ zI = ((B1 ++ rl (lv k j) l.toNat)).length ∧ ∀ i : Nat, i < ((B1 ++ rl (lv k j) l.toNat)).length → G i = [.int .i64 (((B1 ++ rl (lv k j) l.toNat)).getD i 0)]) ∧
                σ = ⟨mkS [(3, .one (.row 0 zI)), (12, .one (.t (.sl 5 nI (fun i => [C0 i, C1 i, C2 i, .sl 3 (fI i) (fun j => [.int .i64 (fv i j), F1 i j, F2 i j]), .sl 3 (aI i) (fun j => [a0 i j, .sl 2 (lI i j) (fun l => [.int .i64 (lv i j l), L1 i j l]), a2 i j])])))), (13, .one (.t (.int .i64 nI))), (14, .one (.t (.int .i64 k))), (34, .one (.t (.sl 3 (aI k) (fun j => [a0 k j, .sl 2 (lI k j) (fun l => [.int .i64 (lv k j l), L1 k j l]), a2 k j])))), (35, .one (.t (.int .i64 (aI k)))), (36, .one (.t (.int .i64 j))), (42, .one (.t (.sl 2 (lI k j) (fun l => [.int .i64 (lv k j l), L1 k j l])))), (43, .one (.t (.int .i64 (lI k j)))), (44, .one (.t (.int .i64 l)))] 0 60, [.sl Ty.«int» 1 zI G]⟩) ⟨nl k j, 0, zI, G, ⟨by omega, by omega, by omega, ?_, ?_⟩, ?_⟩ ?_
              · show zI = ((B1 ++ [])).length; rw [List.append_nil]; exact m3
              · show ∀ i : Nat, i < ((B1 ++ [])).length → G i = [.int .i64 (((B1 ++ [])).getD i 0)]; rw [List.append_nil]; exact m4
              · cbv
              · clear m3 m4
                rintro d σ ⟨l, zI, G, ⟨w1, w2, rfl, w3, w4⟩, rfl⟩ K4 hK4
                (conv => cbv)
                obtain ⟨l, rfl⟩ := Int.eq_ofNat_of_zero_le w1
                rw [Int.toNat_natCast] at w3 w4
                try simp only [nc, Int.ofNat_eq_natCast]
                split
                · rename_i g4
                  rw [hq] at g4
                  ((try simp (disch := omega) only [q0, nc, w64_id, wu64_id, wu32_id, wu8_id, Int.tdiv_eq_ediv_of_nonneg, Int.tmod_eq_emod_of_nonneg, Int.ofNat_eq_natCast, Int.natAbs_natCast, decide_eq_true_eq, decide_eq_false_iff_not, Bool.not_eq_true', Bool.not_eq_false', bne_iff_ne, bne_eq_false_iff_eq, beq_iff_eq, beq_eq_false_iff_ne, ne_eq] at g4); (try replace g4 := of_decide_eq_true g4); (try replace g4 := of_decide_eq_false g4))
                  refine Need.mk (by omega) ?_
                  have el : (q Int fun _ => IntKind.i64.wrap ((l : Int) + 1)) = l + 1 := by subst hq; (try simp (disch := omega) only [q0, nc, w64_id, wu64_id, wu32_id, wu8_id, Int.tdiv_eq_ediv_of_nonneg, Int.tmod_eq_emod_of_nonneg, Int.ofNat_eq_natCast, Int.natAbs_natCast, decide_eq_true_eq, decide_eq_false_iff_not, Bool.not_eq_true', bne_iff_ne, beq_iff_eq, ne_eq])
                  have hgo := go2 l
                  have hlen := len2 l (by omega)
                  obtain ⟨zs, hzs⟩ : ∃ zs, zs = (B1 ++ rl (lv k j) l) := ⟨_, rfl⟩
                  rw [← hzs] at w3 w4 hgo hlen
                  have e' : (q Int fun _ => zI + ((1 : Nat) : Int)) = zI + 1 := by subst hq; rfl
                  rw [el, e']
                  refine Need.mk (show (zI + 1) * 8 ≤ 140737488355328 by omega) ?_
                  refine hK4 _ ⟨_, ?_, (l : Int) + 1, _, _, ⟨by omega, by omega, rfl, ?_, ?_⟩, rfl⟩
                  · omega
                  · rw [show ((l : Int) + 1).toNat = l + 1 by omega, hgo, List.length_append, List.length_singleton]; omega
                  · rw [show ((l : Int) + 1).toNat = l + 1 by omega, hgo]
                    exact app_getD w3 w4
                · rename_i g4
                  rw [hq] at g4
                  ((try simp (disch := omega) only [q0, nc, w64_id, wu64_id, wu32_id, wu8_id, Int.tdiv_eq_ediv_of_nonneg, Int.tmod_eq_emod_of_nonneg, Int.ofNat_eq_natCast, Int.natAbs_natCast, decide_eq_true_eq, decide_eq_false_iff_not, Bool.not_eq_true', Bool.not_eq_false', bne_iff_ne, bne_eq_false_iff_eq, beq_iff_eq, beq_eq_false_iff_ne, ne_eq] at g4); (try replace g4 := of_decide_eq_true g4); (try replace g4 := of_decide_eq_false g4))
                  have hl : l = nl k j := by omega
                  subst hl
                  have ej : (q Int fun _ => IntKind.i64.wrap ((j : Int) + 1)) = j + 1 := by subst hq; (try simp (disch := omega) only [q0, nc, w64_id, wu64_id, wu32_id, wu8_id, Int.tdiv_eq_ediv_of_nonneg, Int.tmod_eq_emod_of_nonneg, Int.ofNat_eq_natCast, Int.natAbs_natCast, decide_eq_true_eq, decide_eq_false_iff_not, Bool.not_eq_true', bne_iff_ne, beq_iff_eq, ne_eq])
                  rw [ej]
                  refine hK3 _ ⟨_, ?_, (j : Int) + 1, _, _, ⟨by omega, by omega, rfl, ?_, ?_⟩, rfl⟩
                  · omega
                  · rw [show ((j : Int) + 1).toNat = j + 1 by omega, hnext]; exact w3
                  · rw [show ((j : Int) + 1).toNat = j + 1 by omega, hnext]; exact w4
            · rename_i g3
              rw [hq] at g3
              ((try simp (disch := omega) only [q0, nc, w64_id, wu64_id, wu32_id, wu8_id, Int.tdiv_eq_ediv_of_nonneg, Int.tmod_eq_emod_of_nonneg, Int.ofNat_eq_natCast, Int.natAbs_natCast, decide_eq_true_eq, decide_eq_false_iff_not, Bool.not_eq_true', Bool.not_eq_false', bne_iff_ne, bne_eq_false_iff_eq, beq_iff_eq, beq_eq_false_iff_ne, ne_eq] at g3); (try replace g3 := of_decide_eq_true g3); (try replace g3 := of_decide_eq_false g3))
              have hj : j = na k := by omega
              subst hj
              have ek : (q Int fun _ => IntKind.i64.wrap ((k : Int) + 1)) = k + 1 := by subst hq; (try simp (disch := omega) only [q0, nc, w64_id, wu64_id, wu32_id, wu8_id, Int.tdiv_eq_ediv_of_nonneg, Int.tmod_eq_emod_of_nonneg, Int.ofNat_eq_natCast, Int.natAbs_natCast, decide_eq_true_eq, decide_eq_false_iff_not, Bool.not_eq_true', bne_iff_ne, beq_iff_eq, ne_eq])
              rw [ek]
              refine hK _ ⟨_, ?_, (k : Int) + 1, _, _, ⟨by omega, by omega, rfl, ?_, ?_⟩, rfl⟩
              · omega
              · rw [show ((k : Int) + 1).toNat = k + 1 by omega, hWk1]; exact m3
              · rw [show ((k : Int) + 1).toNat = k + 1 by omega, hWk1]; exact m4
    · rename_i g0
      rw [hq] at g0
      ((try simp (disch := omega) only [q0, nc, w64_id, wu64_id, wu32_id, wu8_id, Int.tdiv_eq_ediv_of_nonneg, Int.tmod_eq_emod_of_nonneg, Int.ofNat_eq_natCast, Int.natAbs_natCast, decide_eq_true_eq, decide_eq_false_iff_not, Bool.not_eq_true', Bool.not_eq_false', bne_iff_ne, bne_eq_false_iff_eq, beq_iff_eq, beq_eq_false_iff_ne, ne_eq] at g0); (try replace g0 := of_decide_eq_true g0); (try replace g0 := of_decide_eq_false g0))
      have hk : k = n := by omega
      subst hk
      obtain ⟨m, hm⟩ : ∃ m, m = (W k).length := ⟨_, rfl⟩
      rw [← hm] at h3
      subst h3
      refine call_eq hCN 0 (fun i => [.int .i64 ((W k).getD i.toNat 0)]) rfl (fun i hi => by rw [h4 i (by omega)]; rfl) ?_
      obtain ⟨V, hV⟩ : ∃ V : Int → Int, V = fun i : Int => (W k).getD i.toNat 0 := ⟨_, rfl⟩
      have hV2 : ((List.range m).map fun i : Nat => V i) = W k := by rw [hV, hm]; exact map_range_getD (W k)
      show CN F.slices_Sort_int_int [.one (.row 0 (m : Int))] [.sl Ty.«int» 1 (m : Int) (fun i => [.int .i64 ((fun i : Int => (W k).getD i.toNat 0) i)])] _
      rw [← hV]
      refine call_sort (V := V) hCN rfl (by omega) (fun V' hV' => ?_)
      rw [hV2] at hV'
      (conv => cbv)
      try simp only [nc, Int.ofNat_eq_natCast]
      refine call_compact (V := V') hCN rfl (by omega) (fun m' V'' hm' hV'' => ?_)
      rw [hV', sort_compact] at hV''
      (conv => cbv)
      try simp only [nc, Int.ofNat_eq_natCast]
      exact fin m' V'' hV''
end Sx

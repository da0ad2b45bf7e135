/- A part of the proof of PolyReadsSaid: texts SxKeep1 SxFrame SxKeep2. -/
import Derived.Test.YtlnpmgmpakjhgaaGreatSxBE
import Derived.Test.YtlnpmgmpakjhgaaGreatSxBH
import Derived.Test.YtlnpmgmpakjhgaaGreatSxAV
set_option linter.all false
section
set_option maxRecDepth 100000
namespace Sx
open Go

theorem sameInts_main (n : Nat) (hn : n ≤ lenB) (V : Int → Int) : PureF Pg F.amortcostkeep_SameInts (fun q => [.one (.sl 1 (q Int fun _ => (n : Int)) (fun i => [.int .i64 (V i)])), .one (.sl 1 (q Int fun _ => (n : Int)) (fun i => [.int .i64 (V i)]))]) (fun _ => .one (.bool true)) := by
  have hn2 : n ≤ 9223372036854775807 := hn
  refine walkF mixed tau_ok At.amortcostkeep_SameInts (fun CN DN q R hCN hDN hq hR => ?_)
  obtain ⟨nI, hnI⟩ : ∃ nI, nI = q Int fun _ => (n : Int) := ⟨_, rfl⟩
  rw [← hnI]
  have hnI' : nI = n := by rw [hnI]; subst hq; rfl
  (conv => cbv)
  split
  · rename_i g0
    rw [hq] at g0
    ((try simp (disch := omega) only [q0, nc, w64_id, wu64_id, wu32_id, wu8_id, Int.tdiv_eq_ediv_of_nonneg, Int.tmod_eq_emod_of_nonneg, Int.ofNat_eq_natCast, Int.natAbs_natCast, decide_eq_true_eq, decide_eq_false_iff_not, Bool.not_eq_true', Bool.not_eq_false', bne_iff_ne, bne_eq_false_iff_eq, beq_iff_eq, beq_eq_false_iff_ne, ne_eq] at g0); (try replace g0 := of_decide_eq_true g0); (try replace g0 := of_decide_eq_false g0))
    exact absurd trivial g0
  · rename_i g0
    refine LoopN.mk [0, 1, 12, 13] (fun d σ => ∃ k : Int, (0 ≤ k ∧ k ≤ n ∧ d = ((n : Int) - k).toNat) ∧
      σ = ⟨mkS [(0, .one (.t (.sl 1 nI (fun i => [.int .i64 (V i)])))), (1, .one (.t (.sl 1 nI (fun i => [.int .i64 (V i)])))), (12, .one (.t (.int .i64 nI))), (13, .one (.t (.int .i64 k)))] 0 26, []⟩) ⟨n, 0, ⟨by omega, by omega, by omega⟩, ?_⟩ ?_
    · cbv
    · rintro d σ ⟨k, ⟨h1, h2, rfl⟩, rfl⟩ K hK
      (conv => cbv)
      obtain ⟨k, rfl⟩ := Int.eq_ofNat_of_zero_le h1
      try simp only [nc, Int.ofNat_eq_natCast]
      split
      · rename_i g1
        rw [hq] at g1
        ((try simp (disch := omega) only [q0, nc, w64_id, wu64_id, wu32_id, wu8_id, Int.tdiv_eq_ediv_of_nonneg, Int.tmod_eq_emod_of_nonneg, Int.ofNat_eq_natCast, Int.natAbs_natCast, decide_eq_true_eq, decide_eq_false_iff_not, Bool.not_eq_true', Bool.not_eq_false', bne_iff_ne, bne_eq_false_iff_eq, beq_iff_eq, beq_eq_false_iff_ne, ne_eq] at g1); (try replace g1 := of_decide_eq_true g1); (try replace g1 := of_decide_eq_false g1))
        refine Need.mk (by (exact ⟨by kernel_rfl, by kernel_rfl⟩)) (Need.mk (by omega) (Need.mk (by omega) ?_))
        split
        · rename_i g2
          rw [hq] at g2
          ((try simp (disch := omega) only [q0, nc, w64_id, wu64_id, wu32_id, wu8_id, Int.tdiv_eq_ediv_of_nonneg, Int.tmod_eq_emod_of_nonneg, Int.ofNat_eq_natCast, Int.natAbs_natCast, decide_eq_true_eq, decide_eq_false_iff_not, Bool.not_eq_true', Bool.not_eq_false', bne_iff_ne, bne_eq_false_iff_eq, beq_iff_eq, beq_eq_false_iff_ne, ne_eq] at g2); (try replace g2 := of_decide_eq_true g2); (try replace g2 := of_decide_eq_false g2))
          exact absurd trivial g2
        · have ek : (q Int fun _ => IntKind.i64.wrap ((k : Int) + 1)) = k + 1 := by subst hq; (try simp (disch := omega) only [q0, nc, w64_id, wu64_id, wu32_id, wu8_id, Int.tdiv_eq_ediv_of_nonneg, Int.tmod_eq_emod_of_nonneg, Int.ofNat_eq_natCast, Int.natAbs_natCast, decide_eq_true_eq, decide_eq_false_iff_not, Bool.not_eq_true', bne_iff_ne, beq_iff_eq, ne_eq])
          rw [ek]
          exact hK _ ⟨_, by omega, (k : Int) + 1, ⟨by omega, by omega, rfl⟩, rfl⟩
      · exact hR _ .refl
theorem sameInts_c (l : List Int) (hl : l.length ≤ lenB) : PureF Pg F.amortcostkeep_SameInts (fun _ => [.one (intsT l), .one (intsT l)]) (fun _ => .one (.bool true)) :=
  sameInts_main l.length hl (fun i => l.getD i.toNat 0)
theorem sameLimbs_c (x : Nat) (hx : len x ≤ 100000000) : PureF Pg F.amortcostkeep_sameLimbs (fun q => [.one (natT q x), .one (natT q x)]) (fun _ => .one (.bool true)) := by
  refine walkF mixed tau_ok At.amortcostkeep_sameLimbs (fun CN DN q R hCN hDN hq hR => ?_)
  (conv => cbv)
  split
  · rename_i g0
    rw [hq] at g0
    ((try simp (disch := omega) only [q0, nc, w64_id, wu64_id, wu32_id, wu8_id, Int.tdiv_eq_ediv_of_nonneg, Int.tmod_eq_emod_of_nonneg, Int.ofNat_eq_natCast, Int.natAbs_natCast, decide_eq_true_eq, decide_eq_false_iff_not, Bool.not_eq_true', Bool.not_eq_false', bne_iff_ne, bne_eq_false_iff_eq, beq_iff_eq, beq_eq_false_iff_ne, ne_eq] at g0); (try replace g0 := of_decide_eq_true g0); (try replace g0 := of_decide_eq_false g0))
    exact absurd trivial g0
  · rename_i g0
    refine LoopN.mk [0, 1, 12, 13] (fun d σ => ∃ k : Int, (0 ≤ k ∧ k ≤ len x ∧ d = ((len x : Int) - k).toNat) ∧
      σ = ⟨mkS [(0, .one (.t (natT q x))), (1, .one (.t (natT q x))), (12, .one (.t (.int .i64 (q Int fun _ => (len x : Int))))), (13, .one (.t (.int .i64 k)))] 0 26, []⟩) ⟨len x, 0, ⟨by omega, by omega, by omega⟩, ?_⟩ ?_
    · cbv
    · rintro d σ ⟨k, ⟨h1, h2, rfl⟩, rfl⟩ K hK
      (conv => cbv)
      obtain ⟨k, rfl⟩ := Int.eq_ofNat_of_zero_le h1
      try simp only [nc, Int.ofNat_eq_natCast]
      split
      · rename_i g1
        rw [hq] at g1
        ((try simp (disch := omega) only [q0, nc, w64_id, wu64_id, wu32_id, wu8_id, Int.tdiv_eq_ediv_of_nonneg, Int.tmod_eq_emod_of_nonneg, Int.ofNat_eq_natCast, Int.natAbs_natCast, decide_eq_true_eq, decide_eq_false_iff_not, Bool.not_eq_true', Bool.not_eq_false', bne_iff_ne, bne_eq_false_iff_eq, beq_iff_eq, beq_eq_false_iff_ne, ne_eq] at g1); (try replace g1 := of_decide_eq_true g1); (try replace g1 := of_decide_eq_false g1))
        refine Need.mk (by (exact ⟨by kernel_rfl, by kernel_rfl⟩)) (Need.mk (by subst hq; (try simp (disch := omega) only [q0, nc, w64_id, wu64_id, wu32_id, wu8_id, Int.tdiv_eq_ediv_of_nonneg, Int.tmod_eq_emod_of_nonneg, Int.ofNat_eq_natCast, Int.natAbs_natCast, decide_eq_true_eq, decide_eq_false_iff_not, Bool.not_eq_true', bne_iff_ne, beq_iff_eq, ne_eq]); omega) (Need.mk (by subst hq; (try simp (disch := omega) only [q0, nc, w64_id, wu64_id, wu32_id, wu8_id, Int.tdiv_eq_ediv_of_nonneg, Int.tmod_eq_emod_of_nonneg, Int.ofNat_eq_natCast, Int.natAbs_natCast, decide_eq_true_eq, decide_eq_false_iff_not, Bool.not_eq_true', bne_iff_ne, beq_iff_eq, ne_eq]); omega) ?_))
        split
        · rename_i g2
          rw [hq] at g2
          ((try simp (disch := omega) only [q0, nc, w64_id, wu64_id, wu32_id, wu8_id, Int.tdiv_eq_ediv_of_nonneg, Int.tmod_eq_emod_of_nonneg, Int.ofNat_eq_natCast, Int.natAbs_natCast, decide_eq_true_eq, decide_eq_false_iff_not, Bool.not_eq_true', Bool.not_eq_false', bne_iff_ne, bne_eq_false_iff_eq, beq_iff_eq, beq_eq_false_iff_ne, ne_eq] at g2); (try replace g2 := of_decide_eq_true g2); (try replace g2 := of_decide_eq_false g2))
          exact absurd trivial g2
        · have ek : (q Int fun _ => IntKind.i64.wrap ((k : Int) + 1)) = k + 1 := by subst hq; (try simp (disch := omega) only [q0, nc, w64_id, wu64_id, wu32_id, wu8_id, Int.tdiv_eq_ediv_of_nonneg, Int.tmod_eq_emod_of_nonneg, Int.ofNat_eq_natCast, Int.natAbs_natCast, decide_eq_true_eq, decide_eq_false_iff_not, Bool.not_eq_true', bne_iff_ne, beq_iff_eq, ne_eq])
          rw [ek]
          exact hK _ ⟨_, by omega, (k : Int) + 1, ⟨by omega, by omega, rfl⟩, rfl⟩
      · exact hR _ .refl
theorem sameRat_c (r : Rat) (hr : rlen r ≤ 100000000) : PureF Pg F.amortcostkeep_SameRat (fun q => [.agg (ratL q r), .agg (ratL q r)]) (fun _ => .one (.bool true)) := by
  refine walkF mixed tau_ok At.amortcostkeep_SameRat (fun CN DN q R hCN hDN hq hR => ?_)
  obtain ⟨b, x, y, e, hb, hx, hy⟩ := ratL_open q r
  rw [e]
  have lx : len x ≤ 100000000 := by rw [hx]; exact Nat.le_trans (Nat.le_max_left _ _) hr
  have ly : len y ≤ 100000000 := by rw [hy]; exact Nat.le_trans (Nat.le_max_right _ _) hr
  clear e hb hx hy
  (conv => cbv)
  split
  · refine call_fn hq hCN (sameLimbs_c x lx) rfl ?_
    (conv => cbv)
    refine call_fn hq hCN (sameLimbs_c y ly) rfl ?_
    (conv => cbv)
    exact hR _ .refl
  · rename_i g0
    rw [hq] at g0
    simp [q0] at g0
end Sx
end

section
namespace Sx
open Go
variable {P : Program}

theorem CallN.frame1 {g : FuncId} {args : List AV} {ty : TypeId} {t : T} {rest : List Blk} {K K' : AV → List Blk → Prop} (hc : CallN P g (args.map (renA [0])) [.box ty [.t t]] K')
    (hK : ∀ v h', K' v h' → ∃ x t', v = .one (.t x) ∧ getB h' 0 = .box ty [.t t'] ∧ K (.one (.t x)) (.box ty [.t t'] :: rest)) : CallN P g args (.box ty [.t t] :: rest) K :=
  ⟨hc.1, fun C w M X vs hI hv => by
    obtain ⟨p0, hp0, hB0⟩ := hI.has (id := 0) (by simp [getB])
    have hb0 : getB (.box ty [.t t] :: rest) 0 = .box ty [.t t] := rfl
    rw [hb0] at hB0
    obtain ⟨p, rfl⟩ : ∃ p, p0 = .at p := by cases hB0; exact ⟨_, rfl⟩
    have hlv0 := hI.live 0 p hp0 (by rw [hb0]; rfl)
    have hM1 : keepM [0] M = [.at p] := by
      unfold keepM
      simp [List.getD_eq_getElem?_getD, hp0]
    have hI1 : Inv ⟨w, X, fun b => b = p.b, [.at p]⟩ [.box ty [.t t]] w [.at p] X := by
      refine ⟨rfl, rfl, rfl, Nat.le_refl _, fun _ _ _ => rfl, hI.xlt, fun _ h => .inl h, fun _ h => h, rfl, ⟨Nat.le_refl _, Ext.refl _⟩, fun id pl hp hl => ?_, fun id id' pl pl' hp hp' hl hl' hb => ?_, fun id pm hp => ?_⟩
      · have hid : id = 0 := by
          have := (List.getElem?_eq_some_iff.1 hp).1
          simp at this
          exact this
        subst hid
        simp at hp
        subst hp
        exact ⟨.inl rfl, hlv0.2⟩
      · have h1 := (List.getElem?_eq_some_iff.1 hp).1
        have h2 := (List.getElem?_eq_some_iff.1 hp').1
        simp at h1 h2
        rw [h1, h2]
      · have hid : id = 0 := by
          have := (List.getElem?_eq_some_iff.1 hp).1
          simp at this
          exact this
        subst hid
        simp at hp
        subst hp
        have h := renB_rd (ids := [0]) hB0
        rw [hM1] at h
        exact h
    have hargs : RdAs w X [.at p] (args.map (renA [0])) vs := by
      refine ⟨by simpa using hv.1, fun j x v hx hvj => ?_⟩
      simp only [List.getElem?_map, Option.map_eq_some_iff] at hx
      obtain ⟨y, hy, rfl⟩ := hx
      have h := renA_rd [0] y v (hv.2 j y v hy hvj)
      rw [hM1] at h
      exact h
    refine (hc.2 ⟨w, X, fun b => b = p.b, [.at p]⟩ w [.at p] X vs hI1 hargs).mono ?_
    rintro e w' ⟨u, v, h', M', X', he, hI', hs, hx, hm, hu, hl, hres, hk⟩
    obtain ⟨x, t', rfl, hb', hkk⟩ := hK v h' hk
    have hp' : M'[0]? = some (.at p) := hm 0 (.at p) rfl (by simp)
    have hsz : w.heap.size ≤ w'.heap.size := hI'.size
    have hfr : ∀ b, b < w.heap.size → b ≠ p.b → w'.heap[b]? = w.heap[b]? := fun b h1 h2 => hI'.frame b h1 h2
    have hlv' := hI'.live 0 p hp' (by rw [hb']; rfl)
    have hrest : ∀ j, j ≠ 0 → getB (.box ty [.t t'] :: rest) j = getB (.box ty [.t t] :: rest) j := fun j hj => by
      obtain ⟨j, rfl⟩ : ∃ k, j = k + 1 := ⟨j - 1, by omega⟩
      rfl
    have hne : ∀ (id : Nat) (pl : Pl), id ≠ 0 → M[id]? = some (.at pl) → (getB (.box ty [.t t] :: rest) id).live = true → pl.b ≠ p.b := fun id pl hid hp hl e => hid (hI.inj id 0 pl p hp hp0 hl (by rw [hb0]; rfl) e)
    refine ⟨u, .one (.t x), .box ty [.t t'] :: rest, M, X', he, ?_, hs, hx, Ext.refl M, ?_, Nat.le_refl _, fun j hj => ?_, hkk⟩
    · refine ⟨hI'.os.trans hI.os, hI'.tape.trans hI.tape, hI'.output.trans hI.output, Nat.le_trans hI.size hsz, fun b h1 h2 => ?_, hI'.xlt, fun b hb => ?_, fun b hb => hx b (hI.x0 b hb), hI.mlen, hI.pin, fun id pl hp hl => ?_, fun id id' pl pl' hp hp2 hl hl2 hb => ?_, fun id pm hp => ?_⟩
      · rw [hfr b (by have := hI.size; omega) (fun e => by
          subst e
          rcases hlv0.1 with h | h
          · exact h2 h
          · omega)]
        exact hI.frame b h1 h2
      · rcases hI'.xsub b hb with h | h | h
        · exact hI.xsub b h
        · have h5 : w.heap.size ≤ b := h
          exact .inr (.inl (by have := hI.size; omega))
        · have h5 : b = p.b := h
          subst h5
          exact absurd hb hlv'.2.2
      · by_cases hid : id = 0
        · subst hid
          rw [hp0] at hp
          cases hp
          exact ⟨hlv0.1, hlv'.2⟩
        · rw [hrest id hid] at hl
          obtain ⟨a, b, c⟩ := hI.live id pl hp hl
          refine ⟨a, by omega, fun hc2 => ?_⟩
          rcases hI'.xsub pl.b hc2 with h | h | h
          · exact c h
          · have h5 : w.heap.size ≤ pl.b := h
            omega
          · exact hne id pl hid hp hl h
      · refine hI.inj id id' pl pl' hp hp2 ?_ ?_ hb
        · by_cases hid : id = 0
          · subst hid; rfl
          · rw [← hrest id hid]; exact hl
        · by_cases hid : id' = 0
          · subst hid; rfl
          · rw [← hrest id' hid]; exact hl2
      · by_cases hid : id = 0
        · subst hid
          rw [hp0] at hp
          cases hp
          have hB' := hI'.blk 0 _ hp'
          rw [hb'] at hB'
          show RdB w' X' M (.at p) (.box ty [.t t'])
          cases hB' with | box h1 h2 =>
          refine .box h1 ⟨h2.1, fun j l v hl hv => ?_⟩
          have h3 := h2.2 j l v hl hv
          cases j with
          | zero => simp at hl; subst hl; cases h3 with | t h3 => exact .t h3
          | succ j => simp at hl
        · rw [hrest id hid]
          refine (hI.blk id pm hp).mono hs hx (Ext.refl M) (fun pl hpl hl => ?_)
          subst hpl
          exact hfr pl.b (hI.live id pl hp hl).2.1 (hne id pl hid hp hl)
    · cases hu with | one hu => cases hu with | t hu => exact .one (.t hu)
    · cases j with
      | zero => simp [getB] at hj
      | succ j => exact hj⟩
theorem CallN.frameAt {g : FuncId} {args : List AV} {ty : TypeId} {t : T} {H : List Blk} (i0 : Nat) (hb0 : getB H i0 = .box ty [.t t]) {K K' : AV → List Blk → Prop} (hc : CallN P g (args.map (renA [i0])) [.box ty [.t t]] K')
    (hK : ∀ v h', K' v h' → ∃ x t', v = .one (.t x) ∧ getB h' 0 = .box ty [.t t'] ∧ K (.one (.t x)) (H.set i0 (.box ty [.t t']))) : CallN P g args H K :=
  ⟨hc.1, fun C w M X vs hI hv => by
    obtain ⟨p0, hp0, hB0⟩ := hI.has (id := i0) (by rw [hb0]; simp)
    have hlt0 : i0 < H.length := getB_lt (by rw [hb0]; simp)
    rw [hb0] at hB0
    obtain ⟨p, rfl⟩ : ∃ p, p0 = .at p := by cases hB0; exact ⟨_, rfl⟩
    have hlv0 := hI.live i0 p hp0 (by rw [hb0]; rfl)
    have hM1 : keepM [i0] M = [.at p] := by
      unfold keepM
      simp [List.getD_eq_getElem?_getD, hp0]
    have hI1 : Inv ⟨w, X, fun b => b = p.b, [.at p]⟩ [.box ty [.t t]] w [.at p] X := by
      refine ⟨rfl, rfl, rfl, Nat.le_refl _, fun _ _ _ => rfl, hI.xlt, fun _ h => .inl h, fun _ h => h, rfl, ⟨Nat.le_refl _, Ext.refl _⟩, fun id pl hp hl => ?_, fun id id' pl pl' hp hp' hl hl' hb => ?_, fun id pm hp => ?_⟩
      · have hid : id = 0 := by
          have := (List.getElem?_eq_some_iff.1 hp).1
          simp at this
          exact this
        subst hid
        simp at hp
        subst hp
        exact ⟨.inl rfl, hlv0.2⟩
      · have h1 := (List.getElem?_eq_some_iff.1 hp).1
        have h2 := (List.getElem?_eq_some_iff.1 hp').1
        simp at h1 h2
        rw [h1, h2]
      · have hid : id = 0 := by
          have := (List.getElem?_eq_some_iff.1 hp).1
          simp at this
          exact this
        subst hid
        simp at hp
        subst hp
        have h := renB_rd (ids := [i0]) hB0
        rw [hM1] at h
        exact h
    have hargs : RdAs w X [.at p] (args.map (renA [i0])) vs := by
      refine ⟨by simpa using hv.1, fun j x v hx hvj => ?_⟩
      simp only [List.getElem?_map, Option.map_eq_some_iff] at hx
      obtain ⟨y, hy, rfl⟩ := hx
      have h := renA_rd [i0] y v (hv.2 j y v hy hvj)
      rw [hM1] at h
      exact h
    refine (hc.2 ⟨w, X, fun b => b = p.b, [.at p]⟩ w [.at p] X vs hI1 hargs).mono ?_
    rintro e w' ⟨u, v, h', M', X', he, hI', hs, hx, hm, hu, hl, hres, hk⟩
    obtain ⟨x, t', rfl, hb', hkk⟩ := hK v h' hk
    have hp' : M'[0]? = some (.at p) := hm 0 (.at p) rfl (by simp)
    have hsz : w.heap.size ≤ w'.heap.size := hI'.size
    have hfr : ∀ b, b < w.heap.size → b ≠ p.b → w'.heap[b]? = w.heap[b]? := fun b h1 h2 => hI'.frame b h1 h2
    have hlv' := hI'.live 0 p hp' (by rw [hb']; rfl)
    have hrest : ∀ j, j ≠ i0 → getB (H.set i0 (.box ty [.t t'])) j = getB H j := fun j hj => by
      simp only [getB, List.getD_eq_getElem?_getD, List.getElem?_set, if_neg (Ne.symm hj)]
    have hset : getB (H.set i0 (.box ty [.t t'])) i0 = .box ty [.t t'] := by
      simp [getB, List.getD_eq_getElem?_getD, List.getElem?_set, hlt0]
    have hne : ∀ (id : Nat) (pl : Pl), id ≠ i0 → M[id]? = some (.at pl) → (getB H id).live = true → pl.b ≠ p.b := fun id pl hid hp hl e => hid (hI.inj id i0 pl p hp hp0 hl (by rw [hb0]; rfl) e)
    refine ⟨u, .one (.t x), H.set i0 (.box ty [.t t']), M, X', he, ?_, hs, hx, Ext.refl M, ?_, by rw [List.length_set]; exact Nat.le_refl _, fun j hj => ?_, hkk⟩
    · refine ⟨hI'.os.trans hI.os, hI'.tape.trans hI.tape, hI'.output.trans hI.output, Nat.le_trans hI.size hsz, fun b h1 h2 => ?_, hI'.xlt, fun b hb => ?_, fun b hb => hx b (hI.x0 b hb), by rw [List.length_set]; exact hI.mlen, hI.pin, fun id pl hp hl => ?_, fun id id' pl pl' hp hp2 hl hl2 hb => ?_, fun id pm hp => ?_⟩
      · rw [hfr b (by have := hI.size; omega) (fun e => by
          subst e
          rcases hlv0.1 with h | h
          · exact h2 h
          · omega)]
        exact hI.frame b h1 h2
      · rcases hI'.xsub b hb with h | h | h
        · exact hI.xsub b h
        · have h5 : w.heap.size ≤ b := h
          exact .inr (.inl (by have := hI.size; omega))
        · have h5 : b = p.b := h
          subst h5
          exact absurd hb hlv'.2.2
      · by_cases hid : id = i0
        · subst hid
          rw [hp0] at hp
          cases hp
          exact ⟨hlv0.1, hlv'.2⟩
        · rw [hrest id hid] at hl
          obtain ⟨a, b, c⟩ := hI.live id pl hp hl
          refine ⟨a, by omega, fun hc2 => ?_⟩
          rcases hI'.xsub pl.b hc2 with h | h | h
          · exact c h
          · have h5 : w.heap.size ≤ pl.b := h
            omega
          · exact hne id pl hid hp hl h
      · refine hI.inj id id' pl pl' hp hp2 ?_ ?_ hb
        · by_cases hid : id = i0
          · subst hid; rw [hb0]; rfl
          · rw [← hrest id hid]; exact hl
        · by_cases hid : id' = i0
          · subst hid; rw [hb0]; rfl
          · rw [← hrest id' hid]; exact hl2
      · by_cases hid : id = i0
        · subst hid
          rw [hp0] at hp
          cases hp
          have hB' := hI'.blk 0 _ hp'
          rw [hb'] at hB'
          rw [hset]
          cases hB' with | box h1 h2 =>
          refine .box h1 ⟨h2.1, fun j l v hl hv => ?_⟩
          have h3 := h2.2 j l v hl hv
          cases j with
          | zero => simp at hl; subst hl; cases h3 with | t h3 => exact .t h3
          | succ j => simp at hl
        · rw [hrest id hid]
          refine (hI.blk id pm hp).mono hs hx (Ext.refl M) (fun pl hpl hl => ?_)
          subst hpl
          exact hfr pl.b (hI.live id pl hp hl).2.1 (hne id pl hid hp hl)
    · cases hu with | one hu => cases hu with | t hu => exact .one (.t hu)
    · by_cases hid : j = i0
      · subst hid
        rw [hb0] at hj
        cases hj
      · rw [hrest j hid]
        exact hj⟩
theorem call_frame1 {CN : CNt} (hCN : CN = CallN P) {g : FuncId} {args : List AV} {ty : TypeId} {t : T} {rest : List Blk} {K : AV → List Blk → Prop} {K' : AV → List Blk → Prop} (hc : CN g (args.map (renA [0])) [.box ty [.t t]] K')
    (hK : ∀ v h', K' v h' → ∃ x t', v = .one (.t x) ∧ getB h' 0 = .box ty [.t t'] ∧ K (.one (.t x)) (.box ty [.t t'] :: rest)) : CN g args (.box ty [.t t] :: rest) K := by
  subst hCN
  exact CallN.frame1 hc hK
theorem call_frameAt {CN : CNt} (hCN : CN = CallN P) {g : FuncId} {args : List AV} {ty : TypeId} {t : T} {H : List Blk} (i0 : Nat) (hb0 : getB H i0 = .box ty [.t t]) {K : AV → List Blk → Prop} {K' : AV → List Blk → Prop} (hc : CN g (args.map (renA [i0])) [.box ty [.t t]] K')
    (hK : ∀ v h', K' v h' → ∃ x t', v = .one (.t x) ∧ getB h' 0 = .box ty [.t t'] ∧ K (.one (.t x)) (H.set i0 (.box ty [.t t']))) : CN g args H K := by
  subst hCN
  exact CallN.frameAt i0 hb0 hc hK
end Sx
end

section
set_option maxRecDepth 100000
namespace Sx
open Go

theorem ind_main {CN : CNt} {q : Qt} (hq : q = q0) (hCN : CN = CallN Pg) (n : Nat) (hn : n ≤ lenB) (A : Int → Int) (B : Int → T)
    (h : ∀ i : Nat, i < n → ∀ (l : Int) (K' : AV → List Blk → Prop), (∀ b l', K' (.one (.t (.bool b))) [.box 3 [.t (.int .i64 l')]]) → CN F.amortcostkeep_ind [.agg [.t (.int .i64 (A i)), .t (B i)], .one (.bp 0 0)] [.box 3 [.t (.int .i64 l)]] K')
    {nI : Int} (hnI : nI = n) (a l : Int) {K : AV → List Blk → Prop} (hK : ∀ b l', K (.one (.t (.bool b))) [.box 3 [.t (.int .i64 l')]]) :
    CN F.amortcostkeep_ind [.agg [.t (.int .i64 a), .t (.sl 2 nI (fun i => [.int .i64 (A i), B i]))], .one (.bp 0 0)] [.box 3 [.t (.int .i64 l)]] K := by
  have hn2 : n ≤ 9223372036854775807 := hn
  refine call_wk hCN ?_
  refine call_ing mixed tau_ok At.amortcostkeep_ind hq hCN rfl (fun DN hDN => ?_)
  (conv => cbv)
  split
  · exact hK _ _
  · refine LoopN.mk [1, 2, 5] (fun d σ => ∃ k l : Int, (0 ≤ k ∧ k ≤ n ∧ d = ((n : Int) - k).toNat) ∧
      σ = ⟨mkS [(1, .one (.bp 0 0)), (2, .one (.bp 1 0)), (5, .one (.t (.int .i64 k)))] 0 30, [.box 3 [.t (.int .i64 l)], .box 52 [.t (.int .i64 a), .t (.sl 2 nI (fun i => [.int .i64 (A i), B i]))]]⟩) ⟨n, 0, (q Int fun _ => IntKind.i64.wrap (l - 1)), ⟨by omega, by omega, by omega⟩, ?_⟩ ?_
    · cbv
    · rintro d σ ⟨k, l, ⟨h1, h2, rfl⟩, rfl⟩ K' hK'
      (conv => cbv)
      obtain ⟨k, rfl⟩ := Int.eq_ofNat_of_zero_le h1
      split
      · rename_i g0
        rw [hq] at g0
        ((try simp (disch := omega) only [q0, nc, w64_id, wu64_id, wu32_id, wu8_id, Int.tdiv_eq_ediv_of_nonneg, Int.tmod_eq_emod_of_nonneg, Int.ofNat_eq_natCast, Int.natAbs_natCast, decide_eq_true_eq, decide_eq_false_iff_not, Bool.not_eq_true', Bool.not_eq_false', bne_iff_ne, bne_eq_false_iff_eq, beq_iff_eq, beq_eq_false_iff_ne, ne_eq] at g0); (try replace g0 := of_decide_eq_true g0); (try replace g0 := of_decide_eq_false g0))
        refine Need.mk (by omega) ?_
        refine call_frame1 hCN (h k (by omega) _ _ (fun b l' => ⟨_, _, rfl, rfl, ?_⟩)) (fun v h' h => h)
        (conv => cbv)
        cases b
        · have e1 : (q Bool fun _ => !false) = true := by subst hq; rfl
          rw [e1]
          exact hK _ _
        · have e1 : (q Bool fun _ => !true) = false := by subst hq; rfl
          rw [e1]
          try simp only [nc, Int.ofNat_eq_natCast]
          have ek : (q Int fun _ => IntKind.i64.wrap ((k : Int) + 1)) = k + 1 := by subst hq; (try simp (disch := omega) only [q0, nc, w64_id, wu64_id, wu32_id, wu8_id, Int.tdiv_eq_ediv_of_nonneg, Int.tmod_eq_emod_of_nonneg, Int.ofNat_eq_natCast, Int.natAbs_natCast, decide_eq_true_eq, decide_eq_false_iff_not, Bool.not_eq_true', bne_iff_ne, beq_iff_eq, ne_eq])
          rw [ek]
          exact hK' _ ⟨_, by omega, (k : Int) + 1, _, ⟨by omega, by omega, rfl⟩, rfl⟩
      · exact hK _ _
theorem ind_c {CN : CNt} {q : Qt} (hq : q = q0) (hCN : CN = CallN Pg) : ∀ x : Ix, x.Ok → ∀ (l : Int) (K : AV → List Blk → Prop), (∀ b l', K (.one (.t (.bool b))) [.box 3 [.t (.int .i64 l')]]) →
    CN F.amortcostkeep_ind [.agg [.t (.int .i64 x.num), .t x.T], .one (.bp 0 0)] [.box 3 [.t (.int .i64 l)]] K
  | .leaf, hx, l, K, hK =>
    ind_main hq hCN 0 (Nat.zero_le _) (fun _ => 0) (fun _ => .bool false) (fun i hi => absurd hi (Nat.not_lt_zero i)) rfl 0 l hK
  | .mk a n k, hx, l, K, hK => by
    rw [Ix.Ok] at hx
    exact ind_main hq hCN n hx.1 (fun i => (k i).num) (fun i => (k i).T) (fun i hi l K' hK' => ind_c hq hCN (k i) (hx.2 i hi) l K' hK') rfl a l hK
theorem index_c (x : Ix) (hx : x.Ok) : PureC Pg F.amortcostkeep_Index [.agg x.L] (fun r => ∃ b, r = .one (.bool b)) := by
  refine walkR mixed tau_ok At.amortcostkeep_Index (ts := fun q => [.agg x.L]) (fun CN DN q R hCN hDN hq hR => ?_)
  unfold Ix.L
  obtain ⟨a, ha⟩ : ∃ a, a = x.num := ⟨_, rfl⟩
  obtain ⟨t, ht⟩ : ∃ t, t = x.T := ⟨_, rfl⟩
  rw [← ha, ← ht]
  (conv => cbv)
  refine call_frameAt hCN 1 rfl (K' := fun v h' => ∃ b l', v = .one (.t (.bool b)) ∧ h' = [.box 3 [.t (.int .i64 l')]]) ?_ ?_
  · rw [ha, ht]
    exact ind_c hq hCN x hx _ _ (fun b l' => ⟨b, l', rfl, rfl⟩)
  · rintro v h' ⟨b, l', rfl, rfl⟩
    refine ⟨_, _, rfl, rfl, ?_⟩
    (conv => cbv)
    exact hR _ _ ⟨b, rfl⟩ .refl
theorem lin_c (a : Int) (n : Nat) (G : Int → List T) : PureC Pg F.amortcostkeep_Lin [.agg [.int .i64 a, .sl 2 n G]] (fun r => ∃ b, r = .one (.bool b) ∧ (b = true → n ≤ 70)) := by
  refine walkR mixed tau_ok At.amortcostkeep_Lin (ts := fun q => [.agg [.int .i64 a, .sl 2 (q Int fun _ => (n : Int)) G]]) (fun CN DN q R hCN hDN hq hR => ?_)
  obtain ⟨nI, hnI⟩ : ∃ nI, nI = q Int fun _ => (n : Int) := ⟨_, rfl⟩
  rw [← hnI]
  have hnI' : nI = n := by rw [hnI]; subst hq; rfl
  (conv => cbv)
  refine hR _ _ ⟨_, rfl, ?_⟩ .refl
  intro h
  rw [hq] at h
  ((try simp (disch := omega) only [q0, nc, w64_id, wu64_id, wu32_id, wu8_id, Int.tdiv_eq_ediv_of_nonneg, Int.tmod_eq_emod_of_nonneg, Int.ofNat_eq_natCast, Int.natAbs_natCast, decide_eq_true_eq, decide_eq_false_iff_not, Bool.not_eq_true', Bool.not_eq_false', bne_iff_ne, bne_eq_false_iff_eq, beq_iff_eq, beq_eq_false_iff_ne, ne_eq] at h); (try replace h := of_decide_eq_true h); (try replace h := of_decide_eq_false h))
  omega
theorem krat_c (b : Bool) (n m : Nat) (G G' : Int → List T) : PureC Pg F.amortcostkeep_Rat [.agg [.bool b, .sl 1 n G, .sl 1 m G']] (fun r => ∃ b, r = .one (.bool b) ∧ (b = true → n ≤ 8 ∧ m ≤ 8)) := by
  refine walkR mixed tau_ok At.amortcostkeep_Rat (ts := fun q => [.agg [.bool b, .sl 1 (q Int fun _ => (n : Int)) G, .sl 1 (q Int fun _ => (m : Int)) G']]) (fun CN DN q R hCN hDN hq hR => ?_)
  obtain ⟨nI, hnI⟩ : ∃ nI, nI = q Int fun _ => (n : Int) := ⟨_, rfl⟩
  obtain ⟨mI, hmI⟩ : ∃ mI, mI = q Int fun _ => (m : Int) := ⟨_, rfl⟩
  rw [← hnI, ← hmI]
  have hnI' : nI = n := by rw [hnI]; subst hq; rfl
  have hmI' : mI = m := by rw [hmI]; subst hq; rfl
  (conv => cbv)
  split
  · rename_i g0
    rw [hq] at g0
    ((try simp (disch := omega) only [q0, nc, w64_id, wu64_id, wu32_id, wu8_id, Int.tdiv_eq_ediv_of_nonneg, Int.tmod_eq_emod_of_nonneg, Int.ofNat_eq_natCast, Int.natAbs_natCast, decide_eq_true_eq, decide_eq_false_iff_not, Bool.not_eq_true', Bool.not_eq_false', bne_iff_ne, bne_eq_false_iff_eq, beq_iff_eq, beq_eq_false_iff_ne, ne_eq] at g0); (try replace g0 := of_decide_eq_true g0); (try replace g0 := of_decide_eq_false g0))
    refine hR _ _ ⟨_, rfl, ?_⟩ .refl
    intro h
    rw [hq] at h
    ((try simp (disch := omega) only [q0, nc, w64_id, wu64_id, wu32_id, wu8_id, Int.tdiv_eq_ediv_of_nonneg, Int.tmod_eq_emod_of_nonneg, Int.ofNat_eq_natCast, Int.natAbs_natCast, decide_eq_true_eq, decide_eq_false_iff_not, Bool.not_eq_true', Bool.not_eq_false', bne_iff_ne, bne_eq_false_iff_eq, beq_iff_eq, beq_eq_false_iff_ne, ne_eq] at h); (try replace h := of_decide_eq_true h); (try replace h := of_decide_eq_false h))
    omega
  · refine hR _ _ ⟨false, rfl, fun h => by cases h⟩ .refl
end Sx
end

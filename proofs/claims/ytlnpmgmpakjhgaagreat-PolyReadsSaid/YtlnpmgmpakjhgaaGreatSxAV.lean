/- A part of the proof of PolyReadsSaid: texts SxRat1 SxOwn SxIn. -/
import Derived.Test.YtlnpmgmpakjhgaaGreatSxAT
import Derived.Test.YtlnpmgmpakjhgaaGreatSxAU
import Derived.Test.YtlnpmgmpakjhgaaGreatSxAR
import Derived.Test.YtlnpmgmpakjhgaaGreatSxAS
set_option linter.all false
section
set_option maxRecDepth 100000
namespace Sx
open Go

theorem trim_c (n : Nat) (V : Int → Int) (hn : n ≤ 1000000000) (hV : ∀ i : Nat, i < n → 0 ≤ V i ∧ V i < 1000000000) : PureF Pg F.rational_trim (fun q => [.one (rowN q n V)]) (fun q => .one (natT q (valN V n))) := by
  refine walkF mixed tau_ok At.rational_trim (fun CN DN q R hCN hDN hq hR => ?_)
  (conv => cbv)
  refine LoopN.mk [0, 3] (fun d σ => ∃ k : Int, (0 ≤ k ∧ k ≤ n ∧ d = k.toNat ∧ ∀ j : Nat, k ≤ j → j < n → V j = 0) ∧
    σ = ⟨mkS [(0, .one (.t (rowN q n V))), (3, .one (.t (.int .i64 k)))] 0 22, []⟩) ⟨n, q Int fun _ => (n : Int), ?_, ?_⟩ ?_
  · subst hq; exact ⟨by simp only [q0]; omega, by simp only [q0]; omega, by simp only [q0]; omega, fun j h _ => by simp only [q0] at h; omega⟩
  · cbv
  · rintro d σ ⟨k, ⟨h1, h2, rfl, h4⟩, rfl⟩ K hK
    (conv => cbv)
    subst hq
    obtain ⟨k, rfl⟩ := Int.eq_ofNat_of_zero_le h1
    have fin : (0 < k → V ((k : Int) - 1) ≠ 0) → R (.one (rowT k V)) := fun h5 =>
      hR _ (.one (TE.nat (fun i hi => hV i (by omega)) h5 (valN_zeros (by omega) (fun i a b => h4 i (by omega) b))))
    (try simp (disch := omega) only [q0, nc, w64_id, wu64_id, wu32_id, wu8_id, Int.tdiv_eq_ediv_of_nonneg, Int.tmod_eq_emod_of_nonneg, Int.ofNat_eq_natCast, Int.natAbs_natCast, decide_eq_true_eq, decide_eq_false_iff_not, Bool.not_eq_true', bne_iff_ne, beq_iff_eq, ne_eq])
    split
    · rename_i h0
      simp [nc] at h0
      (try simp (disch := omega) only [q0, nc, w64_id, wu64_id, wu32_id, wu8_id, Int.tdiv_eq_ediv_of_nonneg, Int.tmod_eq_emod_of_nonneg, Int.ofNat_eq_natCast, Int.natAbs_natCast, decide_eq_true_eq, decide_eq_false_iff_not, Bool.not_eq_true', bne_iff_ne, beq_iff_eq, ne_eq])
      refine Need.mk (by omega) ?_
      split
      · rename_i h5
        (try simp (disch := omega) only [q0, nc, w64_id, wu64_id, wu32_id, wu8_id, Int.tdiv_eq_ediv_of_nonneg, Int.tmod_eq_emod_of_nonneg, Int.ofNat_eq_natCast, Int.natAbs_natCast, decide_eq_true_eq, decide_eq_false_iff_not, Bool.not_eq_true', bne_iff_ne, beq_iff_eq, ne_eq])
        refine hK _ ⟨_, ?_, _, ⟨?_, ?_, rfl, ?_⟩, rfl⟩ <;> simp [nc] at h0 h5 <;> try omega
        intro j hj hjn
        by_cases hjk : (j : Int) = k - 1
        · rw [hjk]; exact h5
        · exact h4 j (by omega) hjn
      · rename_i h5
        (try simp (disch := omega) only [q0, nc, w64_id, wu64_id, wu32_id, wu8_id, Int.tdiv_eq_ediv_of_nonneg, Int.tmod_eq_emod_of_nonneg, Int.ofNat_eq_natCast, Int.natAbs_natCast, decide_eq_true_eq, decide_eq_false_iff_not, Bool.not_eq_true', bne_iff_ne, beq_iff_eq, ne_eq])
        exact Need.mk (by omega) (fin (fun _ => by simpa using h5))
    · rename_i h0
      simp [nc] at h0
      (try simp (disch := omega) only [q0, nc, w64_id, wu64_id, wu32_id, wu8_id, Int.tdiv_eq_ediv_of_nonneg, Int.tmod_eq_emod_of_nonneg, Int.ofNat_eq_natCast, Int.natAbs_natCast, decide_eq_true_eq, decide_eq_false_iff_not, Bool.not_eq_true', bne_iff_ne, beq_iff_eq, ne_eq])
      exact Need.mk (by omega) (fin (fun h => by omega))

def cmpI (a b : Nat) : Int := if a < b then -1 else if a = b then 0 else 1

theorem cmp_c (a b : Nat) (ha : len a ≤ 1000000000) (hb : len b ≤ 1000000000) : PureF Pg F.rational_cmp (fun q => [.one (natT q a), .one (natT q b)]) (fun q => .one (.int .i64 (cmpI a b))) := by
  refine walkF mixed tau_ok At.rational_cmp (fun CN DN q R hCN hDN hq hR => ?_)
  (conv => cbv)
  have fin : ∀ x : Int, x = cmpI a b → R (.one (.int .i64 x)) := fun x hx => hR _ (by rw [hx]; exact .refl)
  split
  · rename_i h
    simp [hq, q0, nc] at h
    split
    · rename_i h'
      simp [hq, q0, nc] at h'
      refine fin _ ?_
      unfold cmpI
      rw [if_pos (lt_of_len (by omega))]
    · rename_i h'
      simp [hq, q0, nc] at h'
      have := lt_of_len (N := b) (M := a) (by omega)
      refine fin _ ?_
      unfold cmpI
      rw [if_neg (by omega), if_neg (by omega)]
  · rename_i h
    simp [hq, q0, nc] at h
    refine LoopN.mk [0, 1, 18, 19] (fun d σ => ∃ k : Int, (0 ≤ k ∧ k ≤ len a ∧ d = ((len a : Int) - k).toNat ∧ a / Bs ^ ((len a : Int) - k).toNat = b / Bs ^ ((len a : Int) - k).toNat) ∧
      σ = ⟨mkS [(0, .one (.t (natT q a))), (1, .one (.t (natT q b))), (18, .one (.t (.int .i64 (q Int fun _ => (len a : Int))))), (19, .one (.t (.int .i64 k)))] 0 46, []⟩) ⟨len a, 0, ⟨by omega, by omega, by omega, ?_⟩, ?_⟩ ?_
    · have h1 := lt_pow_len a
      have h2 := lt_pow_len b
      rw [show len b = len a by omega] at h2
      rw [show ((len a : Int) - 0).toNat = len a by omega, Nat.div_eq_of_lt h1, Nat.div_eq_of_lt h2]
    · cbv
    · rintro d σ ⟨k, ⟨h1, h2, rfl, h4⟩, rfl⟩ K hK
      (conv => cbv)
      subst hq
      obtain ⟨k, rfl⟩ := Int.eq_ofNat_of_zero_le h1
      (try simp (disch := omega) only [q0, nc, w64_id, wu64_id, wu32_id, wu8_id, Int.tdiv_eq_ediv_of_nonneg, Int.tmod_eq_emod_of_nonneg, Int.ofNat_eq_natCast, Int.natAbs_natCast, decide_eq_true_eq, decide_eq_false_iff_not, Bool.not_eq_true', bne_iff_ne, beq_iff_eq, ne_eq])
      split
      · rename_i h0
        simp [nc] at h0
        obtain ⟨i, hi⟩ : ∃ i : Nat, (len a : Int) - 1 - k = i := ⟨len a - 1 - k, by omega⟩
        have e1 : ((len a : Int) - k).toNat = i + 1 := by omega
        have e2 : ((len a : Int) - (k + 1)).toNat = i := by omega
        rw [e1] at h4
        simp only [hi]
        refine Need.mk (by (exact ⟨by kernel_rfl, by kernel_rfl⟩)) (Need.mk (by omega) (Need.mk (by omega) ?_))
        split
        · rename_i h5
          simp [nc] at h5
          refine Need.mk (by (exact ⟨by kernel_rfl, by kernel_rfl⟩)) (Need.mk (by omega) (Need.mk (by omega) ?_))
          split
          · rename_i h6
            simp [nc] at h6
            have := lt_of_limb h4 h6
            exact fin _ (by unfold cmpI; rw [if_pos this])
          · rename_i h6
            simp [nc] at h6
            have := lt_of_limb h4.symm (show limb b i < limb a i by omega)
            exact fin _ (by unfold cmpI; rw [if_neg (by omega), if_neg (by omega)])
        · rename_i h5
          simp [nc] at h5
          refine hK _ ⟨_, ?_, _, ⟨?_, ?_, rfl, ?_⟩, rfl⟩
          · omega
          · omega
          · omega
          · rw [e2]; exact div_limb h4 h5
      · rename_i h0
        simp [nc] at h0
        have e1 : ((len a : Int) - k).toNat = 0 := by omega
        rw [e1] at h4
        simp [nc] at h4
        exact fin _ (by unfold cmpI; rw [if_neg (by omega), if_pos h4])
end Sx
end

section
namespace Sx
open Go
variable {P : Program} {C : Ctx}

def shiftIds (k m : Nat) : List Nat := List.range' m k ++ List.range m
theorem shiftIds_at {k m i : Nat} (h : i < m) : (shiftIds k m)[k + i]? = some i := by
  unfold shiftIds
  rw [List.getElem?_append_right (by simp)]
  simp [h]
theorem keepM_shift {k : Nat} {M : Mp} : keepM (shiftIds k M.length) M = List.replicate k .res ++ M := by
  unfold keepM shiftIds
  rw [List.map_append]
  congr 1
  · apply List.ext_getElem?
    intro i
    simp only [List.getElem?_map, List.getElem?_replicate]
    by_cases hi : i < k
    · rw [List.getElem?_range' hi, if_pos hi]
      simp [List.getD_eq_getElem?_getD]
    · rw [if_neg hi, List.getElem?_eq_none (by simp; omega)]
      rfl
  · apply List.ext_getElem?
    intro i
    simp only [List.getElem?_map]
    by_cases hi : i < M.length
    · rw [List.getElem?_range hi]
      simp [List.getD_eq_getElem?_getD, hi]
    · rw [List.getElem?_eq_none (by simp; omega), List.getElem?_eq_none (by omega)]
      rfl

theorem CallN.fresh {g : FuncId} {args : List AV} {H : List Blk} {K R : AV → List Blk → Prop} {ts : List TV} (ht : tos H args = some ts) (hc : CallN P g (ts.map ofTV) [] R)
    (hK : ∀ v h, R v h → K (renA (shiftIds H.length h.length) v) (H ++ h.map (renB (shiftIds H.length h.length)))) : CallN P g args H K :=
  ⟨hc.1, fun C w M X vs hI hv => by
    have hv' := tos_rd hI hv ht
    have hI0 : Inv ⟨w, X, fun _ => False, []⟩ [] w [] X := ⟨rfl, rfl, rfl, Nat.le_refl _, fun _ _ _ => rfl, hI.xlt, fun _ h => .inl h, fun _ h => h, rfl, ⟨Nat.le_refl _, Ext.refl _⟩, fun j p hj => by simp at hj, fun j j' p p' hj => by simp at hj, fun j p hj => by simp at hj⟩
    have hargs : RdAs w X [] (ts.map ofTV) vs := ⟨by simpa using hv'.1, fun j x v hx hv => by
      simp only [List.getElem?_map, Option.map_eq_some_iff] at hx
      obtain ⟨t, ht, rfl⟩ := hx
      exact (hv'.2 j t v ht hv).toA⟩
    refine (hc.2 ⟨w, X, fun _ => False, []⟩ w [] X vs hI0 hargs).mono ?_
    rintro e w' ⟨u, v, h, M0, X', he, hI', hs, hx, _, hu, _, _, hR⟩
    have hsz : w.heap.size ≤ w'.heap.size := hI'.size
    have hfr : ∀ b, b < w.heap.size → w'.heap[b]? = w.heap[b]? := fun b hb => hI'.frame b hb (fun h => h)
    have hxs : ∀ b, X' b → X b ∨ w.heap.size ≤ b := fun b hb => by
      rcases hI'.xsub b hb with h | h | h
      · exact .inl h
      · exact .inr h
      · exact h.elim
    have hml : M.length = H.length := hI.mlen
    have hml0 : M0.length = h.length := hI'.mlen
    have hext : Ext M (M ++ M0) := fun id p hp _ => by rw [List.getElem?_append_left (List.getElem?_eq_some_iff.1 hp).1]; exact hp
    have hext2 : Ext (keepM (shiftIds H.length h.length) M0) (M ++ M0) := fun id p hp hn => by
      rw [← hml0, keepM_shift] at hp
      rw [List.getElem?_append] at hp ⊢
      simp only [List.length_replicate] at hp
      split at hp
      · rw [List.getElem?_replicate] at hp
        split at hp <;> cases hp <;> exact absurd rfl hn
      · rename_i hid
        rw [if_neg (by omega), hml]
        exact hp
    have hm : ∀ (j : Nat) (p : Pm), (M ++ M0)[j]? = some p → (j < H.length ∧ M[j]? = some p) ∨ (H.length ≤ j ∧ M0[j - H.length]? = some p) := fun j p hj => by
      rw [List.getElem?_append] at hj
      split at hj
      · exact .inl ⟨by omega, hj⟩
      · exact .inr ⟨by omega, by rw [← hml]; exact hj⟩
    have hb1 : ∀ j, j < H.length → getB (H ++ h.map (renB (shiftIds H.length h.length))) j = getB H j := fun j hj => by
      simp [getB, List.getD_eq_getElem?_getD, List.getElem?_append_left hj]
    have hb2 : ∀ j, H.length ≤ j → j - H.length < h.length → getB (H ++ h.map (renB (shiftIds H.length h.length))) j = renB (shiftIds H.length h.length) (getB h (j - H.length)) := fun j hj hlt => by
      simp [getB, List.getD_eq_getElem?_getD, List.getElem?_append_right hj, hlt]
    refine ⟨u, _, _, M ++ M0, X', he, ?_, hs, hx, hext, (renA_rd (shiftIds H.length h.length) v u hu).mono (fun _ _ => rfl) (fun _ h => h) hext2, by simp, fun j hj => ?_, hK v h hR⟩
    · refine ⟨hI'.os.trans hI.os, hI'.tape.trans hI.tape, hI'.output.trans hI.output, Nat.le_trans hI.size hsz, fun b h1 h2 => ?_, hI'.xlt, fun b hb => ?_, fun b hb => hx b (hI.x0 b hb), by simp [hml, hml0], ⟨by have := hI.pin.1; simp; omega, hI.pin.2.trans hext⟩, fun j p hj hl => ?_, fun j j' p p' hj hj' hl hl' hbb => ?_, fun j p hj => ?_⟩
      · rw [hfr b (by have := hI.size; omega)]; exact hI.frame b h1 h2
      · rcases hxs b hb with h | h
        · exact hI.xsub b h
        · exact .inr (.inl (by have := hI.size; omega))
      · rcases hm j _ hj with ⟨h1, h2⟩ | ⟨h1, h2⟩
        · rw [hb1 j h1] at hl
          obtain ⟨a, b, c⟩ := hI.live j p h2 hl
          refine ⟨a, by omega, fun hc => ?_⟩
          rcases hxs _ hc with h | h
          · exact c h
          · omega
        · have hlt : j - H.length < h.length := by rw [← hml0]; exact (List.getElem?_eq_some_iff.1 h2).1
          rw [hb2 j h1 hlt, renB_live] at hl
          obtain ⟨a, b, c⟩ := hI'.live _ p h2 hl
          refine ⟨.inr ?_, b, c⟩
          rcases a with a | a
          · exact a.elim
          · have := hI.size
            exact Nat.le_trans this a
      · rcases hm j _ hj with ⟨h1, h2⟩ | ⟨h1, h2⟩
        · rw [hb1 j h1] at hl
          have hlt := (hI.live j p h2 hl).2.1
          rcases hm j' _ hj' with ⟨h1', h2'⟩ | ⟨h1', h2'⟩
          · rw [hb1 j' h1'] at hl'
            exact hI.inj j j' p p' h2 h2' hl hl' hbb
          · have hlt' : j' - H.length < h.length := by rw [← hml0]; exact (List.getElem?_eq_some_iff.1 h2').1
            rw [hb2 j' h1' hlt', renB_live] at hl'
            have := (hI'.live _ p' h2' hl').1
            rcases this with a | a
            · exact a.elim
            · have a' : w.heap.size ≤ p'.b := a
              omega
        · have hltj : j - H.length < h.length := by rw [← hml0]; exact (List.getElem?_eq_some_iff.1 h2).1
          rw [hb2 j h1 hltj, renB_live] at hl
          have hge : w.heap.size ≤ p.b := by
            rcases (hI'.live _ p h2 hl).1 with a | a
            · exact a.elim
            · exact a
          rcases hm j' _ hj' with ⟨h1', h2'⟩ | ⟨h1', h2'⟩
          · rw [hb1 j' h1'] at hl'
            have := (hI.live j' p' h2' hl').2.1
            omega
          · have hlt' : j' - H.length < h.length := by rw [← hml0]; exact (List.getElem?_eq_some_iff.1 h2').1
            rw [hb2 j' h1' hlt', renB_live] at hl'
            have := hI'.inj _ _ p p' h2 h2' hl hl' hbb
            omega
      · rcases hm j _ hj with ⟨h1, h2⟩ | ⟨h1, h2⟩
        · rw [hb1 j h1]
          refine (hI.blk j p h2).mono hs hx hext (fun pl hpl hl => ?_)
          subst hpl
          exact hfr _ (hI.live j pl h2 hl).2.1
        · have hlt : j - H.length < h.length := by rw [← hml0]; exact (List.getElem?_eq_some_iff.1 h2).1
          rw [hb2 j h1 hlt]
          exact (renB_rd (ids := shiftIds H.length h.length) (hI'.blk _ p h2)).mono (fun _ _ => rfl) (fun _ h => h) hext2 (fun _ _ _ => rfl)
    · have hjl : j < H.length := getB_lt (by rw [hj]; simp)
      rw [hb1 j hjl]
      exact hj⟩
end Sx
end

section
namespace Sx
open Go
variable {P : Program} {τ : TypeId → Option TI}

def noRes (H : List Blk) : Bool := H.all fun B => match B with | .res => false | _ => true
theorem noRes_spec {H : List Blk} (h : noRes H = true) (j : Nat) : getB H j ≠ .res := by
  intro hj
  have hlt := getB_lt (H := H) (id := j) (by rw [hj]; simp)
  have e : getB H j = H[j] := by simp [getB, hlt]
  rw [e] at hj
  simp only [noRes, List.all_eq_true] at h
  have := h H[j] (by simp)
  rw [hj] at this
  cases this

theorem call_in (hm : P.follows .mixedOrders = true) (hτ : TabOk P τ) {CN : CNt} {q : Qt} {g : FuncId} {c : Code} {n : Nat} {rs : List ResultVar} (hF : FnAt P g c n rs) {args : List AV} {H : List Blk} {K : AV → List Blk → Prop}
    (hq : q = q0) (hCN : CN = CallN P) (hres : noRes H = true)
    (h : ∀ DN : CNt, DN = CallD P → awp CN DN q τ H.length c ⟨startS n args, H⟩ (finKI τ rs K)) : CN g args H K := by
  subst hq; subst hCN
  exact CallN.of_awp hm hτ hF (noRes_spec hres) (h _ rfl)

theorem call_ing (hm : P.follows .mixedOrders = true) (hτ : TabOk P τ) {CN : CNt} {q : Qt} {g : FuncId} {c : Code} {n : Nat} {rs : List ResultVar} (hF : FnAt P g c n rs) {args : List AV} {H : List Blk} {K : AV → List Blk → Prop}
    (hq : q = q0) (hCN : CN = CallN P) (hres : noRes H = true)
    (h : ∀ DN : CNt, DN = CallD P → awp CN DN q τ H.length c ⟨startS n args, H⟩ (finKG τ H.length rs K)) : CN g args H K := by
  subst hq; subst hCN
  exact CallN.of_awp_g hm hτ hF (noRes_spec hres) (h _ rfl)

def OwnF (P : Program) (g : FuncId) (ts : Qt → List TV) (R : Qt → AV → List Blk → Prop) : Prop := CallN P g ((ts q0).map ofTV) [] (R q0)
theorem walkO (hm : P.follows .mixedOrders = true) (hτ : TabOk P τ) {g : FuncId} {c : Code} {n : Nat} {rs : List ResultVar} (hF : FnAt P g c n rs) {ts : Qt → List TV} {R : Qt → AV → List Blk → Prop}
    (h : ∀ (CN DN : CNt) (q : Qt) (K : AV → List Blk → Prop), CN = CallN P → DN = CallD P → q = q0 → (∀ v h, R q v h → K v h) →
      awp CN DN q τ 0 c ⟨startS n ((ts q).map ofTV), []⟩ (finKI τ rs K)) : OwnF P g ts R :=
  CallN.of_awp hm hτ hF (fun j => by simp [getB]) (h _ _ _ _ rfl rfl rfl (fun _ _ h => h))
theorem call_own {CN : CNt} {q : Qt} {g : FuncId} {ts : Qt → List TV} {R : Qt → AV → List Blk → Prop} {args : List AV} {H : List Blk} {K : AV → List Blk → Prop} (hq : q = q0) (hCN : CN = CallN P)
    (hc : OwnF P g ts R) (ht : tos H args = some (ts q)) (hK : ∀ v h, R q v h → K (renA (shiftIds H.length h.length) v) (H ++ h.map (renB (shiftIds H.length h.length)))) : CN g args H K := by
  subst hq; subst hCN
  exact CallN.fresh ht hc hK

def wkA : AV → AV
  | .one .tt => .one (.t (.bool true))
  | .one .ff => .one (.t (.bool false))
  | x => x
theorem wkA_rd {w : World} {X : Nat → Prop} {M : Mp} {x : AV} {v : Value} (h : RdA w X M x v) : RdA w X M (wkA x) v := by
  unfold wkA
  split
  · cases h with | one h => cases h; exact .one (.t .bool)
  · cases h with | one h => cases h; exact .one (.t .bool)
  · exact h
theorem CallN.wk {g : FuncId} {args : List AV} {H : List Blk} {K : AV → List Blk → Prop} (h : CallN P g args H (fun v h => K (wkA v) h)) : CallN P g args H K :=
  ⟨h.1, fun C w M X vs hI hv => (h.2 C w M X vs hI hv).mono fun e w' ⟨u, v, h', M', X', a, b, c, d, e, f, g, i, j⟩ => ⟨u, _, h', M', X', a, b, c, d, e, wkA_rd f, g, i, j⟩⟩
theorem call_wk {CN : CNt} (hCN : CN = CallN P) {g : FuncId} {args : List AV} {H : List Blk} {K : AV → List Blk → Prop} (h : CN g args H (fun v h => K (wkA v) h)) : CN g args H K := by
  subst hCN
  exact CallN.wk h
end Sx
end

/- A part of the proof of PolyReadsSaid: texts SxW. -/
import Derived.Test.YtlnpmgmpakjhgaaGreatSxAP
set_option linter.all false
namespace Sx
open Go
variable {P : Program} {C : Ctx} {τ : TypeId → Option TI} {CN : CNt}

theorem step_sound (hτ : TabOk P τ) (hCN : ∀ g args H K, CN g args H K → CallN P g args H K) {ops : List Oper} {k : Nat} {o : Oper} (ho : ops[k]? = some o) {id : Nat} {σ : St} {a : Act} {w : World} (hR : Rel C σ a w)
    (hid : lays o.op = true → getB σ.h id = .res) {K : St → Prop} {next : Act → World → Prop} {Q : Exit → Act → World → Prop} (h : stepRun CN τ ops o id σ K)
    (hn : ∀ σ' a' w', Rel C σ' a' w' → (∀ j, getB σ.h j = .res → (j = id ∧ lays o.op = true) ∨ getB σ'.h j = .res) → K σ' → next a' w') : wpOp P ops.toArray Q k next a w := by
  have ho' : ops.toArray[k]? = some o := by simpa using ho
  obtain ⟨M, X, hI, hS⟩ := hR
  have goOn : opRun CN q0 τ o.op σ.s σ.h id (fun v h => K ⟨putS σ.s o.dst v, h⟩) → o.wp P a w next Q := by
    intro h
    exact op_sound hτ hCN hI hS hid h (fun v h' u a' w' M' X' hI' hS' hu hl hr hK => hn _ _ _ ⟨M', X', hI', hS'.put o.dst hu⟩ hr hK)
  have skipOn : K ⟨putS σ.s o.dst (.one .und), σ.h⟩ → next (a.put o.dst undef) w := by
    intro h
    exact hn ⟨putS σ.s o.dst (.one .und), σ.h⟩ _ _ ⟨M, X, hI, hS.put o.dst (.one .und)⟩ (fun j hj => .inr hj) h
  unfold wpOp
  simp only [ho']
  unfold stepRun at h
  split at h
  · rename_i hg
    rw [if_pos (by simp [Region.wanted, hg])]
    exact .inl (goOn h)
  · rename_i j want hg
    split at h
    · rename_i d hd
      have hy := yielded_of hd a.tmps
      split at h
      · rename_i c hc
        rw [gd_val hS hc] at hy
        have hw : Region.wanted o (yielded ops.toArray a.tmps) = (some c == some want) := by
          simp only [Region.wanted, hg, hy]
        rw [hw]
        split at h
        · rename_i hcw; subst hcw; rw [if_pos (by simp)]; exact .inl (goOn h)
        · rename_i hcw; rw [if_neg (by simpa using hcw)]; exact skipOn h
      · split at h
        · rename_i hc
          have hr := hS.get d
          rw [hc] at hr
          have hv : a.tmps.getD d undef = undef := by
            generalize a.tmps.getD d undef = v at hr
            cases hr with | one h => cases h; rfl
          have hno : yielded ops.toArray a.tmps j = none := by
            rw [hy]
            rw [Array.getD_eq_getD_getElem?] at hv
            split
            · rename_i b hb
              rw [hb] at hv
              cases hv
            · rfl
          have hw : Region.wanted o (yielded ops.toArray a.tmps) = false := by
            simp only [Region.wanted, hg, hno]
            rfl
          rw [hw, if_neg (by decide)]
          exact skipOn h
        · exact h.elim
    · exact h.elim

theorem lex_ready {ops : Array Oper} : ∀ (fuel k : Nat) (listed : Array Bool), Region.lexFrom .any ops fuel k listed = true → ∀ m, m < fuel → ∃ o, ops[k + m]? = some o ∧ True
  | 0, _, _, _, m, h => by omega
  | fuel + 1, k, listed, hl, m, hm => by
    simp only [Region.lexFrom, Bool.and_eq_true] at hl
    cases m with
    | zero =>
      have := hl.1.1
      simp only [List.contains_eq_mem, decide_eq_true_eq] at this
      obtain ⟨_, o, ho, _⟩ := mem_ready.1 this
      exact ⟨o, by simpa using ho, trivial⟩
    | succ m =>
      obtain ⟨o, ho, h⟩ := lex_ready fuel (k + 1) _ hl.2 m (by omega)
      exact ⟨o, by rw [← ho]; congr 1; omega, trivial⟩

theorem lex_spec {ops : Array Oper} : ∀ (fuel k : Nat) (listed : Array Bool), Region.lexFrom .any ops fuel k listed = true → (∀ j, listed.getD j false = true ↔ j < k) → listed.size = k + fuel →
    ∀ i, k ≤ i → i < k + fuel → ∃ oi, ops[i]? = some oi ∧ (∀ e ∈ oi.after, Region.binds .any e = true → e.on < i) ∧
      ∀ j oj, ops[j]? = some oj → i < j → j < k + fuel → (∀ e ∈ oj.after, Region.binds .any e = true → e.on ≠ i) → oi.apart ops oj = true
  | 0, k, listed, _, _, _, i, h1, h2 => by omega
  | fuel + 1, k, listed, hl, hk, hs, i, h1, h2 => by
    simp only [Region.lexFrom, Bool.and_eq_true] at hl
    obtain ⟨⟨hr, hf⟩, hrest⟩ := hl
    have hnext : ∀ j, (listed.setIfInBounds k true).getD j false = true ↔ j < k + 1 := by
      intro j
      by_cases hkj : k = j
      · subst hkj
        have : k < listed.size := by omega
        simp [this]
      · rw [getD_set_ne false hkj, hk j]; omega
    by_cases hik : i = k
    · subst hik
      simp only [List.contains_eq_mem, decide_eq_true_eq] at hr
      obtain ⟨_, oi, hoi, hall⟩ := mem_ready.1 hr
      refine ⟨oi, hoi, fun e he hb => (hk _).1 (hall e he hb), fun j oj hoj hij hjb hno => ?_⟩
      refine Region.free_spec hoi hf j oj hoj (by omega) ?_ hno
      have hns : ¬ listed.getD j false = true := fun h => by have := (hk j).1 h; omega
      have hlt : j < listed.size := by omega
      simp [hlt] at hns ⊢
      exact hns
    · obtain ⟨oi, hoi, ha, hb⟩ := lex_spec fuel (k + 1) _ hrest hnext (by simp; omega) i (by omega) (by omega)
      exact ⟨oi, hoi, ha, fun j oj hoj hij hjb hno => hb j oj hoj hij (by omega) hno⟩

def todo (n : Nat) (listed : Array Bool) : List Nat := (List.range n).filter fun k => !listed.getD k true
theorem mem_todo {n k : Nat} {listed : Array Bool} : k ∈ todo n listed ↔ k < n ∧ listed.getD k true = false := by
  simp [todo]

theorem todo_split {n k : Nat} {listed : Array Bool} (hk : k ∈ todo n listed) (hs : listed.size = n) : ∃ l1 l2, todo n listed = l1 ++ k :: l2 ∧ todo n (listed.setIfInBounds k true) = l1 ++ l2 ∧ (∀ i ∈ l1, i < k) := by
  have hkn := (mem_todo.1 hk).1
  have hku := (mem_todo.1 hk).2
  have e : List.range n = List.range k ++ k :: (List.range' (k + 1) (n - k - 1)) := by
    rw [List.range_eq_range', List.range_eq_range', ← List.range'_succ, show n = k + (n - k - 1 + 1) by omega, ← List.range'_append_1]
    simp
  refine ⟨(List.range k).filter fun i => !listed.getD i true, (List.range' (k + 1) (n - k - 1)).filter fun i => !listed.getD i true, ?_, ?_, ?_⟩
  · unfold todo
    rw [e, List.filter_append, List.filter_cons, if_pos (by rw [hku]; rfl)]
  · unfold todo
    rw [e, List.filter_append, List.filter_cons, if_neg (by simp [hs, hkn])]
    congr 1
    · refine List.filter_congr (fun i hi => ?_)
      rw [getD_set_ne true (by simp at hi; omega)]
    · refine List.filter_congr (fun i hi => ?_)
      rw [getD_set_ne true (by simp [List.mem_range'] at hi; omega)]
  · intro i hi
    have := (List.mem_filter.1 hi).1
    simpa using this

theorem any_sound (hτ : TabOk P τ) (hz : ZeroOk τ) {ops : List Oper} (hlex : Region.lexB .any ops.toArray = true) (hok : drawOk τ ops = true) {base : Nat} {Q : Ex → St → Prop} : ∀ (fuel : Nat) (listed : Array Bool) (σ : St) (a : Act) (w : World),
    listed.size = ops.length → (todo ops.length listed).length = fuel → Closed ops listed → FreshAt ops base (todo ops.length listed) σ →
    (∀ k ∈ todo ops.length listed, ∀ o, ops[k]? = some o → lays o.op = true → getB σ.h (idAt base ops k) = .res) → Rel C σ a w →
    pend (CallD P) τ ops base (todo ops.length listed) σ (Q .normal) → wpAny P .any ops.toArray (liftQ C Q) fuel listed a w := by
  have hall : AllOk τ ops := by
    intro k o ho
    simp only [drawOk, Bool.and_eq_true, List.all_eq_true] at hok
    have := hok.1 o (List.mem_of_getElem? ho)
    simpa using this
  have hpair : ∀ i j oi oj, i < j → ops[i]? = some oi → ops[j]? = some oj → i ∉ (befores ops []).getD j [] → kindsOk (opKind τ oi.op) (opKind τ oj.op) = true := by
    intro i j oi oj hij hi hj hno
    simp only [drawOk, Bool.and_eq_true, List.all_eq_true, List.mem_range] at hok
    have hjl := (List.getElem?_eq_some_iff.1 hj).1
    have h2 := hok.2 j hjl i hij
    simp only [Bool.or_eq_true, List.contains_eq_mem, decide_eq_true_eq] at h2
    have e1 : (ops.map fun o => opKind τ o.op).getD i 0 = opKind τ oi.op := by simp [List.getD_eq_getElem?_getD, hi]
    have e2 : (ops.map fun o => opKind τ o.op).getD j 0 = opKind τ oj.op := by simp [List.getD_eq_getElem?_getD, hj]
    rw [e1, e2] at h2
    exact h2.resolve_left hno
  simp only [Region.lexB, Bool.and_eq_true] at hlex
  have hspec := lex_spec _ _ _ hlex.2 (fun j => by simp [Array.getElem?_replicate]; split <;> rfl) (by simp)
  intro fuel
  induction fuel with
  | zero =>
    intro listed σ a w hs hlen hc hf hres hR h
    have h0 := List.eq_nil_of_length_eq_zero hlen
    rw [h0] at h
    refine ⟨?_, σ, hR, h⟩
    refine List.eq_nil_iff_forall_not_mem.2 (fun k hk => ?_)
    obtain ⟨hu, o, ho, _⟩ := mem_ready.1 hk
    have : k ∈ todo ops.length listed := mem_todo.2 ⟨by have := (Array.getElem?_eq_some_iff.1 ho).1; simpa using this, hu⟩
    rw [h0] at this
    simp at this
  | succ fuel ih =>
    intro listed σ a w hs hlen hc hf hres hR h
    refine ⟨fun hnone => ?_, fun k hk => ?_⟩
    · exfalso
      cases hl : todo ops.length listed with
      | nil => rw [hl] at hlen; simp at hlen
      | cons k l =>
        have hk : k ∈ todo ops.length listed := by rw [hl]; simp
        obtain ⟨hkn, hku⟩ := mem_todo.1 hk
        obtain ⟨oi, hoi, hb, _⟩ := hspec k (by omega) (by simpa using hkn)
        have hmin : ∀ j, j < k → listed.getD j false = true := by
          intro j hj
          cases hlj : listed.getD j true with
          | true =>
            have : j < listed.size := by omega
            simp [this] at hlj ⊢
            exact hlj
          | false =>
            have hjt : j ∈ todo ops.length listed := mem_todo.2 ⟨by omega, hlj⟩
            obtain ⟨l1, l2, e1, _, e3⟩ := todo_split hk hs
            rw [hl] at e1
            cases l1 with
            | nil =>
              have hsort : (todo ops.length listed).Pairwise (· < ·) := List.Pairwise.filter _ List.pairwise_lt_range
              rw [hl] at hsort hjt
              rw [List.pairwise_cons] at hsort
              simp only [List.mem_cons] at hjt
              rcases hjt with rfl | hjt
              · omega
              · have := hsort.1 j hjt; omega
            | cons i l1 =>
              simp only [List.cons_append, List.cons.injEq] at e1
              have := e3 i (by simp)
              omega
        have : k ∈ Region.ready .any ops.toArray listed := mem_ready.2 ⟨hku, oi, hoi, fun e he hbe => hmin _ (hb e he hbe)⟩
        rw [hnone] at this
        simp at this
    · obtain ⟨hku, ok, hok', hall'⟩ := mem_ready.1 hk
      have hok2 : ops[k]? = some ok := by simpa using hok'
      have hkn : k < ops.length := (List.getElem?_eq_some_iff.1 hok2).1
      have hkt : k ∈ todo ops.length listed := mem_todo.2 ⟨hkn, hku⟩
      obtain ⟨l1, l2, e1, e2, e3⟩ := todo_split hkt hs
      obtain ⟨hbef, hc'⟩ := hc.take hok2 hall'
      have hnd : (l1 ++ k :: l2).Nodup := by rw [← e1]; exact List.Pairwise.filter _ List.nodup_range
      have hun : ∀ i ∈ l1, listed.getD i false = false := by
        intro i hi
        have : i ∈ todo ops.length listed := by rw [e1]; simp [hi]
        obtain ⟨h1, h2⟩ := mem_todo.1 this
        have hlt : i < listed.size := by omega
        simp [hlt] at h2 ⊢
        exact h2
      rw [e1] at h hf hres
      have hsn := comm_front hz hall hok2 l1 σ hnd (fun i hi oi hoi => by
        have hik := e3 i hi
        have hu := hun i hi
        obtain ⟨oi', hoi', _, hap⟩ := hspec i (by omega) (by simp; omega)
        have : oi' = oi := by have h1 : ops[i]? = some oi' := by simpa using hoi'
                              rw [h1] at hoi; exact Option.some.inj hoi
        subst this
        refine ⟨hap k ok hok' hik (by simpa using hkn) (fun e he hbe hei => ?_), hpair i k oi' ok hik hoi hok2 (fun hm => ?_)⟩
        · have := hall' e he hbe
          rw [hei, hu] at this
          cases this
        · have := hbef i hm
          rw [hu] at this
          cases this) hf h
      obtain ⟨v, δ, hpost, h2, h3, h4, h5⟩ := hsn

      have hst : stepRun (CallD P) τ ops ok (idAt base ops k) σ (fun σ' => σ' = ⟨putS σ.s ok.dst v, upd σ.h δ⟩) := h5 σ _ .rfl' (fun _ _ _ _ _ => rfl) rfl
      refine step_sound hτ (fun _ _ _ _ h => CallD.toN h) hok2 hR (fun hl => hres k (by simp) ok hok2 hl) hst (fun σ' a' w' hR' hr hσ => ?_)
      subst hσ
      refine ih (listed.setIfInBounds k true) _ a' w' (by simpa using hs) ?_ hc' ?_ ?_ hR' ?_
      · rw [e2]
        rw [e1] at hlen
        simp at hlen ⊢
        omega
      · rw [e2]
        intro j hj oj hoj hlj
        have hfj := hf j (by simp only [List.mem_append, List.mem_cons]; simp only [List.mem_append] at hj; rcases hj with hj | hj <;> simp [hj]) oj hoj hlj
        have hjk : j ≠ k := by
          rintro rfl
          rw [List.nodup_append] at hnd
          simp only [List.mem_append] at hj
          rcases hj with hj | hj
          · exact hnd.2.2 j hj j (by simp) rfl
          · exact (List.nodup_cons.1 hnd.2.1).1 hj
        obtain ⟨p, q⟩ := h4 _ (fun hlk => idAt_ne hoj hok2 hjk hlj hlk) hfj
        exact hfj.step p q
      · rw [e2]
        intro j hj oj hoj hlj
        have hrj := hres j (by simp only [List.mem_append, List.mem_cons]; simp only [List.mem_append] at hj; rcases hj with hj | hj <;> simp [hj]) oj hoj hlj
        have hjk : j ≠ k := by
          rintro rfl
          rw [List.nodup_append] at hnd
          simp only [List.mem_append] at hj
          rcases hj with hj | hj
          · exact hnd.2.2 j hj j (by simp) rfl
          · exact (List.nodup_cons.1 hnd.2.1).1 hj
        rcases hr _ hrj with ⟨he, hlk⟩ | hr
        · exact absurd he (idAt_ne hoj hok2 hjk hlj hlk)
        · exact hr
      · rw [e2]; exact hpost

theorem draw_sound (hm : P.follows .mixedOrders = true) (hτ : TabOk P τ) {id : Nat} {ops : Array Oper} {σ : St} {a : Act} {w : World} {Q : Ex → St → Prop} (hlex : Region.lexB .any ops = true) (hok : drawOk τ ops.toList = true)
    (h : regRun (CallD P) q0 τ ops.toList σ (Q .normal)) (hR : Rel C σ a w) : (Code.region id ops true).wp P (liftQ C Q) a w := by
  have hz := hτ.zeroOk w
  have hall : AllOk τ ops.toList := by
    intro k o ho
    simp only [drawOk, Bool.and_eq_true, List.all_eq_true] at hok
    have := hok.1 o (List.mem_of_getElem? ho)
    simpa using this
  have hR' : Rel C σ a { w with drawn := w.drawn + 1 } := by
    obtain ⟨M, X, hI, hS⟩ := hR
    have hs : Same w { w with drawn := w.drawn + 1 } X := fun _ _ => rfl
    exact ⟨M, X, ⟨hI.os, hI.tape, hI.output, hI.size, hI.frame, hI.xlt, hI.xsub, hI.x0, hI.mlen, hI.pin, hI.live, hI.inj, fun j p hj => (hI.blk j p hj).mono hs (fun _ h => h) (Ext.refl M) (fun _ _ _ => rfl)⟩, hS.mono hs (fun _ h => h) (Ext.refl M)⟩
  refine wp_region_any hm ?_
  have ht : todo ops.size (Array.replicate ops.size false) = List.range' 0 ops.toList.length := by
    unfold todo
    rw [List.filter_eq_self.2 (fun k hk => by simp at hk; simp [hk]), List.range_eq_range']
    simp
  have hsz : ops.toList.length = ops.size := by simp
  have := any_sound (base := σ.h.length) (Q := Q) hτ hz (ops := ops.toList) (by simpa using hlex) hok ops.size (Array.replicate ops.size false) ⟨σ.s, σ.h ++ List.replicate (nLays ops.toList) .res⟩ a { w with drawn := w.drawn + 1 } (by simp) (by rw [hsz, ht]; simp)
    (fun j hj => by
      exfalso
      by_cases h : j < ops.size
      · simp [h] at hj
      · simp [h] at hj)
    (fun k hk o ho hl => hR.fresh (by unfold idAt; omega) _)
    (fun k hk o ho hl => by
      simp only [getB, List.getD_eq_getElem?_getD]
      have h1 : idAt σ.h.length ops.toList k < σ.h.length + nLays ops.toList := by
        have h2 := idAt_lt (base := σ.h.length) ho hl (show k < k + 1 by omega)
        have h3 := idAt_mono (base := σ.h.length) (ops := ops.toList) (show k + 1 ≤ ops.toList.length from (List.getElem?_eq_some_iff.1 ho).1)
        have h4 : idAt σ.h.length ops.toList ops.toList.length = σ.h.length + nLays ops.toList := by unfold idAt; rw [List.take_length]
        omega
      have h2 : σ.h.length ≤ idAt σ.h.length ops.toList k := by unfold idAt; omega
      rw [List.getElem?_append_right h2, List.getElem?_replicate, if_pos (by omega)]
      rfl)
    (hR'.reserve _)
    (by
      rw [hsz, ht]
      refine pend_of_run hz hall ops.toList [] 0 _ (fun d b h => by cases h) (by simp) ?_
      unfold regRun at h
      have e : idAt σ.h.length ops.toList 0 = σ.h.length := by simp [idAt, nLays]
      rw [e]
      exact h)
  simpa using this
end Sx

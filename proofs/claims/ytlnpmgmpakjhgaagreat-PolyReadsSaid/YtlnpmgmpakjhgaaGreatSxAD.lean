/- A part of the proof of PolyReadsSaid: texts SxF. -/
import Derived.Test.YtlnpmgmpakjhgaaGreatSxAC
set_option linter.all false
namespace Sx
open Go
variable {P : Program} {C : Ctx} {τ : TypeId → Option TI} {CN : CNt}
section
variable {s : Slots} {a : Act} {w : World} {M : Mp} {X : Nat → Prop} {H : List Blk}

theorem toT_rd (hI : Inv C H w M X) {l : L} {v : Value} {t : T} (h : RdL w X M l v) (ht : toT H l = some t) : RdT w X t v := by
  unfold toT at ht
  split at ht
  · cases ht; cases h; assumption
  · cases ht
    cases h
    exact .sl ⟨0, 0, none⟩ (fun _ _ => undef) rfl (Nat.le_refl _) (Nat.zero_le _) (fun i hi => absurd hi (by omega)) (fun hi => absurd hi (by omega)) (fun i f hi _ => absurd hi (by omega)) (fun i f t hi => absurd hi (by omega))
  · cases ht
    cases h
    exact .sl ⟨0, 0, none⟩ (fun _ _ => undef) rfl (Nat.le_refl _) (Nat.zero_le _) (fun i hi => absurd hi (by omega)) (fun hi => absurd hi (by omega)) (fun i f hi _ => absurd hi (by omega)) (fun i f t hi => absurd hi (by omega))
  · cases ht; cases h; exact .bool
  · cases ht; cases h; exact .bool
  · rename_i id n
    split at ht
    · rename_i sz m g hb
      cases ht
      cases h with
      | row0 hp => exact .sl ⟨0, 0, none⟩ (fun _ _ => undef) rfl (Nat.le_refl _) (Nat.zero_le _) (fun i hi => absurd hi (by omega)) (fun hi => absurd hi (by omega)) (fun i f hi _ => absurd hi (by omega)) (fun i f t hi => absurd hi (by omega))
      | row hp hn hl hcu hcm =>
        rename_i p len
        have := hI.blk id _ hp
        rw [hb] at this
        cases this with | fz h1 h2 h3 h4 h5 hx h6 h7 h8 =>
        rename_i arr
        refine .sl ⟨p.b, 0, none⟩ (fun i f => (arr[i * sz + f]?).getD undef) hn (by omega) h5 (fun i hi => (h8 i (by omega)).1) (fun _ => ⟨rfl, hx⟩) (fun i f hi hf => ?_) (fun i f t hi hft => ?_)
        · rw [cell_at h6]
          obtain ⟨hg, hr⟩ := h8 i (by omega)
          obtain ⟨u, hu, _⟩ := hr f (g i)[f] (by simp [hg, hf])
          rw [Nat.zero_add, hu]; rfl
        · obtain ⟨hg, hr⟩ := h8 i (by omega)
          obtain ⟨u, hu, hrt⟩ := hr f t hft
          simp only [hu]
          exact hrt
    · cases ht
  · cases ht
theorem toTs_rd (hI : Inv C H w M X) : ∀ {ls : List L} {vs : List Value} {ts : List T}, RdLs w X M ls vs → toTs H ls = some ts → ts.length = vs.length ∧ ∀ (j : Nat) (t : T) (v : Value), ts[j]? = some t → vs[j]? = some v → RdT w X t v
  | [], vs, ts, h, ht => by
    simp only [toTs, Option.some.injEq] at ht
    subst ht
    exact ⟨h.1, fun j t v hj => by simp at hj⟩
  | l :: ls, vs, ts, h, ht => by
    simp only [toTs] at ht
    split at ht
    · rename_i t ht1
      split at ht
      · rename_i ts' ht2
        cases ht
        cases vs with
        | nil => have := h.1; simp at this
        | cons v vs =>
          have h' : RdLs w X M ls vs := ⟨by have := h.1; simpa using this, fun j l u hl hu => h.2 (j + 1) l u (by simpa using hl) (by simpa using hu)⟩
          obtain ⟨e, r⟩ := toTs_rd hI h' ht2
          refine ⟨by simp [e], fun j t' u hj hu => ?_⟩
          cases j with
          | zero => simp at hj hu; subst hj; subst hu; exact toT_rd hI (h.2 0 l v rfl rfl) ht1
          | succ j => exact r j t' u (by simpa using hj) (by simpa using hu)
      · cases ht
    · cases ht
theorem okCell_one {l : L} {v : Value} (h : RdL w X M l v) (hk : okCell l = true) : v.oneCell' = true := by
  cases h with
  | any => cases hk
  | und => cases hk
  | t ht => cases ht <;> rfl
  | _ => rfl
theorem RdT.one {t : T} {v : Value} (h : RdT w X t v) : v.oneCell' = true := by cases h <;> rfl

def putCells (arr : Array Value) (at_ : Nat) (vs : List Value) : Array Value := (arr.toList.take at_ ++ vs ++ arr.toList.drop (at_ + vs.length)).toArray
theorem putCells_size {arr : Array Value} {at_ : Nat} {vs : List Value} (h : at_ + vs.length ≤ arr.size) : (putCells arr at_ vs).size = arr.size := by
  simp [putCells]; omega
theorem putCells_get {arr : Array Value} {at_ : Nat} {vs : List Value} (h : at_ + vs.length ≤ arr.size) (j : Nat) :
    (putCells arr at_ vs)[j]? = if at_ ≤ j ∧ j < at_ + vs.length then vs[j - at_]? else arr[j]? := by
  have ht : (arr.toList.take at_).length = at_ := by simp; omega
  simp only [putCells, List.getElem?_toArray, List.append_assoc, List.getElem?_append, ht, List.getElem?_drop, List.getElem?_take, Array.getElem?_toList]
  by_cases h1 : j < at_
  · rw [if_pos h1, if_pos h1, if_neg (by omega)]
  · rw [if_neg h1]
    by_cases h2 : j - at_ < vs.length
    · rw [if_pos h2, if_pos ⟨by omega, by omega⟩]
    · rw [if_neg h2, if_neg (by omega)]
      congr 1
      omega
theorem setA_eq {l ts : List T} {f sz : Nat} (hl : l.length = sz) : (if (Nat.beq f 0 && Nat.beq ts.length sz) = true then ts else setAt l f ts) = setAt l f ts := by
  split
  · rename_i h
    rw [Bool.and_eq_true] at h
    have h1 := Nat.eq_of_beq_eq_true h.1
    have h2 := Nat.eq_of_beq_eq_true h.2
    subst h1
    unfold setAt
    rw [Nat.zero_add, h2, ← hl]
    simp
  · rfl
theorem setAtL_get {α : Type} (cs : List α) (f : Nat) (vs : List α) (h : f + vs.length ≤ cs.length) (j : Nat) : (cs.take f ++ vs ++ cs.drop (f + vs.length))[j]? = if f ≤ j ∧ j < f + vs.length then vs[j - f]? else cs[j]? := by
  have ht : (cs.take f).length = f := by simp; omega
  simp only [List.append_assoc, List.getElem?_append, ht, List.getElem?_drop, List.getElem?_take]
  by_cases h1 : j < f
  · rw [if_pos h1, if_pos h1, if_neg (by omega)]
  · rw [if_neg h1]
    by_cases h2 : j - f < vs.length
    · rw [if_pos h2, if_pos ⟨by omega, by omega⟩]
    · rw [if_neg h2, if_neg (by omega)]
      congr 1
      omega

theorem storeVar_run (hτ : TabOk P τ) {t : TypeId} {ti : TI} (ht : τ t = some ti) {b off : Nat} {arr : Array Value} {ty : TypeId} (harr : w.heap[b]? = some (.cells arr ty (0, 0))) {v : Value}
    (hsz : v.cells.size = ti.sz) (hfit : off + ti.sz ≤ arr.size) (h1 : ∀ u ∈ v.cells.toList, u.oneCell' = true) :
    (storeVar t ⟨b, off, none⟩ v).run P w = .ok () (w.setRow b (putCells arr off v.cells.toList)) := by
  have hst := run_storeCells_at P b off ty v.cells.toList 0 arr w harr (by simpa [hsz] using hfit) h1
  simp only [Nat.add_zero] at hst
  unfold storeVar
  simp only [Sem.run_bind, run_sizeOf hτ ht, Result.andThen_ok]
  rw [if_neg (by simp [hsz])]
  exact hst

theorem store_step (hτ : TabOk P τ) (hI : Inv C H w M X) (hS : Sl s a w M X) {o : Oper} {t : TypeId} {x y : Operand} (ho : o.op = .store t x y) {id : Nat} {K : AV → List Blk → Prop} (h : opRun CN q0 τ o.op s H id K) :
    ∃ v h', Stp P C s H id a w o v h' ∧ K v h' := by
  rw [ho] at h
  simp only [opRun] at h
  split at h
  · rename_i ti ht
    have run : ∀ ad w', a.eval x = .pointer (some ad) → (storeVar t ad (a.eval y)).run P w = .ok () w' → (execOp a.eval o).run P w = .ok .skip w' := fun ad w' hx hv => by
      unfold execOp
      simp only [ho, hx, Instr.storeAt, Instr.sureAddr, Sem.run_bind, Sem.run_pure, Result.andThen_ok, hv]
    split at h
    · rename_i b f hx
      have hxr := ev_one hS hx
      generalize hax : a.eval x = vx at hxr
      cases hxr with | bp hp =>
      rename_i p
      split at h
      · rename_i ty cs hb
        split at h
        · rename_i hc
          obtain ⟨hlen, hfit, hok⟩ := hc
          obtain ⟨arr, harr, hcs⟩ := box_cells hI hp hb
          have hy := hS.ev y
          have hyc : RdLs w X M (cellsOf (ev s y)) (a.eval y).cells.toList := cells_rd hy (fun xs hxs => by rw [hxs] at hlen; have := (hτ _ _ ht).pos; simp [cellsOf] at hlen; omega)
            (fun l hl ha => by rw [hl] at hok; subst ha; simp [cellsOf, okCell] at hok)
          have hone : ∀ u ∈ (a.eval y).cells.toList, u.oneCell' = true := fun u hu => by
            obtain ⟨j, hj, rfl⟩ := List.getElem_of_mem hu
            have hj' : j < (cellsOf (ev s y)).length := by rw [hyc.1]; exact hj
            exact okCell_one (hyc.2 j (cellsOf (ev s y))[j] _ (by simp [hj']) (by simp [hj])) (by
              have := List.all_eq_true.1 hok (cellsOf (ev s y))[j] (List.getElem_mem hj')
              exact this)
          have hsz : (a.eval y).cells.size = ti.sz := by rw [← hlen, hyc.1]; simp
          have hfit' : f + ti.sz ≤ arr.size := by have := hcs.1; simp at this; omega
          have hst := storeVar_run (P := P) hτ ht harr (v := a.eval y) hsz hfit' hone
          have hfl : f + (a.eval y).cells.toList.length ≤ arr.size := by simpa [hsz] using hfit'
          obtain ⟨hI', hs⟩ := hI.write hp (by rw [hb]; rfl) (putCells arr f (a.eval y).cells.toList) (.box ty (setAtL cs f (cellsOf (ev s y))))
            (.box (setRow_heap w p.b arr _ ty _ harr) (by
              have hs : Same w (w.setRow p.b (putCells arr f (a.eval y).cells.toList)) X := fun b' hb' => setRow_other w p.b b' _ (fun e => (hI.live b p hp (by rw [hb]; rfl)).2.2 (e ▸ hb'))
              refine ⟨?_, fun j l v hl hv => ?_⟩
              · have h1 := hcs.1
                have h2 := putCells_size hfl
                have h3 : (setAtL cs f (cellsOf (ev s y))).length = cs.length := by simp [setAtL]; omega
                rw [h3, h1]
                simpa using h2.symm
              · refine RdL.mono hs (fun _ h => h) (Ext.refl M) ?_
                have e1 := setAtL_get cs f (cellsOf (ev s y)) (by omega) j
                have e2 := putCells_get hfl j
                unfold setAtL at hl
                rw [e1] at hl
                simp only [Array.getElem?_toList] at hv
                rw [e2] at hv
                rw [hyc.1] at hl
                split at hl
                · rename_i hin
                  rw [if_pos hin] at hv
                  exact hyc.2 _ _ _ hl hv
                · rename_i hin
                  rw [if_neg hin] at hv
                  exact hcs.2 j _ _ hl (by simpa using hv))) rfl
          refine ⟨_, _, ⟨undef, _, M, X, .inr ⟨run _ _ hax hst, rfl⟩, hI', hS.mono hs (fun _ h => h) (Ext.refl M), .one .und, by simp, fun j hj => .inr ?_⟩, h⟩
          rw [getB_set (getB_lt (by rw [hb]; simp))]
          split
          · rename_i e; subst e; rw [hb] at hj; cases hj
          · exact hj
        · exact h.elim
      · exact h.elim
    · rename_i b i f hx
      have hxr := ev_one hS hx
      generalize hax : a.eval x = vx at hxr
      cases hxr with | ep hp hi hj =>
      rename_i jn p
      subst hi
      split at h
      · rename_i ty sz n g hb
        split at h
        · rename_i ts hts
          split at h
          · rename_i hc
            obtain ⟨hlen, hfit⟩ := hc
            have hB := hI.blk b _ hp
            rw [hb] at hB
            cases hB with | sl h1 h2 h3 h4 h5 h6 h7 h8 =>
            rename_i arr
            have hy := hS.ev y
            have hyc : RdLs w X M (cellsOf (ev s y)) (a.eval y).cells.toList := cells_rd hy (fun xs hxs => by rw [hxs] at hts; simp [cellsOf, toTs] at hts; subst hts; have := (hτ _ _ ht).pos; simp at hlen; omega)
              (fun l hl ha => by rw [hl] at hts; subst ha; simp [cellsOf, toTs, toT] at hts)
            obtain ⟨hle, hrd⟩ := toTs_rd hI hyc hts
            have hone : ∀ u ∈ (a.eval y).cells.toList, u.oneCell' = true := fun u hu => by
              obtain ⟨j, hj, rfl⟩ := List.getElem_of_mem hu
              exact (hrd j ts[j] _ (by simp [hle, hj]) (by simp [hj])).one
            have hsz : (a.eval y).cells.size = ti.sz := by rw [← hlen, hle]; simp
            obtain ⟨hgl, hgr⟩ := h8 jn hj
            rw [setA_eq hgl] at h
            have hbound : jn * sz + sz ≤ arr.size := by rw [h7, ← Nat.succ_mul]; exact Nat.mul_le_mul_right _ (by omega)
            have hfit' : jn * p.sz + f + ti.sz ≤ arr.size := by rw [h2]; omega
            have hst := storeVar_run (P := P) hτ ht h6 (off := jn * p.sz + f) (v := a.eval y) hsz hfit' hone
            have hfl : jn * p.sz + f + (a.eval y).cells.toList.length ≤ arr.size := by simpa [hsz] using hfit'
            have hs : Same w (w.setRow p.b (putCells arr (jn * p.sz + f) (a.eval y).cells.toList)) X := fun b' hb' => setRow_other w p.b b' _ (fun e => (hI.live b p hp (by rw [hb]; rfl)).2.2 (e ▸ hb'))
            obtain ⟨hI', _⟩ := hI.write hp (by rw [hb]; rfl) (putCells arr (jn * p.sz + f) (a.eval y).cells.toList) (.sl ty sz n (updFn g jn (setAt (g jn) f ts)))
              (.sl h1 h2 h3 h4 h5 (setRow_heap w p.b arr _ ty _ h6) (by rw [putCells_size hfl]; exact h7) (fun i hi => by
                have e2 := putCells_get hfl
                have hvl : (a.eval y).cells.toList.length = ti.sz := by simp [hsz]
                by_cases hij : i = jn
                · subst hij
                  simp only [updFn, if_true]
                  have hsl : (setAt (g i) f ts).length = sz := by simp [setAt, hgl]; omega
                  refine ⟨hsl, fun k t hk => ?_⟩
                  unfold setAt at hk
                  rw [setAtL_get (g i) f ts (by omega) k] at hk
                  have hkl : k < sz := by
                    split at hk
                    · have := (List.getElem?_eq_some_iff.1 hk).1; omega
                    · have := (List.getElem?_eq_some_iff.1 hk).1; omega
                  split at hk
                  · rename_i hin
                    have hkv : k - f < (a.eval y).cells.toList.length := by omega
                    refine ⟨(a.eval y).cells.toList[k - f], ?_, (hrd _ _ _ hk (by simp [hkv])).mono hs (fun _ h => h)⟩
                    rw [e2, if_pos (by rw [h2]; omega), h2, show i * sz + k - (i * sz + f) = k - f by omega]
                    simp [hkv]
                  · rename_i hin
                    obtain ⟨v, hv, hr⟩ := hgr k t hk
                    refine ⟨v, ?_, hr.mono hs (fun _ h => h)⟩
                    rw [e2, if_neg (by rw [h2, hvl]; omega)]
                    exact hv
                · have hne : ¬ ((i : Int) = (jn : Int)) := by omega
                  simp only [updFn, if_neg hne]
                  obtain ⟨hl', hr'⟩ := h8 i hi
                  refine ⟨hl', fun k t hk => ?_⟩
                  obtain ⟨v, hv, hr⟩ := hr' k t hk
                  have hkl : k < sz := by rw [← hl']; exact (List.getElem?_eq_some_iff.1 hk).1
                  refine ⟨v, ?_, hr.mono hs (fun _ h => h)⟩
                  rw [e2, if_neg ?_]
                  · exact hv
                  · rw [h2, hvl]
                    rintro ⟨c1, c2⟩
                    rcases Nat.lt_or_gt_of_ne hij with hlt | hgt
                    · have : (i + 1) * sz ≤ jn * sz := Nat.mul_le_mul_right _ hlt
                      rw [Nat.add_mul] at this; omega
                    · have : (jn + 1) * sz ≤ i * sz := Nat.mul_le_mul_right _ hgt
                      rw [Nat.add_mul] at this; omega)) rfl
            refine ⟨_, _, ⟨undef, _, M, X, .inr ⟨run _ _ hax hst, rfl⟩, hI', hS.mono hs (fun _ h => h) (Ext.refl M), .one .und, by simp, fun j hj' => .inr ?_⟩, h⟩
            rw [getB_set (getB_lt (by rw [hb]; simp))]
            split
            · rename_i e; subst e; rw [hb] at hj'; cases hj'
            · exact hj'
          · exact h.elim
        · exact h.elim
      · exact h.elim
    · exact h.elim
  · exact h.elim
end
end Sx

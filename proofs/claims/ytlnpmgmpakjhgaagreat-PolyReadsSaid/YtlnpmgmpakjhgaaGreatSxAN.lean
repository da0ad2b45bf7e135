/- A part of the proof of PolyReadsSaid: texts SxS. -/
import Derived.Test.YtlnpmgmpakjhgaaGreatSxAM
set_option linter.all false
namespace Sx
open Go
variable {P : Program} {C : Ctx} {τ : TypeId → Option TI} {CN : CNt}
variable {s : Slots} {H : List Blk} {id : Nat} {K : AV → List Blk → Prop}

theorem refs_one {y : Nat} {x : Operand} {l : L} (hf : Fresh y s H) (h : ev s x = .one l) : y ∉ refsL l := by
  have := refs_ev hf x
  rw [h] at this
  simpa [refsA] using this

theorem NF.lay {o : Op} (hl : lays o = true) (h3 : opKind τ o ≠ 3) (v : AV) (B : Blk) (hK : K v (H.set id B)) (hf : ∀ y, y ≠ id → Fresh y s H → y ∉ refsA v ∧ y ∉ refsB B)
    (ht : ∀ s' H' (K' : AV → List Blk → Prop), Agr (opKind τ o) o.operands.toList s s' H H' → K' v (H'.set id B) → opRun CN q0 τ o s' H' id K') : NF CN τ o s H id K :=
  ⟨v, [(id, B)], hK, by simp [hl], fun h => absurd h h3, fun y hy hy' => by
    obtain ⟨a, b⟩ := hf y (hy hl) hy'
    exact ⟨a, by simp [b]⟩, ht⟩

theorem load_nf {t : TypeId} {x : Operand} (h : opRun CN q0 τ (.load t x) s H id K) : NF CN τ (.load t x) s H id K := by
  have hm : x ∈ (Op.load t x).operands.toList := by simp [Op.operands]
  simp only [opRun] at h
  split at h
  · rename_i ti hti
    split at h
    · rename_i b f hx
      split at h
      · rename_i ty cs hb
        unfold loadK at h
        split at h
        · rename_i hl
          refine NF.mk0 _ h (fun y hy hc => ?_) (fun s' H' K' hA hK => ?_)
          · have := refs_getB hy b
            rw [hb] at this
            exact this (refsLs_sub (fun l hl => List.mem_of_mem_drop (List.mem_of_mem_take hl)) (refs_asV hc))
          · simp only [opRun, hti, hA.ops x hm, hx, hA.cont (by simp [opKind]) x hm b (by simp [hx, refsA, refsL]), hb]
            unfold loadK
            rw [if_pos hl]
            exact hK
        · exact h.elim
      · exact h.elim
    · rename_i b i f hx
      split at h
      · rename_i ty sz n g hb
        unfold loadK at h
        split at h
        · rename_i hl
          refine NF.mk0 _ h (fun y hy hc => ?_) (fun s' H' K' hA hK => ?_)
          · exact refsLs_T _ (refsLs_sub (fun l hl => List.mem_of_mem_take hl) (refs_asV hc))
          · simp only [opRun, hti, hA.ops x hm, hx, hA.cont (by simp [opKind]) x hm b (by simp [hx, refsA, refsL]), hb]
            unfold loadK
            rw [if_pos hl]
            exact hK
        · exact h.elim
      · rename_i sz n g hb
        unfold loadK at h
        split at h
        · rename_i hl
          refine NF.mk0 _ h (fun y hy hc => ?_) (fun s' H' K' hA hK => ?_)
          · exact refsLs_T _ (refsLs_sub (fun l hl => List.mem_of_mem_take hl) (refs_asV hc))
          · simp only [opRun, hti, hA.ops x hm, hx, hA.cont (by simp [opKind]) x hm b (by simp [hx, refsA, refsL]), hb]
            unfold loadK
            rw [if_pos hl]
            exact hK
        · exact h.elim
      · exact h.elim
    · rename_i cs hx
      unfold loadK at h
      split at h
      · rename_i hl
        refine NF.mk0 _ h (fun y hy hc => ?_) (fun s' H' K' hA hK => ?_)
        · exact refsLs_T _ (refsLs_sub (fun l hl => List.mem_of_mem_take hl) (refs_asV hc))
        · simp only [opRun, hti, hA.ops x hm, hx]
          unfold loadK
          rw [if_pos hl]
          exact hK
      · exact h.elim
    · exact h.elim
  · exact h.elim

theorem store_nf {t : TypeId} {a x : Operand} (h : opRun CN q0 τ (.store t a x) s H id K) : NF CN τ (.store t a x) s H id K := by
  have hm : a ∈ (Op.store t a x).operands.toList := by simp [Op.operands]
  have hm2 : x ∈ (Op.store t a x).operands.toList := by simp [Op.operands]
  simp only [opRun] at h
  split at h
  · rename_i ti hti
    split at h
    · rename_i b f hx
      split at h
      · rename_i ty cs hb
        split at h
        · rename_i hl
          refine ⟨_, [(b, _)], h, ?_, ?_, ?_, ?_⟩
          · simp only [List.mem_singleton]
            rintro p rfl
            exact .inr ⟨by simp [opKind], a, hm, by simp [hx, refsA, refsL]⟩
          · rintro _ p hp
            simp only [List.mem_singleton] at hp
            subst hp
            simp [hb, shapeB]
          · intro y _ hy
            refine ⟨by simp [refsA, refsL], fun p hp => ?_⟩
            simp only [List.mem_singleton] at hp
            subst hp
            intro hc
            simp only [refsB] at hc
            rcases refs_setAtL hc with hc | hc
            · have := refs_getB hy b
              rw [hb] at this
              exact this hc
            · exact refs_ev hy x (refs_cellsOf hc)
          · intro s' H' K' hA hK
            simp only [opRun, hti, hA.ops a hm, hA.ops x hm2, hx, hA.cont (by simp [opKind]) a hm b (by simp [hx, refsA, refsL]), hb]
            rw [if_pos hl]
            exact hK
        · exact h.elim
      · exact h.elim
    · rename_i b i f hx
      split at h
      · rename_i ty sz n g hb
        split at h
        · rename_i ts hts
          split at h
          · rename_i hl
            refine ⟨_, [(b, _)], h, ?_, ?_, ?_, ?_⟩
            · simp only [List.mem_singleton]
              rintro p rfl
              exact .inr ⟨by simp [opKind], a, hm, by simp [hx, refsA, refsL]⟩
            · rintro _ p hp
              simp only [List.mem_singleton] at hp
              subst hp
              simp [hb, shapeB]
            · intro y _ hy
              refine ⟨by simp [refsA, refsL], fun p hp => ?_⟩
              simp only [List.mem_singleton] at hp
              subst hp
              simp [refsB]
            · intro s' H' K' hA hK
              simp only [opRun, hti, hA.ops a hm, hA.ops x hm2, hx, hA.cont (by simp [opKind]) a hm b (by simp [hx, refsA, refsL]), hb]
              rw [toTs_same (H := H) (fun c hc => hA.cont (by simp [opKind]) x hm2 c (refs_cellsOf hc)), hts]
              simp only
              rw [if_pos hl]
              exact hK
          · exact h.elim
        · exact h.elim
      · exact h.elim
    · exact h.elim
  · exact h.elim

theorem slice_nf {t : TypeId} {x : Operand} {lo hi mx : Option Operand} (h : opRun CN q0 τ (.slice t x lo hi mx) s H id K) : NF CN τ (.slice t x lo hi mx) s H id K := by
  have hm : x ∈ (Op.slice t x lo hi mx).operands.toList := by simp [Op.operands]
  have hlo : ∀ s', (∀ y ∈ (Op.slice t x lo hi mx).operands.toList, ev s' y = ev s y) → optInt s' lo = optInt s lo ∧ optInt s' hi = optInt s hi ∧ optInt s' mx = optInt s mx := fun s' hs =>
    ⟨optInt_same fun y hy => hs y (by simp only [Op.operands, Array.toList_append, List.mem_append]; simp only [Array.mem_toList_iff] at hy ⊢; simp [hy]), optInt_same fun y hy => hs y (by simp only [Op.operands, Array.toList_append, List.mem_append]; simp only [Array.mem_toList_iff] at hy ⊢; simp [hy]), optInt_same fun y hy => hs y (by simp only [Op.operands, Array.toList_append, List.mem_append]; simp only [Array.mem_toList_iff] at hy ⊢; simp [hy])⟩
  simp only [opRun] at h
  split at h
  · rename_i ti hti
    split at h
    · rename_i e he
      split at h
      · rename_i te hte
        cases hz : zeroB lo hi mx with
        | true =>
          rw [hz, cond_true] at h
          unfold empOp at h
          split at h
          · rename_i sz n g hx
            split at h
            · rename_i hsz
              refine NF.mk0 _ h (fun y _ => by simp [refsA, refsL]) (fun s' H' K' hA hK' => ?_)
              obtain ⟨h1, h2, h3⟩ := hlo s' hA.ops
              simp only [opRun, hti, he, hte, hA.ops x hm, hx, hz, cond_true, empOp, if_pos hsz]
              exact hK'
            · exact h.elim
          · exact h.elim
        | false =>
        rw [hz, cond_false] at h
        unfold sliceOp at h
        split at h
        · rename_i sz n g hx
          split at h
          · rename_i hsz
            have fin : ∀ l : L, K (.one l) H → (∀ y, y ∉ refsL l) → (∀ K' : L → Prop, K' l → sliceOp q0 H te.sz (.one (.t (.sl sz n g))) (optInt s lo) (optInt s hi) (optInt s mx) K') → NF CN τ (.slice t x lo hi mx) s H id K := by
              intro l hK hf ht
              refine NF.mk0 _ hK (fun y _ => by simpa [refsA] using hf y) (fun s' H' K' hA hK' => ?_)
              obtain ⟨h1, h2, h3⟩ := hlo s' hA.ops
              simp only [opRun, hti, he, hte, hA.ops x hm, hx, h1, h2, h3, hz, cond_false]
              have := ht (fun l => K' (.one l) H') hK'
              unfold sliceOp at this ⊢
              exact this
            split at h
            · rename_i h1 h2 h3; exact fin _ h (by simp [refsL]) (fun K' hk => by unfold sliceOp; simp only [if_pos hsz, h1, h2, h3]; exact hk)
            · rename_i h1 h2 h3; cases h with | mk a b => exact fin _ b (by simp [refsL]) (fun K' hk => by unfold sliceOp; simp only [if_pos hsz, h1, h2, h3]; exact .mk a hk)
            · rename_i h1 h2 h3; cases h with | mk a b => exact fin _ b (by simp [refsL]) (fun K' hk => by unfold sliceOp; simp only [if_pos hsz, h1, h2, h3]; exact .mk a hk)
            · rename_i h1 h2 h3; cases h with | mk a b => exact fin _ b (by simp [refsL]) (fun K' hk => by unfold sliceOp; simp only [if_pos hsz, h1, h2, h3]; exact .mk a hk)
            · rename_i h1 h2 h3; cases h with | mk a b => exact fin _ b (by simp [refsL]) (fun K' hk => by unfold sliceOp; simp only [if_pos hsz, h1, h2, h3]; exact .mk a hk)
            · exact h.elim
          · exact h.elim
        · rename_i bid n hx
          split at h
          · rename_i hsz
            have fin : ∀ l : L, K (.one l) H → (∀ y, y ∈ refsL l → y = bid) → (∀ (K' : L → Prop) (H' : List Blk), blkIs H' bid te.sz = true → K' l → sliceOp q0 H' te.sz (.one (.row bid n)) (optInt s lo) (optInt s hi) (optInt s mx) K') → NF CN τ (.slice t x lo hi mx) s H id K := by
              intro l hK hf ht
              refine NF.mk0 _ hK (fun y hy hc => ?_) (fun s' H' K' hA hK' => ?_)
              · have := refs_one hy hx
                rw [hf y (by simpa [refsA] using hc)] at this
                simp [refsL] at this
              · obtain ⟨h1, h2, h3⟩ := hlo s' hA.ops
                simp only [opRun, hti, he, hte, hA.ops x hm, hx, h1, h2, h3, hz, cond_false]
                exact ht _ H' (by rw [blkIs_same (hA.shape (by simp [opKind]) x hm bid (by simp [hx, refsA, refsL]))]; exact hsz) hK'
            split at h
            · rename_i h1 h2 h3; exact fin _ h (by simp [refsL]) (fun K' H' hz hk => by unfold sliceOp; simp only [if_pos hz, h1, h2, h3]; exact hk)
            · rename_i h1 h2 h3; cases h with | mk a b => exact fin _ b (by simp [refsL]) (fun K' H' hz hk => by unfold sliceOp; simp only [if_pos hz, h1, h2, h3]; exact .mk a hk)
            · rename_i h1 h2 h3; cases h with | mk a b => exact fin _ b (by simp [refsL]) (fun K' H' hz hk => by unfold sliceOp; simp only [if_pos hz, h1, h2, h3]; exact .mk a hk)
            · rename_i h1 h2 h3; cases h with | mk a b => exact fin _ b (by simp [refsL]) (fun K' H' hz hk => by unfold sliceOp; simp only [if_pos hz, h1, h2, h3]; exact .mk a hk)
            · exact h.elim
          · exact h.elim
        · exact h.elim
      · exact h.elim
    · rename_i he
      unfold strSliceOp at h
      split at h
      · rename_i b hx
        have fin : ∀ l : L, K (.one l) H → (∀ y, y ∉ refsL l) → (∀ K' : L → Prop, K' l → strSliceOp q0 (.one (.t (.str b))) (optInt s lo) (optInt s hi) (optInt s mx) K') → NF CN τ (.slice t x lo hi mx) s H id K := by
          intro l hK hf ht
          refine NF.mk0 _ hK (fun y _ => by simpa [refsA] using hf y) (fun s' H' K' hA hK' => ?_)
          obtain ⟨h1, h2, h3⟩ := hlo s' hA.ops
          simp only [opRun, hti, he, hA.ops x hm, hx, h1, h2, h3]
          exact ht _ hK'
        split at h
        · rename_i h1 h2 h3; exact fin _ h (by simp [refsL]) (fun K' hk => by unfold strSliceOp; simp only [h1, h2, h3]; exact hk)
        · rename_i h1 h2 h3; cases h with | mk a b => exact fin _ b (by simp [refsL]) (fun K' hk => by unfold strSliceOp; simp only [h1, h2, h3]; exact .mk a hk)
        · rename_i h1 h2 h3; cases h with | mk a b => exact fin _ b (by simp [refsL]) (fun K' hk => by unfold strSliceOp; simp only [h1, h2, h3]; exact .mk a hk)
        · rename_i h1 h2 h3; cases h with | mk a b => exact fin _ b (by simp [refsL]) (fun K' hk => by unfold strSliceOp; simp only [h1, h2, h3]; exact .mk a hk)
        · exact h.elim
      · exact h.elim
    · exact h.elim
  · exact h.elim

theorem indexAddr_nf {t : TypeId} {x i : Operand} (h : opRun CN q0 τ (.indexAddr t x i) s H id K) : NF CN τ (.indexAddr t x i) s H id K := by
  have hm : x ∈ (Op.indexAddr t x i).operands.toList := by simp [Op.operands]
  have hm2 : i ∈ (Op.indexAddr t x i).operands.toList := by simp [Op.operands]
  simp only [opRun] at h
  split at h
  · rename_i ti hti
    split at h
    · rename_i e he
      split at h
      · rename_i te hte
        split at h
        · rename_i sz n g ki i' hx hi
          split at h
          · rename_i hsz
            cases h with | mk a b =>
            refine NF.mk0 _ b (fun y _ => by simp [refsA, refsL]) (fun s' H' K' hA hK' => ?_)
            simp only [opRun, hti, he, hte, hA.ops x hm, hA.ops i hm2, hx, hi, if_pos hsz]
            exact .mk a hK'
          · exact h.elim
        · rename_i bid n ki i' hx hi
          have hsh : ∀ s' H', Agr (opKind τ (Op.indexAddr t x i)) (Op.indexAddr t x i).operands.toList s s' H H' → shapeB (getB H' bid) = shapeB (getB H bid) := fun s' H' hA => hA.shape (by simp [opKind]) x hm bid (by simp [hx, refsA, refsL])
          have hrf : ∀ y, Fresh y s H → y ≠ bid := fun y hy e => by
            have := refs_one hy hx
            rw [e] at this
            simp [refsL] at this
          split at h
          · rename_i ty sz n' g hb
            split at h
            · rename_i hsz
              cases h with | mk a b =>
              refine NF.mk0 _ b (fun y hy => by simp [refsA, refsL, hrf y hy]) (fun s' H' K' hA hK' => ?_)
              have hs := hsh s' H' hA
              rw [hb] at hs
              simp only [opRun, hti, he, hte, hA.ops x hm, hA.ops i hm2, hx, hi]
              cases hb' : getB H' bid <;> rw [hb'] at hs <;> simp [shapeB] at hs
              subst hs
              simp only [if_pos hsz]
              exact .mk a hK'
            · exact h.elim
          · rename_i sz n' g hb
            split at h
            · rename_i hsz
              cases h with | mk a b =>
              refine NF.mk0 _ b (fun y hy => by simp [refsA, refsL, hrf y hy]) (fun s' H' K' hA hK' => ?_)
              have hs := hsh s' H' hA
              rw [hb] at hs
              simp only [opRun, hti, he, hte, hA.ops x hm, hA.ops i hm2, hx, hi]
              cases hb' : getB H' bid <;> rw [hb'] at hs <;> simp [shapeB] at hs
              subst hs
              simp only [if_pos hsz]
              exact .mk a hK'
            · exact h.elim
          · exact h.elim
        · rename_i bid off n ki i' hx hi
          have hsh : ∀ s' H', Agr (opKind τ (Op.indexAddr t x i)) (Op.indexAddr t x i).operands.toList s s' H H' → shapeB (getB H' bid) = shapeB (getB H bid) := fun s' H' hA => hA.shape (by simp [opKind]) x hm bid (by simp [hx, refsA, refsL])
          have hrf : ∀ y, Fresh y s H → y ≠ bid := fun y hy e => by
            have := refs_one hy hx
            rw [e] at this
            simp [refsL] at this
          split at h
          · rename_i ty sz n' g hb
            split at h
            · rename_i hsz
              cases h with | mk a b =>
              refine NF.mk0 _ b (fun y hy => by simp [refsA, refsL, hrf y hy]) (fun s' H' K' hA hK' => ?_)
              have hs := hsh s' H' hA
              rw [hb] at hs
              simp only [opRun, hti, he, hte, hA.ops x hm, hA.ops i hm2, hx, hi]
              cases hb' : getB H' bid <;> rw [hb'] at hs <;> simp [shapeB] at hs
              subst hs
              simp only [if_pos hsz]
              exact .mk a hK'
            · exact h.elim
          · exact h.elim
        · exact h.elim
      · exact h.elim
    · exact h.elim
  · exact h.elim
end Sx

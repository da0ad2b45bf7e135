/- A part of the proof of PolyReadsSaid: texts SxT. -/
import Derived.Test.YtlnpmgmpakjhgaaGreatSxAN
set_option linter.all false
namespace Sx
open Go
variable {P : Program} {C : Ctx} {τ : TypeId → Option TI} {CN : CNt}
variable {s : Slots} {H : List Blk} {id : Nat} {K : AV → List Blk → Prop}

theorem call_nf {c : Call} {f : Operand} (hc : c.callee = .value f) (h : opRun (CallD P) q0 τ (.call c) s H id K) : NF (CallD P) τ (.call c) s H id K := by
  have hm : f ∈ (Op.call c).operands.toList := by simp [Op.operands, Call.operands, hc]
  have hma : ∀ x ∈ c.args.toList, x ∈ (Op.call c).operands.toList := fun x hx => by
    simp only [Op.operands, Call.operands, hc, Array.toList_append, List.mem_append]; exact .inr hx
  simp only [opRun, hc] at h
  split at h
  · rename_i g caps hf
    obtain ⟨ts, r, ht, hp, hK⟩ := h
    refine NF.mk0 _ hK (fun y _ => refs_ofTV r y) (fun s' H' K' hA hK' => ?_)
    simp only [opRun, hc, hA.ops f hm, hf]
    have e : c.args.toList.map (ev s') = c.args.toList.map (ev s) := List.map_congr_left (fun x hx => hA.ops x (hma x hx))
    rw [e]
    have hr : ∀ b ∈ refsAs (c.args.toList.map (ev s) ++ caps.map AV.one), getB H' b = getB H b := by
      intro b hb
      rw [refsAs_mem] at hb
      obtain ⟨l, hl, hb⟩ := hb
      simp only [List.mem_append, List.mem_map] at hl
      rcases hl with ⟨x, hx, rfl⟩ | ⟨x, hx, rfl⟩
      · exact hA.cont (by simp [opKind, hc]) x (hma x hx) b hb
      · refine hA.cont (by simp [opKind, hc]) f hm b ?_
        rw [hf]
        simp only [refsA, refsL]
        rw [refsLs_mem]
        exact ⟨x, hx, by simpa [refsA] using hb⟩
    exact ⟨ts, r, by rw [tos_same hr, pks_same hr]; exact ht, hp, hK'⟩
  · exact h.elim

theorem append_nf {c : Call} (hc : c.callee = .builtin .append) (h : opRun CN q0 τ (.call c) s H id K) : NF CN τ (.call c) s H id K := by
  have hk : opKind τ (.call c) = 4 := by simp [opKind, hc]
  have hl : lays (.call c) = true := by simp [lays, hc]
  have hma : ∀ x ∈ c.args.toList, x ∈ (Op.call c).operands.toList := fun x hx => by
    simp only [Op.operands, Call.operands, hc, Array.toList_append, List.mem_append]; exact .inr hx
  simp only [opRun, hc] at h
  split at h
  · rename_i x y st st' ha ht
    split at h
    · rename_i hst
      split at h
      · rename_i ti hti
        split at h
        · rename_i e he
          split at h
          · rename_i te hte
            have hx := hma x (by simp [ha])
            have hy := hma y (by simp [ha])
            unfold appendOp at h
            split at h
            · rename_i sz m g hsrc
              have hsrc' : ∀ s' H', Agr (opKind τ (.call c)) (Op.call c).operands.toList s s' H H' → srcOf q0 H' te.sz (ev s y) = some (sz, m, g) := fun s' H' hA => by
                rw [srcOf_same (H := H) (fun b hb => hA.cont (by omega) y hy b hb)]; exact hsrc
              split at h
              · rename_i hsz
                split at h
                · rename_i hxv
                  cases h with | mk a b =>
                  refine NF.lay hl (by omega) _ _ b (fun z hz _ => ⟨by simp [refsA, refsL]; exact hz, by simp [refsB]⟩) (fun s' H' K' hA hK' => ?_)
                  simp only [opRun, hc, ha, ht, if_pos hst, hti, he, hte, hA.ops x hx, hA.ops y hy]
                  unfold appendOp
                  rw [hsrc' s' H' hA]
                  simp only [if_pos hsz, hxv]
                  exact .mk a hK'
                · rename_i hxv
                  cases h with | mk a b =>
                  refine NF.lay hl (by omega) _ _ b (fun z hz _ => ⟨by simp [refsA, refsL]; exact hz, by simp [refsB]⟩) (fun s' H' K' hA hK' => ?_)
                  simp only [opRun, hc, ha, ht, if_pos hst, hti, he, hte, hA.ops x hx, hA.ops y hy]
                  unfold appendOp
                  rw [hsrc' s' H' hA]
                  simp only [if_pos hsz, hxv]
                  exact .mk a hK'
                · rename_i ab n hxv
                  split at h
                  · rename_i ty' sz' n' g' hb
                    split at h
                    · rename_i hq
                      cases h with | mk a b =>
                      refine ⟨_, [(ab, .dead), (id, _)], b, ?_, by omega, ?_, ?_⟩
                      · intro p hp
                        simp only [List.mem_cons, List.not_mem_nil, or_false] at hp
                        rcases hp with rfl | rfl
                        · exact .inr ⟨by omega, x, hx, by simp [hxv, refsA, refsL]⟩
                        · exact .inl ⟨rfl, hl⟩
                      · intro z hz _
                        refine ⟨by simp [refsA, refsL]; exact hz hl, fun p hp => ?_⟩
                        simp only [List.mem_cons, List.not_mem_nil, or_false] at hp
                        rcases hp with rfl | rfl <;> simp [refsB]
                      · intro s' H' K' hA hK'
                        simp only [opRun, hc, ha, ht, if_pos hst, hti, he, hte, hA.ops x hx, hA.ops y hy]
                        unfold appendOp
                        rw [hsrc' s' H' hA]
                        simp only [if_pos hsz, hxv]
                        rw [hA.cont (by omega) x hx ab (by simp [hxv, refsA, refsL]), hb]
                        simp only [if_pos hq]
                        exact .mk a hK'
                    · exact h.elim
                  · exact h.elim
                · exact h.elim
              · exact h.elim
            · exact h.elim
          · exact h.elim
        · exact h.elim
      · exact h.elim
    · exact h.elim
  · exact h.elim

theorem copy_nf {c : Call} (hc : c.callee = .builtin .copy) (h : opRun CN q0 τ (.call c) s H id K) : NF CN τ (.call c) s H id K := by
  have hk : opKind τ (.call c) = 3 := by simp [opKind, hc]
  have hma : ∀ x ∈ c.args.toList, x ∈ (Op.call c).operands.toList := fun x hx => by
    simp only [Op.operands, Call.operands, hc, Array.toList_append, List.mem_append]; exact .inr hx
  simp only [opRun, hc] at h
  split at h
  · rename_i x y st st' ha ht
    split at h
    · rename_i ti hti
      split at h
      · rename_i e he
        split at h
        · rename_i te hte
          have hx := hma x (by simp [ha])
          have hy := hma y (by simp [ha])
          have into : ∀ (b : Nat) (off n m : Int) (g : Int → List T) (sz : Nat), b ∈ refsA (ev s x) → srcOf q0 H te.sz (ev s y) = some (sz, m, g) → sz = te.sz →
              (∀ s' H' (K' : AV → List Blk → Prop), ev s' x = ev s x → ev s' y = ev s y → srcOf q0 H' te.sz (ev s y) = some (sz, m, g) → copyInto q0 te b off n m g H' K' → copyOp q0 te (ev s' x) (ev s' y) H' K') → copyInto q0 te b off n m g H K → NF CN τ (.call c) s H id K := by
            intro b off n m g sz hbx hsrc hsz hback h
            unfold copyInto at h
            split at h
            · rename_i ty sz' nb g' hb
              split at h
              · rename_i hsz'
                refine ⟨_, [(b, _)], h, ?_, ?_, ?_, ?_⟩
                · simp only [List.mem_singleton]
                  rintro p rfl
                  exact .inr ⟨by omega, x, hx, hbx⟩
                · rintro _ p hp
                  simp only [List.mem_singleton] at hp
                  subst hp
                  simp [hb, shapeB]
                · intro y' _ hy'
                  refine ⟨by simp [refsA, refsL], fun p hp => ?_⟩
                  simp only [List.mem_singleton] at hp
                  subst hp
                  simp [refsB]
                · intro s' H' K' hA hK
                  simp only [opRun, hc, ha, ht, hti, he, hte]
                  refine hback s' H' K' (hA.ops x hx) (hA.ops y hy) ?_ ?_
                  · rw [srcOf_same (H := H) (fun c hc => hA.cont (by omega) y hy c hc)]; exact hsrc
                  · unfold copyInto
                    rw [hA.cont (by omega) x hx b hbx, hb]
                    simp only
                    rw [if_pos hsz']
                    exact hK
              · exact h.elim
            · exact h.elim
          unfold copyOp at h
          split at h
          · rename_i sz m g hsrc
            split at h
            · rename_i hsz
              split at h
              · rename_i b n hxv
                refine into b 0 n m g sz (by simp [hxv, refsA, refsL]) hsrc hsz (fun s' H' K' h1 h2 h3 h4 => ?_) h
                unfold copyOp
                rw [h2, h3]
                simp only
                rw [if_pos hsz, h1, hxv]
                exact h4
              · rename_i b off n hxv
                refine into b off n m g sz (by simp [hxv, refsA, refsL]) hsrc hsz (fun s' H' K' h1 h2 h3 h4 => ?_) h
                unfold copyOp
                rw [h2, h3]
                simp only
                rw [if_pos hsz, h1, hxv]
                exact h4
              · exact h.elim
            · exact h.elim
          · exact h.elim
        · exact h.elim
      · exact h.elim
    · exact h.elim
  · exact h.elim
theorem minmax_nf {c : Call} {b : Builtin} (hb : b = .min ∨ b = .max) (hc : c.callee = .builtin b) (h : opRun CN q0 τ (.call c) s H id K) : NF CN τ (.call c) s H id K := by
  have hma : ∀ x ∈ c.args.toList, x ∈ (Op.call c).operands.toList := fun x hx => by
    simp only [Op.operands, Call.operands, hc, Array.toList_append, List.mem_append]; exact .inr hx
  rcases hb with rfl | rfl
  all_goals
    simp only [opRun, hc] at h
    split at h
    · rename_i x y ha
      have hx := hma x (by simp [ha])
      have hy := hma y (by simp [ha])
      split at h
      · rename_i k n k' m h1 h2
        split at h
        · rename_i hk
          refine NF.mk0 _ h (fun y _ => by simp [refsA, refsL]) (fun s' H' K' hA hK' => ?_)
          simp only [opRun, hc, ha, hA.ops x hx, hA.ops y hy, h1, h2]
          rw [if_pos hk]
          exact hK'
        · exact h.elim
      · exact h.elim
    · exact h.elim

theorem len_nf {c : Call} (hc : c.callee = .builtin .len) (h : opRun CN q0 τ (.call c) s H id K) : NF CN τ (.call c) s H id K := by
  have hma : ∀ x ∈ c.args.toList, x ∈ (Op.call c).operands.toList := fun x hx => by
    simp only [Op.operands, Call.operands, hc, Array.toList_append, List.mem_append]; exact .inr hx
  simp only [opRun, hc] at h
  split at h
  · rename_i x t ha ht
    have hx := hma x (by simp [ha])
    split at h
    · rename_i ti hti
      split at h
      · rename_i e he
        unfold lenOp at h
        split at h <;> first
          | exact h.elim
          | (rename_i hxv
             refine NF.mk0 _ h (fun y _ => by simp [refsA, refsL]) (fun s' H' K' hA hK' => ?_)
             simp only [opRun, hc, ha, ht, hti, he, hA.ops x hx, hxv]
             unfold lenOp
             exact hK')
      · rename_i he
        unfold lenStr at h
        split at h <;> first
          | exact h.elim
          | (rename_i hxv
             refine NF.mk0 _ h (fun y _ => by simp [refsA, refsL]) (fun s' H' K' hA hK' => ?_)
             simp only [opRun, hc, ha, ht, hti, he, hA.ops x hx, hxv]
             unfold lenStr
             exact hK')
      · exact h.elim
    · exact h.elim
  · exact h.elim

section
variable {w : World} {X : Nat → Prop}
mutual
theorem refsL_nil : ∀ (l : L) (v : Value), RdL w X [] l v → refsL l = []
  | .t x, v, h => rfl
  | .nil, v, h => rfl
  | .emp, v, h => rfl
  | .tt, v, h => rfl
  | .ff, v, h => rfl
  | .any, v, h => rfl
  | .und, v, h => rfl
  | .row id n, v, h => by cases h with | row0 hp => simp at hp | row hp => simp at hp
  | .sub id o n, v, h => by cases h with | sub0 hp => simp at hp | sub hp => simp at hp
  | .bp id f, v, h => by cases h with | bp hp => simp at hp
  | .ep id i f, v, h => by cases h with | ep hp => simp at hp
  | .fp cs, v, h => rfl
  | .fn f caps, v, h => by
    cases h with | fn a b =>
    simp only [refsL]
    exact refsLs_nil caps _ ⟨a, b⟩
theorem refsLs_nil : ∀ (ls : List L) (vs : List Value), RdLs w X [] ls vs → refsLs ls = []
  | [], vs, h => rfl
  | l :: ls, vs, h => by
    cases vs with
    | nil => have := h.1; simp at this
    | cons v vs =>
      simp only [refsLs, refsL_nil l v (h.2 0 l v rfl rfl), refsLs_nil ls vs ⟨by have := h.1; simpa using this, fun j l u hl hu => h.2 (j + 1) l u (by simpa using hl) (by simpa using hu)⟩, List.append_nil]
end
end

def ZeroOk (τ : TypeId → Option TI) : Prop := ∀ t ti, τ t = some ti → refsLs ti.zero = []
theorem TabOk.zeroOk (hτ : TabOk P τ) (w : World) : ZeroOk τ := fun t ti h => by
  obtain ⟨i, z, _, _, _, _, _, hr⟩ := (hτ t ti h).info
  exact refsLs_nil _ _ (hr w (fun _ => False) [])

theorem build_nf (hz : ZeroOk τ) {t : TypeId} {ps : Array (Nat × Operand)} (h : opRun CN q0 τ (.build t ps) s H id K) : NF CN τ (.build t ps) s H id K := by
  have hop : (Op.build t ps).operands.toList = ps.toList.map (·.2) := by simp [Op.operands]
  simp only [opRun] at h
  split at h
  · rename_i ti hti
    split at h
    · rename_i fs hfs
      split at h
      · rename_i cs hcs
        refine NF.mk0 _ h (fun y hy hc => ?_) (fun s' H' K' hA hK' => ?_)
        · exact partsGo_refs hcs (fun x hx => refs_ev hy x) (by rw [hz t ti hti]; simp) (by simpa [refsA] using hc)
        · simp only [opRun, hti, hfs]
          rw [partsGo_same (s := s) (fun x hx => hA.ops x (by rw [hop]; exact hx)), hcs]
          exact hK'
      · exact h.elim
    · exact h.elim
  · exact h.elim

theorem buildSlice_nf {t : TypeId} {len : Nat} {ps : Array (Nat × Operand)} (h : opRun CN q0 τ (.buildSlice t len ps) s H id K) : NF CN τ (.buildSlice t len ps) s H id K := by
  have hop : (Op.buildSlice t len ps).operands.toList = ps.toList.map (·.2) := by simp [Op.operands]
  simp only [opRun] at h
  split at h
  · rename_i ti hti
    split at h
    · rename_i e he
      split at h
      · rename_i te hte
        split at h
        · rename_i z hz
          split at h
          · rename_i rows hrows
            split at h
            · rename_i hc
              refine NF.lay rfl (by simp [opKind]) _ _ h (fun y hy _ => ⟨by simp [refsA, refsL, hy], by simp [refsB]⟩) (fun s' H' K' hA hK' => ?_)
              simp only [opRun, hti, he, hte, hz]
              rw [rowsGo_same (s := s) (H := H) (fun x hx => hA.ops x (by rw [hop]; exact hx)) (fun x hx => hA.cont (by simp [opKind]) x (by rw [hop]; exact hx)), hrows]
              simp only [if_pos hc]
              exact hK'
            · exact h.elim
          · exact h.elim
        · exact h.elim
      · exact h.elim
    · exact h.elim
  · exact h.elim

theorem rest_nf (hz : ZeroOk τ) {o : Op} (h : opRun (CallD P) q0 τ o s H id K) (hk : opKind τ o ≠ 5) : NF (CallD P) τ o s H id K := by
  cases o with
  | load t x => exact load_nf h
  | store t a x => exact store_nf h
  | slice t x lo hi mx => exact slice_nf h
  | indexAddr t x i => exact indexAddr_nf h
  | build t ps => exact build_nf hz h
  | buildSlice t len ps => exact buildSlice_nf h
  | call c =>
    cases hc : c.callee with
    | value f => exact call_nf hc h
    | invoke r m => simp [opKind, hc] at hk
    | builtin b =>
      cases b <;> first
        | exact append_nf hc h
        | exact copy_nf hc h
        | exact len_nf hc h
        | exact minmax_nf (.inl rfl) hc h
        | exact minmax_nf (.inr rfl) hc h
        | (simp [opKind, hc] at hk)
  | move x => exact NF.mk0 _ h (fun y hy => refs_ev hy x) (fun s' H' K' hA hK' => by simp only [opRun]; rw [hA.ops x (by simp [Op.operands])]; exact hK')
  | assign x => exact NF.mk0 _ h (fun y hy => refs_ev hy x) (fun s' H' K' hA hK' => by simp only [opRun]; rw [hA.ops x (by simp [Op.operands])]; exact hK')
  | pick c x y =>
    have h1 : c ∈ (Op.pick c x y).operands.toList := by simp [Op.operands]
    have h2 : x ∈ (Op.pick c x y).operands.toList := by simp [Op.operands]
    have h3 : y ∈ (Op.pick c x y).operands.toList := by simp [Op.operands]
    simp only [opRun] at h
    split at h
    · rename_i hb
      exact NF.mk0 _ h (fun z hz => refs_ev hz x) (fun s' H' K' hA hK' => by simp only [opRun]; rw [hA.ops c h1, hA.ops x h2, hb]; exact hK')
    · rename_i hb
      exact NF.mk0 _ h (fun z hz => refs_ev hz y) (fun s' H' K' hA hK' => by simp only [opRun]; rw [hA.ops c h1, hA.ops y h3, hb]; exact hK')
    · rename_i b hb
      cases b with
      | true => exact NF.mk0 _ h (fun z hz => refs_ev hz x) (fun s' H' K' hA hK' => by simp only [opRun]; rw [hA.ops c h1, hA.ops x h2, hb]; exact hK')
      | false => exact NF.mk0 _ h (fun z hz => refs_ev hz y) (fun s' H' K' hA hK' => by simp only [opRun]; rw [hA.ops c h1, hA.ops y h3, hb]; exact hK')
    · exact h.elim
  | alloc e =>
    simp only [opRun] at h
    split at h
    · rename_i te hte
      exact NF.lay rfl (by simp [opKind]) _ _ h (fun y hy _ => ⟨by simp [refsA, refsL, hy], by simp [refsB, hz e te hte]⟩) (fun s' H' K' hA hK' => by simp only [opRun, hte]; exact hK')
    · exact h.elim
  | box e x =>
    have hm : x ∈ (Op.box e x).operands.toList := by simp [Op.operands]
    simp only [opRun] at h
    split at h
    · rename_i hc
      exact NF.lay rfl (by simp [opKind]) _ _ h (fun y hy hf => ⟨by simp [refsA, refsL, hy], by
        simp only [refsB]; intro hc; exact refs_ev hf x (refs_cellsOf hc)⟩) (fun s' H' K' hA hK' => by
          simp only [opRun]; rw [hA.ops x hm, if_pos hc]; exact hK')
    · exact h.elim
  | nilCheck x =>
    have hm : x ∈ (Op.nilCheck x).operands.toList := by simp [Op.operands]
    simp only [opRun] at h
    split at h <;> first
      | exact h.elim
      | (rename_i hx
         exact NF.mk0 _ h (fun y hy => by have := refs_ev hy x; rw [hx] at this; exact this) (fun s' H' K' hA hK' => by simp only [opRun]; rw [hA.ops x hm, hx]; exact hK'))
  | binOp op xT x y z =>
    have h1 : x ∈ (Op.binOp op xT x y z).operands.toList := by simp [Op.operands]
    have h2 : y ∈ (Op.binOp op xT x y z).operands.toList := by simp [Op.operands]
    simp only [opRun] at h
    obtain ⟨l, hl, hf, ht⟩ := runOpBin_nf (fun e he => by simp only [opKind] at hk; rw [show (τ xT).map TI.und = some (.slice e) from he] at hk; exact hk rfl) h
    exact NF.mk0 _ hl (fun y _ => by simpa [refsA] using hf y) (fun s' H' K' hA hK' => by
      simp only [opRun]; rw [hA.ops x h1, hA.ops y h2]; exact ht (fun l => K' (.one l) H') hK')
  | unOp u t x =>
    have hm : x ∈ (Op.unOp u t x).operands.toList := by simp [Op.operands]
    cases u <;> simp only [opRun] at h <;> first
      | exact h.elim
      | (split at h <;> first
          | exact h.elim
          | (rename_i hx
             exact NF.mk0 _ h (fun y hy => by simp [refsA, refsL]) (fun s' H' K' hA hK' => by simp only [opRun]; rw [hA.ops x hm, hx]; exact hK')))
  | convert sT d x =>
    have hm : x ∈ (Op.convert sT d x).operands.toList := by simp [Op.operands]
    simp only [opRun] at h
    split at h
    · rename_i ts td h1 h2
      split at h <;> first
        | exact h.elim
        | (rename_i h3 h4 hx
           cases h with | mk a b =>
           exact NF.mk0 _ b (fun y hy => by simp [refsA, refsL]) (fun s' H' K' hA hK' => by simp only [opRun, h1, h2]; rw [hA.ops x hm, hx, h3, h4]; exact .mk a hK'))
        | (rename_i h3 h4 hx
           exact NF.mk0 _ h (fun y hy => by simp [refsA, refsL]) (fun s' H' K' hA hK' => by simp only [opRun, h1, h2]; rw [hA.ops x hm, hx, h3, h4]; exact hK'))
    · exact h.elim
  | makeFunc f first caps =>
    cases f with
    | func f =>
      simp only [opRun] at h
      split at h
      · rename_i hf0
        have hm : ∀ x ∈ caps.toList, x ∈ (Op.makeFunc (.func f) first caps).operands.toList := fun x hx => by simp only [Op.operands, Array.toList_append, List.mem_append]; exact .inr hx
        refine NF.mk0 _ h (fun y hy hc => ?_) (fun s' H' K' hA hK' => ?_)
        · simp only [refsA, refsL] at hc
          rw [refsLs_mem] at hc
          obtain ⟨l, hl, hc⟩ := hc
          rw [List.mem_map] at hl
          obtain ⟨x, hx, rfl⟩ := hl
          exact refs_ev hy x (refs_oneOf hc)
        · simp only [opRun]
          rw [if_pos hf0]
          have e : caps.toList.map (fun x => oneOf (ev s' x)) = caps.toList.map (fun x => oneOf (ev s x)) := List.map_congr_left (fun x hx => by rw [hA.ops x (hm x hx)])
          rw [e]
          exact hK'
      · exact h.elim
    | _ => simp only [opRun] at h
  | makeSlice t n c =>
    have h1 : n ∈ (Op.makeSlice t n c).operands.toList := by simp [Op.operands]
    have h2 : c ∈ (Op.makeSlice t n c).operands.toList := by simp [Op.operands]
    simp only [opRun] at h
    split at h
    · rename_i ti hti
      split at h
      · rename_i e _ n' _ c' he hn hc
        split at h
        · rename_i te hte
          split at h
          · rename_i z hz'
            cases h with | mk a b =>
            exact NF.lay rfl (by simp [opKind]) _ _ b (fun y hy _ => ⟨by simp [refsA, refsL, hy], by simp [refsB]⟩) (fun s' H' K' hA hK' => by
              simp only [opRun, hti]; rw [hA.ops n h1, hA.ops c h2, he, hn, hc]; simp only [hte, hz']; exact .mk a hK')
          · exact h.elim
        · exact h.elim
      · exact h.elim
    · exact h.elim
  | fieldAddr t x f =>
    have hm : x ∈ (Op.fieldAddr t x f).operands.toList := by simp [Op.operands]
    simp only [opRun] at h
    split at h
    · rename_i ti hti
      split at h
      · rename_i fs hfs
        split at h
        · rename_i off a b hf
          split at h <;> first
            | exact h.elim
            | (rename_i hx
               exact NF.mk0 _ h (fun y hy => by have := refs_ev hy x; rw [hx] at this; simpa [refsA, refsL] using this) (fun s' H' K' hA hK' => by simp only [opRun, hti, hfs, hf]; rw [hA.ops x hm, hx]; exact hK'))
        · exact h.elim
      · exact h.elim
    · exact h.elim
  | field t x f =>
    have hm : x ∈ (Op.field t x f).operands.toList := by simp [Op.operands]
    simp only [opRun] at h
    split at h
    · rename_i ti hti
      split at h
      · rename_i fs ls hfs hx
        split at h
        · rename_i off sz ag hf
          split at h
          · rename_i hl
            exact NF.mk0 _ h (fun y hy hc => by
              have := refs_ev hy x
              rw [hx] at this
              simp only [refsA] at this
              exact this (refsLs_sub (fun l hl => List.mem_of_mem_drop (List.mem_of_mem_take hl)) (refs_asV hc))) (fun s' H' K' hA hK' => by
                simp only [opRun, hti, hfs, hf]; rw [hA.ops x hm, hx]; simp only [hf, if_pos hl]; exact hK')
          · exact h.elim
        · exact h.elim
      · exact h.elim
    · exact h.elim
  | index t x i =>
    have h1 : x ∈ (Op.index t x i).operands.toList := by simp [Op.operands]
    have h2 : i ∈ (Op.index t x i).operands.toList := by simp [Op.operands]
    simp only [opRun] at h
    split at h
    · rename_i ti hti
      split at h
      · rename_i b _ i' he hx hi
        cases h with | mk a b =>
        exact NF.mk0 _ b (fun y hy => by simp [refsA, refsL]) (fun s' H' K' hA hK' => by simp only [opRun, hti]; rw [hA.ops x h1, hA.ops i h2, he, hx, hi]; exact .mk a hK')
      · exact h.elim
    · exact h.elim
  | extract x i =>
    have hm : x ∈ (Op.extract x i).operands.toList := by simp [Op.operands]
    simp only [opRun] at h
    split at h
    · rename_i vs hx
      split at h
      · rename_i v hv
        exact NF.mk0 _ h (fun y hy hc => by
          have := refs_ev hy x
          rw [hx] at this
          simp only [refsA] at this
          rw [refsAs_mem] at this
          exact this ⟨v, List.mem_of_getElem? hv, hc⟩) (fun s' H' K' hA hK' => by simp only [opRun]; rw [hA.ops x hm, hx]; simp only [hv]; exact hK')
      · exact h.elim
    · exact h.elim
  | _ => exact absurd rfl hk
end Sx

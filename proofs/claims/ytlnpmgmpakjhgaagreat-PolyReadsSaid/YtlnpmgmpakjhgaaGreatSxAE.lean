/- A part of the proof of PolyReadsSaid: texts SxG. -/
import Derived.Test.YtlnpmgmpakjhgaaGreatSxAD
set_option linter.all false
namespace Sx
open Go
variable {P : Program} {C : Ctx} {τ : TypeId → Option TI} {CN : CNt}
section
variable {s : Slots} {a : Act} {w : World} {M : Mp} {X : Nat → Prop} {H : List Blk}

theorem foldSet (off : Nat) : ∀ (vs : List Value) (k : Nat) (arr : Array Value), off + k + vs.length ≤ arr.size →
    ((vs.zipIdx k).foldl (fun cs (x : Value × Nat) => cs.setIfInBounds (off + x.2) x.1) arr).size = arr.size ∧
    ∀ j, ((vs.zipIdx k).foldl (fun cs (x : Value × Nat) => cs.setIfInBounds (off + x.2) x.1) arr)[j]? = if off + k ≤ j ∧ j < off + k + vs.length then vs[j - (off + k)]? else arr[j]?
  | [], k, arr, _ => ⟨rfl, fun j => by rw [if_neg (by simp only [List.length_nil]; omega)]; rfl⟩
  | v :: vs, k, arr, h => by
    simp only [List.length_cons] at h
    obtain ⟨h1, h2⟩ := foldSet off vs (k + 1) (arr.setIfInBounds (off + k) v) (by simp; omega)
    simp only [List.zipIdx_cons, List.foldl_cons]
    refine ⟨by rw [h1, Array.size_setIfInBounds], fun j => ?_⟩
    rw [h2]
    by_cases c1 : off + (k + 1) ≤ j ∧ j < off + (k + 1) + vs.length
    · rw [if_pos c1, if_pos (by simp; omega), show j - (off + k) = (j - (off + (k + 1))) + 1 by omega]
      simp
    · rw [if_neg c1]
      by_cases c2 : j = off + k
      · subst c2
        rw [if_pos (by simp), Nat.sub_self]
        simp only [List.getElem?_cons_zero]
        rw [Array.getElem?_setIfInBounds, if_pos rfl, if_pos (by omega)]
      · rw [if_neg (by simp; omega), Array.getElem?_setIfInBounds_ne (by omega)]

theorem fill_step {place : Nat → Option (Nat × Nat)} {cells : Array Value} {i off sz : Nat} {v : Value} {rest : List (Nat × Value)} (hp : place i = some (off, sz)) (hsz : v.cells.size = sz) (hfit : off + sz ≤ cells.size) :
    ∃ cells', Instr.fill place cells ((i, v) :: rest) = Instr.fill place cells' rest ∧ cells'.size = cells.size ∧ ∀ j, cells'[j]? = if off ≤ j ∧ j < off + sz then v.cells[j - off]? else cells[j]? := by
  have hf := foldSet off v.cells.toList 0 cells (by simpa [hsz] using hfit)
  refine ⟨(v.cells.toList.zipIdx 0).foldl (fun cs (x : Value × Nat) => cs.setIfInBounds (off + x.2) x.1) cells, ?_, hf.1, fun j => ?_⟩
  · simp only [Instr.fill, hp]
    rw [if_neg (by simp [hsz]; omega)]
    congr 1
    rw [← Array.foldl_toList, Array.toList_zipIdx]
  · rw [hf.2]
    simp [hsz]
theorem zip_parts (a : Act) (ps : Array (Nat × Operand)) : ((ps.map fun (i, x) => (i, a.eval x)).toList) = ps.toList.map fun (i, x) => (i, a.eval x) := by simp

theorem partsGo_fill (hS : Sl s a w M X) {fs : List (Nat × Nat × Bool)} {place : Nat → Option (Nat × Nat)} (hpl : ∀ (i o z : Nat) (ag : Bool), fs[i]? = some (o, z, ag) → place i = some (o, z) ∧ 0 < z) (bound : Nat) (hb : ∀ (i o z : Nat) (ag : Bool), fs[i]? = some (o, z, ag) → o + z ≤ bound) :
    ∀ (ps : List (Nat × Operand)) (cs : List L) (cells : Array Value) (out : List L), RdLs w X M cs cells.toList → cells.size = bound → partsGo fs s cs ps = some out →
      ∃ cells', Instr.fill place cells (ps.map fun (i, x) => (i, a.eval x)) = some cells' ∧ RdLs w X M out cells'.toList
  | [], cs, cells, out, hcs, _, h => by
    simp only [partsGo, Option.some.injEq] at h
    subst h
    exact ⟨cells, rfl, hcs⟩
  | (i, x) :: ps, cs, cells, out, hcs, hbd, h => by
    simp only [partsGo] at h
    split at h
    · rename_i off sz ag hfs
      split at h
      · rename_i hlo
        obtain ⟨hlen, hok⟩ := hlo
        obtain ⟨hp, hz⟩ := hpl i off sz ag hfs
        have hfit := hb i off sz ag hfs
        · have hx : RdLs w X M (cellsOf (ev s x)) (a.eval x).cells.toList := cells_rd (hS.ev x) (fun xs hxs => by rw [hxs] at hlen; simp [cellsOf] at hlen; omega) (fun l hl ha => by rw [hl] at hok; subst ha; simp [cellsOf, okCell] at hok)
          have hvs : (a.eval x).cells.size = sz := by rw [← hlen, hx.1]; simp
          obtain ⟨cells', he, hs', hg⟩ := fill_step (cells := cells) (rest := ps.map fun (i, x) => (i, a.eval x)) hp hvs (by omega)
          have hcl : cs.length = cells.size := by simpa using hcs.1
          have hr : RdLs w X M (setAtL cs off (cellsOf (ev s x))) cells'.toList := by
            refine ⟨by simp [setAtL, hs']; omega, fun j l v hl hv => ?_⟩
            unfold setAtL at hl
            rw [setAtL_get cs off _ (by omega) j] at hl
            simp only [Array.getElem?_toList] at hv
            rw [hg j] at hv
            rw [hlen] at hl
            split at hl
            · rename_i hin
              rw [if_pos hin] at hv
              exact hx.2 _ _ _ hl (by simpa using hv)
            · rename_i hin
              rw [if_neg hin] at hv
              exact hcs.2 _ _ _ hl (by simpa using hv)
          obtain ⟨c2, h2, r2⟩ := partsGo_fill hS hpl bound hb ps _ cells' out hr (by omega) h
          exact ⟨c2, by simp only [List.map_cons]; rw [he]; exact h2, r2⟩
      · cases h
    · cases h

theorem build_step (hτ : TabOk P τ) (hI : Inv C H w M X) (hS : Sl s a w M X) {o : Oper} {t : TypeId} {ps : Array (Nat × Operand)} (ho : o.op = .build t ps) {id : Nat} {K : AV → List Blk → Prop} (h : opRun CN q0 τ o.op s H id K) :
    ∃ v h', Stp P C s H id a w o v h' ∧ K v h' := by
  rw [ho] at h
  simp only [opRun] at h
  split at h
  · rename_i ti ht
    split at h
    · rename_i fs hfs
      split at h
      · rename_i cs hcs
        have hT := hτ _ _ ht
        obtain ⟨i, z, hi, his, _, hz, hzs, hzr⟩ := hT.info
        obtain ⟨d, hd, _, hd'⟩ := hT.und
        rw [hfs] at hd'
        obtain ⟨fields, rfl, hfl, hfd⟩ := hd'
        have hpl : fields.toList.mapM (fun f => (P.info? f.type).map fun i => (f.offset, i.size)) = some (fs.map fun x => (x.1, x.2.1)) := by
          have key : ∀ (l : List Field) (m : List (Nat × Nat × Bool)), l.length = m.length → (∀ (j : Nat) (f : Field) (x : Nat × Nat × Bool), l[j]? = some f → m[j]? = some x → f.offset = x.1 ∧ ∃ i, P.info? f.type = some i ∧ i.size = x.2.1) →
              l.mapM (fun f => (P.info? f.type).map fun i => (f.offset, i.size)) = some (m.map fun x => (x.1, x.2.1)) := by
            intro l
            induction l with
            | nil => intro m hm _; cases m with | nil => rfl | cons => simp at hm
            | cons f l ih =>
              intro m hm hx
              cases m with
              | nil => simp at hm
              | cons x m =>
                obtain ⟨h1, i, h2, h3⟩ := hx 0 f x rfl rfl
                have := ih m (by simpa using hm) (fun j f x a b => hx (j + 1) f x (by simpa using a) (by simpa using b))
                simp [List.mapM_cons, h2, this, h1, h3]
          refine key _ _ (by simpa using hfl.symm) (fun j f x hf hx => ?_)
          obtain ⟨x1, x2, x3⟩ := x
          obtain ⟨h1, ⟨i, h2, h3, _⟩, _⟩ := hfd j f x1 x2 x3 (by simpa using hf) hx
          exact ⟨h1, i, h2, h3⟩
        obtain ⟨cells', hfill, hr⟩ := partsGo_fill (place := fun x => (fs.map fun x => (x.1, x.2.1)).toArray[x]?) hS (fun i o z ag hx => by
            have hlt := (List.getElem?_eq_some_iff.1 hx).1
            obtain ⟨h1, ⟨_, _, _, h4⟩, _⟩ := hfd i fields[i] o z ag (by simp [show i < fields.size by omega]) hx
            exact ⟨by simp [hx], h4⟩) ti.sz (hT.fits fs hfs) ps.toList ti.zero z.cells cs (hzr w X M) hzs hcs
        have hb : P.built t (ps.toList.map fun (i, x) => (i, a.eval x)) = some cells' := by
          unfold Program.built
          simp only [hi, hd, hz, hpl]
          exact hfill
        refine ⟨_, H, .still hI hS (u := .agg cells') ?_ (.agg hr), h⟩
        unfold execOp
        simp only [ho, Sem.run_bind, run_build w t _ cells' (by rw [zip_parts]; exact hb), Result.andThen_ok, Sem.run_pure]
      · exact h.elim
    · exact h.elim
  · exact h.elim

theorem alloc_step (hτ : TabOk P τ) (hI : Inv C H w M X) (hS : Sl s a w M X) {o : Oper} {t : TypeId} (ho : o.op = .alloc t) {id : Nat} (hid : getB H id = .res) {K : AV → List Blk → Prop} (h : opRun CN q0 τ o.op s H id K) :
    ∃ v h', Stp P C s H id a w o v h' ∧ K v h' := by
  rw [ho] at h
  simp only [opRun] at h
  split at h
  · rename_i ti ht
    obtain ⟨z, hz, hzs, hzr⟩ := run_zero (P := P) (w := w) hτ ht
    obtain ⟨w', M', hr, hI', hS', hv⟩ := newVar_lay (P := P) hI hS hid (t := t) (v := z) (hzr w X M)
    refine ⟨_, _, ⟨_, w', M', X, .inl ?_, hI', hS', hv, by simp, fun j hj => ?_⟩, h⟩
    · unfold execOp
      simp [ho, Instr.alloc, hz, hr]
    · by_cases hji : j = id
      · exact .inl ⟨hji, by rw [ho]; rfl⟩
      · rw [getB_set (getB_lt (by rw [hid]; simp)), if_neg hji]; exact .inr hj
  · exact h.elim
theorem box_step (hτ : TabOk P τ) (hI : Inv C H w M X) (hS : Sl s a w M X) {o : Oper} {t : TypeId} {x : Operand} (ho : o.op = .box t x) {id : Nat} (hid : getB H id = .res) {K : AV → List Blk → Prop} (h : opRun CN q0 τ o.op s H id K) :
    ∃ v h', Stp P C s H id a w o v h' ∧ K v h' := by
  rw [ho] at h
  simp only [opRun] at h
  split at h
  · rename_i hc
    obtain ⟨hlen, hok⟩ := hc
    have hx : RdLs w X M (cellsOf (ev s x)) (a.eval x).cells.toList := cells_rd (hS.ev x) (fun xs hxs => by rw [hxs] at hlen; simp [cellsOf] at hlen) (fun l hl ha => by rw [hl] at hok; subst ha; simp [cellsOf, okCell] at hok)
    obtain ⟨w', M', hr, hI', hS', hv⟩ := newVar_lay (P := P) hI hS hid (t := t) (v := a.eval x) hx
    refine ⟨_, _, ⟨_, w', M', X, .inl ?_, hI', hS', hv, by simp, fun j hj => ?_⟩, h⟩
    · unfold execOp
      simp [ho, Instr.box, hr]
    · by_cases hji : j = id
      · exact .inl ⟨hji, by rw [ho]; rfl⟩
      · rw [getB_set (getB_lt (by rw [hid]; simp)), if_neg hji]; exact .inr hj
  · exact h.elim

theorem newRow_lay (hI : Inv C H w M X) (hS : Sl s a w M X) {id : Nat} (hid : getB H id = .res) {e : TypeId} {sz len cap : Nat} {arr : Array Value} {g : Int → List T} (hsz : 0 < sz) (hl : len ≤ cap) (hc : cap ≤ maxLen) (harr : arr.size = cap * sz) (hg : RdRow w X sz len g arr) :
    ∃ M', Inv C (H.set id (.sl e sz len g)) (w.alloc (.cells arr e)) M' X ∧ Sl s a (w.alloc (.cells arr e)) M' X ∧ RdA (w.alloc (.cells arr e)) X M' (.one (.row id len)) (.slice (some ⟨w.heap.size, 0, none⟩) len cap) := by
  obtain ⟨p, hp, hB⟩ := hI.has (id := id) (by rw [hid]; simp)
  rw [hid] at hB
  cases hB
  have hlt : id < M.length := (List.getElem?_eq_some_iff.1 hp).1
  have hnew : (w.alloc (.cells arr e)).heap[w.heap.size]? = some (.cells arr e (0, 0)) := heap_alloc_new w _
  have hs0 : Same w (w.alloc (.cells arr e)) X := fun b hb => Go.RowKit.Below.heap_alloc w _ b (hI.xlt b hb)
  obtain ⟨hI', hs, he⟩ := hI.lay hp (.cells arr e) ⟨w.heap.size, sz, cap, len⟩ rfl (.sl e sz len g) rfl (.sl (p := ⟨w.heap.size, sz, cap, len⟩) rfl rfl hsz hl hc hnew harr (hg.mono hs0 (fun _ h => h)))
  exact ⟨_, hI', hS.mono hs (fun _ h => h) he, .one (.row (p := ⟨w.heap.size, sz, cap, len⟩) (by simp [hlt]) rfl (Nat.le_refl _) hl hc)⟩

theorem toTs_nil {w : World} {M : Mp} {X : Nat → Prop} : ∀ {ls : List L} {vs : List Value} {ts : List T}, RdLs w X M ls vs → toTs [] ls = some ts → ts.length = vs.length ∧ ∀ (j : Nat) (t : T) (v : Value), ts[j]? = some t → vs[j]? = some v → RdT w X t v
  | [], vs, ts, h, ht => by
    simp only [toTs, Option.some.injEq] at ht
    subst ht
    exact ⟨h.1, fun j t v hj => by simp at hj⟩
  | l :: ls, vs, ts, h, ht => by
    simp only [toTs] at ht
    split at ht
    · rename_i t ht1
      split at ht
      · rename_i ts' ht2
        cases ht
        cases vs with
        | nil => have := h.1; simp at this
        | cons v vs =>
          have h' : RdLs w X M ls vs := ⟨by have := h.1; simpa using this, fun j l u hl hu => h.2 (j + 1) l u (by simpa using hl) (by simpa using hu)⟩
          obtain ⟨e, r⟩ := toTs_nil h' ht2
          refine ⟨by simp [e], fun j t' u hj hu => ?_⟩
          cases j with
          | zero =>
            simp at hj hu; subst hj; subst hu
            have hl := h.2 0 l v rfl rfl
            unfold toT at ht1
            split at ht1
            · cases ht1; cases hl; assumption
            · cases ht1; cases hl
              exact .sl ⟨0, 0, none⟩ (fun _ _ => undef) rfl (Nat.le_refl _) (Nat.zero_le _) (fun i hi => absurd hi (by omega)) (fun hi => absurd hi (by omega)) (fun i f hi _ => absurd hi (by omega)) (fun i f t hi => absurd hi (by omega))
            · cases ht1; cases hl
              exact .sl ⟨0, 0, none⟩ (fun _ _ => undef) rfl (Nat.le_refl _) (Nat.zero_le _) (fun i hi => absurd hi (by omega)) (fun hi => absurd hi (by omega)) (fun i f hi _ => absurd hi (by omega)) (fun i f t hi => absurd hi (by omega))
            · cases ht1; cases hl; exact .bool
            · cases ht1; cases hl; exact .bool
            · simp [getB] at ht1
            · cases ht1
          | succ j => exact r j t' u (by simpa using hj) (by simpa using hu)
      · cases ht
    · cases ht

theorem makeSlice_step (hτ : TabOk P τ) (hI : Inv C H w M X) (hS : Sl s a w M X) {o : Oper} {t : TypeId} {x y : Operand} (ho : o.op = .makeSlice t x y) {id : Nat} (hid : getB H id = .res) {K : AV → List Blk → Prop} (h : opRun CN q0 τ o.op s H id K) :
    ∃ v h', Stp P C s H id a w o v h' ∧ K v h' := by
  rw [ho] at h
  simp only [opRun] at h
  split at h
  · rename_i ti ht
    split at h
    · rename_i e k n k' c hu hn hc
      split at h
      · rename_i te hte
        split at h
        · rename_i z hz
          cases h with | mk hb h =>
          obtain ⟨h0, h1, h2⟩ := hb
          have hT := hτ _ _ hte
          obtain ⟨i, zv, hi, his, hib, hiz, hzs, hzr⟩ := hT.info
          have hbp := hT.bpos
          obtain ⟨nn, rfl⟩ := Int.eq_ofNat_of_zero_le h0
          obtain ⟨cn, rfl⟩ := Int.eq_ofNat_of_zero_le (show 0 ≤ c by omega)
          have h2' : cn * te.bytes ≤ 140737488355328 := by omega
          have hcn : cn ≤ 140737488355328 := Nat.le_trans (Nat.le_mul_of_pos_right _ hbp) h2'
          have hr := run_make (P := P) w t e i zv (und_slice hτ ht hu) hi hiz k k' nn cn h0 h1 (by rw [hib, ← Int.natCast_mul, Nat.mul_comm]; omega) (by omega)
          simp only [Int.toNat_natCast] at hr
          have hzT : z.length = zv.cells.toList.length ∧ ∀ (j : Nat) (t : T) (v : Value), z[j]? = some t → zv.cells.toList[j]? = some v → RdT w X t v := by
            have hEmp : Inv C H w M X := hI
            exact toTs_nil (hzr w X M) hz
          obtain ⟨M', hI', hS', hv⟩ := newRow_lay (C := C) hI hS hid (e := e) (sz := te.sz) (len := nn) (cap := cn) (arr := madeCells zv.cells (cn * i.size)) (g := fun _ => z) hT.pos (by omega) (by simp [maxLen]; omega) (by rw [size_madeCells, his])
            (fun j hj => ⟨by rw [hzT.1]; simp [hzs], fun f t hf => by
              have hfl : f < te.sz := by have := (List.getElem?_eq_some_iff.1 hf).1; rw [hzT.1] at this; simpa [hzs] using this
              have hlt : j * te.sz + f < cn * te.sz := by
                have : (j + 1) * te.sz ≤ cn * te.sz := Nat.mul_le_mul_right _ (by omega)
                rw [Nat.add_mul] at this; omega
              have hmod : (j * te.sz + f) % zv.cells.size = f := by rw [hzs, Nat.add_comm, Nat.mul_comm, Nat.add_mul_mod_self_left, Nat.mod_eq_of_lt hfl]
              have hfz : f < zv.cells.size := by omega
              refine ⟨zv.cells[f], ?_, hzT.2 f t _ hf (by simp [hfz])⟩
              simp only [madeCells, his, Array.getElem?_map, Array.getElem?_range, hlt, if_true, Option.map_some, hmod]
              rw [getElem!_pos zv.cells f hfz]⟩)
          refine ⟨_, _, ⟨_, _, M', X, .inl ?_, hI', hS', hv, by simp, fun j hj => ?_⟩, h⟩
          · unfold execOp
            simp only [ho, ev_int hS hn, ev_int hS hc, Sem.run_bind, hr, Result.andThen_ok, Sem.run_pure]
          · by_cases hji : j = id
            · exact .inl ⟨hji, by rw [ho]; rfl⟩
            · rw [getB_set (getB_lt (by rw [hid]; simp)), if_neg hji]; exact .inr hj
        · exact h.elim
      · exact h.elim
    · exact h.elim
  · exact h.elim
end
end Sx

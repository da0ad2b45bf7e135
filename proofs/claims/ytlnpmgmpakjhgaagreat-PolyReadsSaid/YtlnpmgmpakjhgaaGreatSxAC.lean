/- A part of the proof of PolyReadsSaid: texts SxD SxE. -/
import Derived.Test.YtlnpmgmpakjhgaaGreatSxAB
set_option linter.all false
section
namespace Sx
open Go
variable {P : Program} {C : Ctx} {τ : TypeId → Option TI}
section
variable {s : Slots} {a : Act} {w : World} {M : Mp} {X : Nat → Prop} {H : List Blk}

theorem eqGuard_free {op : BinOp} {t : TypeId} {x y : Operand} {u v : Value} (h : ∀ cs ds, ¬ (u = .agg cs ∧ v = .agg ds)) (h' : ¬ (u = .nilIface ∧ v = .nilIface)) : (eqGuard op t x y u v).run P w = .ok () w := by
  unfold eqGuard
  cases op <;> first
    | rfl
    | (simp only [Bool.not_true, Bool.false_eq_true, if_false]
       cases u <;> first
         | rfl
         | (cases v <;> first | rfl | exact absurd ⟨rfl, rfl⟩ h' | exact absurd ⟨rfl, rfl⟩ (h _ _)))

theorem intOp_step {op : BinOp} {k : IntKind} {x y : Int} {K : L → Prop} (h : intOp q0 op k x y K) : ∃ (r : T) (v : Value), (∀ xT : TypeId, (binOp op xT (.int k x) (.int k y)).run P w = .ok v w) ∧ K (.t r) ∧ RdT w X r v := by
  cases op <;> simp only [intOp, q0] at h
  case add => exact ⟨_, .int k (k.wrap (x + y)), fun _ => by simp [binOp, Op.intArith], h, .int⟩
  case sub => exact ⟨_, .int k (k.wrap (x - y)), fun _ => by simp [binOp, Op.intArith], h, .int⟩
  case mul => exact ⟨_, .int k (k.wrap (x * y)), fun _ => by simp [binOp, Op.intArith], h, .int⟩
  case quo => cases h with | mk hb h => exact ⟨_, .int k (k.wrap (x.tdiv y)), fun _ => by simp [binOp, Op.intDiv, hb], h, .int⟩
  case rem => cases h with | mk hb h => exact ⟨_, .int k (x.tmod y), fun _ => by simp [binOp, Op.intDiv, hb], h, .int⟩
  case eql => exact ⟨_, .bool (x == y), fun _ => by simp [binOp, Op.intCmp], h, .bool⟩
  case neq => exact ⟨_, .bool (x != y), fun _ => by simp [binOp, Op.intCmp], h, .bool⟩
  case lss => exact ⟨_, .bool (decide (x < y)), fun _ => by simp [binOp, Op.intCmp], h, .bool⟩
  case leq => exact ⟨_, .bool (decide (x ≤ y)), fun _ => by simp [binOp, Op.intCmp], h, .bool⟩
  case gtr => exact ⟨_, .bool (decide (x > y)), fun _ => by simp [binOp, Op.intCmp], h, .bool⟩
  case geq => exact ⟨_, .bool (decide (x ≥ y)), fun _ => by simp [binOp, Op.intCmp], h, .bool⟩

theorem slice_neq {t e : TypeId} (ht : P.underlying t = some (.slice e)) (b : Option Addr) (l c : Nat) : (binOp .neq t (.slice b l c) (.slice none 0 0)).run P w = .ok (.bool (!b.isNone)) w := run_neq_slice_nil w t e b l c ht
theorem slice_eql {t e : TypeId} (ht : P.underlying t = some (.slice e)) (b : Option Addr) (l c : Nat) : (binOp .eql t (.slice b l c) (.slice none 0 0)).run P w = .ok (.bool b.isNone) w := by
  simp only [binOp]
  simp [run_equal_slice_nil w t e b l c ht]

theorem runOpBin_step (hτ : TabOk P τ) {op : BinOp} {xT : TypeId} {x y : AV} {vx vy : Value} (hx : RdA w X M x vx) (hy : RdA w X M y vy) {K : L → Prop} (h : runOpBin q0 ((τ xT).map (·.und)) op x y K) :
    ∃ (r : L) (v : Value), (binOp op xT vx vy).run P w = .ok v w ∧ K r ∧ RdL w X M r v ∧ (∀ cs ds, ¬ (vx = .agg cs ∧ vy = .agg ds)) ∧ ¬ (vx = .nilIface ∧ vy = .nilIface) := by
  unfold runOpBin at h
  split at h
  · rename_i k i k' j
    cases hx with | one hx => cases hx with | t hx => cases hx with | int =>
    cases hy with | one hy => cases hy with | t hy => cases hy with | int =>
    split at h
    · cases h with | mk hb h => exact ⟨_, _, by simp only [binOp, Op.shift]; rw [if_neg (by omega)]; rfl, h, .t .int, by simp, by simp⟩
    · cases h with | mk hb h => exact ⟨_, _, by simp only [binOp, Op.shift]; rw [if_neg (by omega)]; rfl, h, .t .int, by simp, by simp⟩
    · split at h
      · rename_i hk
        subst hk
        obtain ⟨r, v, hr, hK, hv⟩ := intOp_step (P := P) (w := w) (X := X) h
        exact ⟨_, v, hr xT, hK, .t hv, by simp, by simp⟩
      · exact h.elim
  · cases hx with | one hx => cases hx with | t hx => cases hx with | flt =>
    cases hy with | one hy => cases hy with | t hy => cases hy with | flt =>
    split at h
    · rename_i hk
      subst hk
      unfold fltOp at h
      cases h with | mk hb h =>
      obtain ⟨r, hr⟩ := Option.isSome_iff_exists.1 hb
      exact ⟨_, _, run_float_arith w op xT _ _ _ r hr, h, by simp only [q0, hr]; exact .t .flt, by simp, by simp⟩
    · exact h.elim
  · cases hx with | one hx => cases hx with | t hx => cases hx with | bool =>
    cases hy with | one hy => cases hy with | t hy => cases hy with | bool =>
    split at h
    · rename_i hu
      obtain ⟨ti, hti, htu⟩ := Option.map_eq_some_iff.1 hu
      obtain ⟨d, hd, _, hd'⟩ := (hτ _ _ hti).und
      rw [htu] at hd'
      simp only [UTOk] at hd'
      subst hd'
      exact ⟨_, _, run_eql_bool w xT _ _ hd, h, .t .bool, by simp, by simp⟩
    · rename_i hu
      obtain ⟨ti, hti, htu⟩ := Option.map_eq_some_iff.1 hu
      obtain ⟨d, hd, _, hd'⟩ := (hτ _ _ hti).und
      rw [htu] at hd'
      simp only [UTOk] at hd'
      subst hd'
      exact ⟨_, .bool (!(_ == _)), by simp only [binOp]; simp [run_equal_bool w xT _ _ hd, q0], h, .t .bool, by simp, by simp⟩
    · exact h.elim
  · cases hx with | one hx => cases hx with | t hx => cases hx with | str =>
    cases hy with | one hy => cases hy with | t hy => cases hy with | str =>
    split at h
    · exact ⟨_, _, by simp only [binOp, Op.stringOp]; rfl, h, .t .bool, by simp, by simp⟩
    · exact ⟨_, _, by simp only [binOp, Op.stringOp]; rfl, h, .t .bool, by simp, by simp⟩
    · cases h with | mk hb h =>
      refine ⟨_, _, ?_, h, .t .str, by simp, by simp⟩
      simp only [binOp, Op.stringOp]
      rw [if_neg (by simp [IntKind.max, IntKind.signed, IntKind.bits]; omega)]
      rfl
    · exact h.elim
  · rename_i sz n g
    cases hx with | one hx => cases hx with | t hx => cases hx with | sl ad cs hn hl hc hg hb hcell hr =>
    rename_i base len cap
    cases hy with | one hy => cases hy with | nil =>
    split at h
    · rename_i hu
      obtain ⟨ti, hti, htu⟩ := Option.map_eq_some_iff.1 hu
      obtain ⟨d, hd, _, hd'⟩ := (hτ _ _ hti).und
      rw [htu] at hd'
      simp only [UTOk] at hd'
      subst hd'
      cases h with | mk h =>
      exact ⟨_, _, slice_eql hd _ _ _, h base.isNone (fun hne => by rw [(hb (by omega)).1]; rfl), .t .bool, by simp, by simp⟩
    · rename_i hu
      obtain ⟨ti, hti, htu⟩ := Option.map_eq_some_iff.1 hu
      obtain ⟨d, hd, _, hd'⟩ := (hτ _ _ hti).und
      rw [htu] at hd'
      simp only [UTOk] at hd'
      subst hd'
      cases h with | mk h =>
      exact ⟨_, _, slice_neq hd _ _ _, h base.isNone (fun hne => by rw [(hb (by omega)).1]; rfl), .t .bool, by simp, by simp⟩
    · exact h.elim
  · cases hx with | one hx => cases hx with | nil =>
    cases hy with | one hy => cases hy with | nil =>
    split at h
    · rename_i hu
      obtain ⟨ti, hti, htu⟩ := Option.map_eq_some_iff.1 hu
      obtain ⟨d, hd, _, hd'⟩ := (hτ _ _ hti).und
      rw [htu] at hd'
      simp only [UTOk] at hd'
      subst hd'
      exact ⟨_, _, slice_eql hd _ _ _, h, .tt, by simp, by simp⟩
    · rename_i hu
      obtain ⟨ti, hti, htu⟩ := Option.map_eq_some_iff.1 hu
      obtain ⟨d, hd, _, hd'⟩ := (hτ _ _ hti).und
      rw [htu] at hd'
      simp only [UTOk] at hd'
      subst hd'
      exact ⟨_, _, slice_neq hd _ _ _, h, .ff, by simp, by simp⟩
    · exact h.elim
  · exact h.elim
end
end Sx
end

section
namespace Sx
open Go
variable {P : Program} {C : Ctx} {τ : TypeId → Option TI} {CN : CNt}
section
variable {s : Slots} {a : Act} {w : World} {M : Mp} {X : Nat → Prop} {H : List Blk}

theorem und_slice (hτ : TabOk P τ) {t e : TypeId} {ti : TI} (h : τ t = some ti) (hu : ti.und = .slice e) : P.underlying t = some (.slice e) := by
  obtain ⟨d, hd, _, hd'⟩ := (hτ _ _ h).und
  rw [hu] at hd'; simp only [UTOk] at hd'; rw [hd, hd']
theorem und_string (hτ : TabOk P τ) {t : TypeId} {ti : TI} (h : τ t = some ti) (hu : ti.und = .string) : P.underlying t = some .string := by
  obtain ⟨d, hd, _, hd'⟩ := (hτ _ _ h).und
  rw [hu] at hd'; simp only [UTOk] at hd'; rw [hd, hd']
theorem und_int (hτ : TabOk P τ) {t : TypeId} {k : IntKind} {ti : TI} (h : τ t = some ti) (hu : ti.und = .int k) : P.underlying t = some (.int k) := by
  obtain ⟨d, hd, _, hd'⟩ := (hτ _ _ h).und
  rw [hu] at hd'; simp only [UTOk] at hd'; rw [hd, hd']
theorem und_flt (hτ : TabOk P τ) {t : TypeId} {k : FloatKind} {ti : TI} (h : τ t = some ti) (hu : ti.und = .flt k) : P.underlying t = some (.float k) := by
  obtain ⟨d, hd, _, hd'⟩ := (hτ _ _ h).und
  rw [hu] at hd'; simp only [UTOk] at hd'; rw [hd, hd']
theorem elem_slice {t e : TypeId} (h : P.underlying t = some (.slice e)) : P.elem t = e := by simp [Program.elem, h]
theorem run_sizeOf {t : TypeId} {ti : TI} (hτ : TabOk P τ) (h : τ t = some ti) : (Go.sizeOf t).run P w = .ok ti.sz w := by
  obtain ⟨i, z, hi, hs, _⟩ := (hτ _ _ h).info
  simp [Go.sizeOf, typeInfo, hi, hs]
theorem run_isAgg {t : TypeId} {ti : TI} (hτ : TabOk P τ) (h : τ t = some ti) : (isAgg t).run P w = .ok ti.agg w := by
  obtain ⟨d, hd, ha, _⟩ := (hτ _ _ h).und
  unfold isAgg
  rw [Sem.run_bind, run_underlying hd, ha]
  cases d <;> rfl
theorem run_zero {t : TypeId} {ti : TI} (hτ : TabOk P τ) (h : τ t = some ti) : ∃ z, (zeroValue t).run P w = .ok z w ∧ z.cells.size = ti.sz ∧ ∀ w X M, RdLs w X M ti.zero z.cells.toList := by
  obtain ⟨i, z, hi, _, _, hz, hzs, hr⟩ := (hτ _ _ h).info
  exact ⟨z, by simp [zeroValue, typeInfo, hi, hz], hzs, hr⟩

theorem loadVar_rd (hτ : TabOk P τ) {t : TypeId} {ti : TI} (ht : τ t = some ti) {ad : Addr} {cs : List L} (hcs : ∀ (j : Nat) (l : L), cs[j]? = some l → ∃ v, w.cell? (ad.add j) = some v ∧ RdL w X M l v)
    {K : AV → Prop} (h : loadK ti cs K) : ∃ x v, (loadVar t ad).run P w = .ok v w ∧ RdA w X M x v ∧ K x := by
  unfold loadK at h
  split at h
  · rename_i hlen
    have hsz : ti.sz ≤ cs.length := by rw [List.length_take] at hlen; omega
    have hget : ∀ j, j < ti.sz → ∃ v, w.cell? (ad.add j) = some v ∧ ∀ l, cs[j]? = some l → RdL w X M l v := fun j hj => by
      obtain ⟨v, hv, hr⟩ := hcs j cs[j] (by simp [show j < cs.length by omega])
      refine ⟨v, hv, fun l hl => ?_⟩
      rw [List.getElem?_eq_getElem (by omega)] at hl
      cases hl
      exact hr
    have hch : ∃ f : Nat → Value, ∀ j, j < ti.sz → w.cell? (ad.add j) = some (f j) ∧ ∀ l, cs[j]? = some l → RdL w X M l (f j) :=
      ⟨fun j => (w.cell? (ad.add j)).getD undef, fun j hj => by
        obtain ⟨v, hv, hr⟩ := hget j hj
        exact ⟨by simp only [hv]; rfl, fun l hl => by simp only [hv]; exact hr l hl⟩⟩
    obtain ⟨f, hf⟩ := hch
    by_cases hag : ti.agg = true
    · have hl := run_loadCells_list (P := P) w ad ((List.range ti.sz).map f) (fun j v hv => by
        by_cases hj : j < ti.sz
        · simp [hj] at hv; subst hv; exact (hf j hj).1
        · simp [hj] at hv)
      simp only [List.length_map, List.length_range] at hl
      refine ⟨_, .agg ((List.range ti.sz).map f).toArray, ?_, ?_, h⟩
      · unfold loadVar
        simp only [Sem.run_bind, run_isAgg hτ ht, hag, Result.andThen_ok, if_true, run_sizeOf hτ ht, hl, Sem.run_pure]
      · simp only [asV, hag, if_true]
        refine .agg ⟨by simp [List.length_take]; omega, fun j l v hl hv => ?_⟩
        by_cases hj : j < ti.sz
        · simp [hj] at hv
          rw [List.getElem?_take, if_pos hj] at hl
          subst hv
          exact (hf j hj).2 l hl
        · simp [hj] at hv
    · have hz := (hτ _ _ ht).pos
      have hag' : ti.agg = false := by simpa using hag
      refine ⟨_, f 0, ?_, ?_, h⟩
      · unfold loadVar
        have h0 := (hf 0 hz).1
        rw [show ad.add 0 = ad from rfl] at h0
        simp [Sem.run_bind, run_isAgg hτ ht, hag', h0]
      · simp only [asV, hag', Bool.false_eq_true, if_false]
        refine .one ?_
        have h0 : cs[0]? = some cs[0] := by simp [show 0 < cs.length by omega]
        have : (cs.take ti.sz).getD 0 L.any = cs[0] := by
          rw [List.getD_eq_getElem?_getD, List.getElem?_take, if_pos hz, h0]; rfl
        rw [this]
        exact (hf 0 hz).2 _ h0
  · exact h.elim

theorem box_cells (hI : Inv C H w M X) {b : Nat} {p : Pl} {ty : TypeId} {cs : List L} (hp : M[b]? = some (.at p)) (hb : getB H b = .box ty cs) :
    ∃ arr, w.heap[p.b]? = some (.cells arr ty (0, 0)) ∧ RdLs w X M cs arr.toList := by
  have := hI.blk b _ hp
  rw [hb] at this
  cases this with | box h1 h2 => exact ⟨_, h1, h2⟩
theorem cell_at {b o : Nat} {arr : Array Value} {ty : TypeId} {fr : Nat × Nat} (h : w.heap[b]? = some (.cells arr ty fr)) (j : Nat) : w.cell? ((⟨b, o, none⟩ : Addr).add j) = arr[o + j]? := by
  have hadd : (⟨b, o, none⟩ : Addr).add j = ⟨b, o + j, none⟩ := by unfold Addr.add; split <;> simp_all
  rw [hadd, cell_of_row w b (o + j) arr ty fr h]

theorem newVar_lay (hI : Inv C H w M X) (hS : Sl s a w M X) {id : Nat} (hid : getB H id = .res) {t : TypeId} {v : Value} {cs : List L} (hcs : RdLs w X M cs v.cells.toList) :
    ∃ w' M' , (newVar t v).run P w = .ok ⟨w.heap.size, 0, none⟩ w' ∧ Inv C (H.set id (.box t cs)) w' M' X ∧ Sl s a w' M' X ∧ RdA w' X M' (.one (.bp id 0)) (.pointer (some ⟨w.heap.size, 0, none⟩)) := by
  obtain ⟨p, hp, hB⟩ := hI.has (id := id) (by rw [hid]; simp)
  rw [hid] at hB
  cases hB
  have hlt : id < M.length := (List.getElem?_eq_some_iff.1 hp).1
  have hnew : (w.alloc (.cells v.cells t)).heap[w.heap.size]? = some (.cells v.cells t (0, 0)) := heap_alloc_new w _
  have hs0 : Same w (w.alloc (.cells v.cells t)) X := fun b hb => Go.RowKit.Below.heap_alloc w _ b (hI.xlt b hb)
  have he0 := ext_set (M := M) (p := .at ⟨w.heap.size, 0, 0, 0⟩) hp
  obtain ⟨hI', hs, he⟩ := hI.lay hp (.cells v.cells t) ⟨w.heap.size, 0, 0, 0⟩ rfl (.box t cs) rfl (.box hnew (hcs.mono hs0 (fun _ h => h) he0))
  refine ⟨_, _, ?_, hI', hS.mono hs (fun _ h => h) he, .one (.bp (p := ⟨w.heap.size, 0, 0, 0⟩) (by simp [hlt]))⟩
  simp [newVar, newRow]

theorem ep_cells (hI : Inv C H w M X) {b : Nat} {p : Pl} {j f : Nat} (hp : M[b]? = some (.at p)) (hj : j < p.u) {g : Int → List T} {sz : Nat} (hb : (∃ ty n, getB H b = .sl ty sz n g) ∨ (∃ n, getB H b = .fz sz n g)) :
    (g j).length = sz ∧ p.sz = sz ∧ ∀ (k : Nat) (l : L), (((g j).drop f).map L.t)[k]? = some l → ∃ v, w.cell? ((⟨p.b, j * p.sz + f, none⟩ : Addr).add k) = some v ∧ RdL w X M l v := by
  have key : ∀ (arr : Array Value) (ty : TypeId), w.heap[p.b]? = some (.cells arr ty (0, 0)) → RdRow w X sz p.u g arr → p.sz = sz → (g j).length = sz ∧ p.sz = sz ∧ ∀ (k : Nat) (l : L), (((g j).drop f).map L.t)[k]? = some l → ∃ v, w.cell? ((⟨p.b, j * p.sz + f, none⟩ : Addr).add k) = some v ∧ RdL w X M l v := by
    intro arr ty h1 h2 h3
    obtain ⟨hlen, hr⟩ := h2 j hj
    refine ⟨hlen, h3, fun k l hl => ?_⟩
    simp only [List.getElem?_map, List.getElem?_drop, Option.map_eq_some_iff] at hl
    obtain ⟨t, ht, rfl⟩ := hl
    obtain ⟨v, hv, hrt⟩ := hr (f + k) t ht
    refine ⟨v, ?_, .t hrt⟩
    rw [cell_at h1, h3, ← hv]
    congr 1
    omega
  have := hI.blk b _ hp
  rcases hb with ⟨ty, n, hb⟩ | ⟨n, hb⟩ <;> rw [hb] at this
  · cases this with | sl h1 h2 h3 h4 h5 h6 h7 h8 => exact key _ _ h6 h8 h2
  · cases this with | fz h1 h2 h3 h4 h5 hx h6 h7 h8 => exact key _ _ h6 h8 h2
theorem RdAt.toL {ad : Addr} {cs : List T} (h : RdAt w X ad cs) (k : Nat) (l : L) (hl : (cs.map L.t)[k]? = some l) : ∃ v, w.cell? (ad.add k) = some v ∧ RdL w X M l v := by
  simp only [List.getElem?_map, Option.map_eq_some_iff] at hl
  obtain ⟨t, ht, rfl⟩ := hl
  obtain ⟨v, hv, hr⟩ := h.cell k t ht
  exact ⟨v, hv, .t hr⟩

theorem load_step (hτ : TabOk P τ) (hI : Inv C H w M X) (hS : Sl s a w M X) {o : Oper} {t : TypeId} {x : Operand} (ho : o.op = .load t x) {id : Nat} {K : AV → List Blk → Prop} (h : opRun CN q0 τ o.op s H id K) :
    ∃ v h', Stp P C s H id a w o v h' ∧ K v h' := by
  rw [ho] at h
  simp only [opRun] at h
  split at h
  · rename_i ti ht
    have run : ∀ ad v, a.eval x = .pointer (some ad) → (loadVar t ad).run P w = .ok v w → (execOp a.eval o).run P w = .ok (.value v) w := fun ad v hx hv => by
      unfold execOp
      simp only [ho, hx, Instr.loadAt, Instr.sureAddr, Sem.run_bind, Sem.run_pure, Result.andThen_ok, hv]
    split at h
    · rename_i b f hx
      have hxr := ev_one hS hx
      generalize hax : a.eval x = vx at hxr
      cases hxr with | bp hp =>
      rename_i p
      split at h
      · rename_i ty cs hb
        obtain ⟨arr, harr, hcs⟩ := box_cells hI hp hb
        obtain ⟨y, v, hr, hv, hK⟩ := loadVar_rd (P := P) (w := w) (X := X) (M := M) hτ ht (ad := ⟨p.b, f, none⟩) (fun j l hl => by
          rw [cell_at harr]
          rw [List.getElem?_drop] at hl
          have hlt : f + j < arr.size := by
            have := (List.getElem?_eq_some_iff.1 hl).1
            have := hcs.1
            simp at this
            omega
          exact ⟨arr[f + j], by simp [hlt], hcs.2 (f + j) l _ hl (by simp [hlt])⟩) h
        exact ⟨y, H, .still hI hS (run _ _ hax hr) hv, hK⟩
      · exact h.elim
    · rename_i b i f hx
      have hxr := ev_one hS hx
      generalize hax : a.eval x = vx at hxr
      cases hxr with | ep hp hi hj =>
      rename_i j p
      subst hi
      split at h
      · rename_i ty sz n g hb
        obtain ⟨_, _, hc⟩ := ep_cells hI hp hj (f := f) (.inl ⟨_, _, hb⟩)
        obtain ⟨y, v, hr, hv, hK⟩ := loadVar_rd (P := P) (w := w) (X := X) (M := M) hτ ht hc h
        exact ⟨y, H, .still hI hS (run _ _ hax hr) hv, hK⟩
      · rename_i sz n g hb
        obtain ⟨_, _, hc⟩ := ep_cells hI hp hj (f := f) (.inr ⟨_, hb⟩)
        obtain ⟨y, v, hr, hv, hK⟩ := loadVar_rd (P := P) (w := w) (X := X) (M := M) hτ ht hc h
        exact ⟨y, H, .still hI hS (run _ _ hax hr) hv, hK⟩
      · exact h.elim
    · rename_i cs hx
      have hxr := ev_one hS hx
      generalize hax : a.eval x = vx at hxr
      cases hxr with | fp hp =>
      obtain ⟨y, v, hr, hv, hK⟩ := loadVar_rd (P := P) (w := w) (X := X) (M := M) hτ ht (hp.toL) h
      exact ⟨y, H, .still hI hS (run _ _ hax hr) hv, hK⟩
    · exact h.elim
  · exact h.elim
end
end Sx
end

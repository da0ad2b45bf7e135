/- A part of the proof of PolyReadsSaid: texts SxH SxI. -/
import Derived.Test.YtlnpmgmpakjhgaaGreatSxAE
set_option linter.all false
section
namespace Sx
open Go
variable {P : Program} {C : Ctx} {τ : TypeId → Option TI} {CN : CNt}
section
variable {s : Slots} {a : Act} {w : World} {M : Mp} {X : Nat → Prop} {H : List Blk}

theorem rowsGo_fill (hI : Inv C H w M X) (hS : Sl s a w M X) {sz len : Nat} (hsz : 0 < sz) :
    ∀ (ps : List (Nat × Operand)) (rows : List (List T)) (cells : Array Value) (out : List (List T)), rows.length = len → cells.size = len * sz →
      RdRow w X sz len (fun i => rows.getD i.toNat []) cells → rowsGo H s sz rows ps = some out → (∀ x ∈ ps, x.1 < len) →
      ∃ cells', Instr.fill (fun i => some (i * sz, sz)) cells (ps.map fun (i, x) => (i, a.eval x)) = some cells' ∧ cells'.size = len * sz ∧ RdRow w X sz len (fun i => out.getD i.toNat []) cells'
  | [], rows, cells, out, _, hc, hr, h, _ => by
    simp only [rowsGo, Option.some.injEq] at h
    subst h
    exact ⟨cells, rfl, hc, hr⟩
  | (i, x) :: ps, rows, cells, out, hrl, hc, hr, h, hlt => by
    simp only [rowsGo] at h
    split at h
    · rename_i ts hts
      split at h
      · rename_i hlen
        have hi : i < len := hlt (i, x) (by simp)
        have hx : RdLs w X M (cellsOf (ev s x)) (a.eval x).cells.toList := cells_rd (hS.ev x) (fun xs hxs => by rw [hxs] at hts; simp [cellsOf, toTs] at hts; subst hts; simp at hlen; omega)
          (fun l hl ha => by rw [hl] at hts; subst ha; simp [cellsOf, toTs, toT] at hts)
        obtain ⟨hle, hrd⟩ := toTs_rd hI hx hts
        have hvs : (a.eval x).cells.size = sz := by rw [← hlen, hle]; simp
        have hfit : i * sz + sz ≤ cells.size := by rw [hc, ← Nat.succ_mul]; exact Nat.mul_le_mul_right _ hi
        obtain ⟨cells', he, hs', hg⟩ := fill_step (cells := cells) (i := i) (place := fun i => some (i * sz, sz)) (rest := ps.map fun (i, x) => (i, a.eval x)) rfl hvs hfit
        obtain ⟨c2, h2, s2, r2⟩ := rowsGo_fill hI hS hsz ps (rows.set i ts) cells' out (by simpa using hrl) (by rw [hs', hc]) (fun j hj => by
          simp only [Int.toNat_natCast, List.getD_eq_getElem?_getD, List.getElem?_set]
          by_cases hij : i = j
          · subst hij
            rw [if_pos rfl, if_pos (by omega)]
            refine ⟨hlen, fun f t hf => ?_⟩
            have hfl : f < sz := by rw [← hlen]; exact (List.getElem?_eq_some_iff.1 hf).1
            refine ⟨(a.eval x).cells[f], ?_, hrd f t _ hf (by simp [hvs, hfl])⟩
            rw [hg, if_pos (by omega), show i * sz + f - i * sz = f by omega]
            simp [hvs, hfl]
          · rw [if_neg hij]
            have := hr j hj
            simp only [Int.toNat_natCast, List.getD_eq_getElem?_getD] at this
            refine ⟨this.1, fun f t hf => ?_⟩
            obtain ⟨v, hv, hrt⟩ := this.2 f t hf
            have hfl : f < sz := by rw [← this.1]; exact (List.getElem?_eq_some_iff.1 hf).1
            refine ⟨v, ?_, hrt⟩
            rw [hg, if_neg ?_]
            · exact hv
            · rintro ⟨c1, c2⟩
              rcases Nat.lt_or_gt_of_ne hij with hlt' | hgt
              · have : (i + 1) * sz ≤ j * sz := Nat.mul_le_mul_right _ hlt'
                rw [Nat.add_mul] at this; omega
              · have : (j + 1) * sz ≤ i * sz := Nat.mul_le_mul_right _ hgt
                rw [Nat.add_mul] at this; omega) h (fun y hy => hlt y (by simp [hy]))
        exact ⟨c2, by simp only [List.map_cons]; rw [he]; exact h2, s2, r2⟩
      · cases h
    · cases h

theorem buildSlice_step (hτ : TabOk P τ) (hI : Inv C H w M X) (hS : Sl s a w M X) {o : Oper} {t : TypeId} {len : Nat} {ps : Array (Nat × Operand)} (ho : o.op = .buildSlice t len ps) {id : Nat} (hid : getB H id = .res) {K : AV → List Blk → Prop} (h : opRun CN q0 τ o.op s H id K) :
    ∃ v h', Stp P C s H id a w o v h' ∧ K v h' := by
  rw [ho] at h
  simp only [opRun] at h
  split at h
  · rename_i ti ht
    split at h
    · rename_i e hu
      split at h
      · rename_i te hte
        split at h
        · rename_i z hz
          split at h
          · rename_i rows hrows
            split at h
            · rename_i hlen
              obtain ⟨hcap, hidx⟩ := hlen
              have hT := hτ _ _ hte
              obtain ⟨i, zv, hi, his, hib, hiz, hzs, hzr⟩ := hT.info
              have hzT := toTs_nil (hzr w X M) hz
              have hrow0 : RdRow w X te.sz len (fun i => (List.replicate len z).getD i.toNat []) (madeCells zv.cells (len * te.sz)) := fun j hj => by
                simp only [Int.toNat_natCast, List.getD_eq_getElem?_getD, List.getElem?_replicate, hj, if_true, Option.getD_some]
                refine ⟨by rw [hzT.1]; simp [hzs], fun f t hf => ?_⟩
                have hfl : f < te.sz := by have := (List.getElem?_eq_some_iff.1 hf).1; rw [hzT.1] at this; simpa [hzs] using this
                have hlt : j * te.sz + f < len * te.sz := by
                  have : (j + 1) * te.sz ≤ len * te.sz := Nat.mul_le_mul_right _ (by omega)
                  rw [Nat.add_mul] at this; omega
                have hmod : (j * te.sz + f) % zv.cells.size = f := by rw [hzs, Nat.add_comm, Nat.mul_comm, Nat.add_mul_mod_self_left, Nat.mod_eq_of_lt hfl]
                have hfz : f < zv.cells.size := by omega
                refine ⟨zv.cells[f], ?_, hzT.2 f t _ hf (by simp [hfz])⟩
                simp only [madeCells, Array.getElem?_map, Array.getElem?_range, hlt, if_true, Option.map_some, hmod]
                rw [getElem!_pos zv.cells f hfz]
              obtain ⟨cells', hfill, hcs, hr⟩ := rowsGo_fill (a := a) hI hS hT.pos ps.toList (List.replicate len z) (madeCells zv.cells (len * te.sz)) rows (by simp) (size_madeCells _ _) hrow0 hrows
                (fun x hx => by
                  have := List.all_eq_true.1 hidx x hx
                  simpa using this)
              obtain ⟨M', hI', hS', hv⟩ := newRow_lay (C := C) hI hS hid (e := e) (sz := te.sz) (len := len) (cap := len) (arr := cells') (g := fun i => rows.getD i.toNat []) hT.pos (Nat.le_refl _) (by have := hT.pos; have : len ≤ len * te.sz := Nat.le_mul_of_pos_right _ hT.pos; simp [maxLen]; omega) hcs hr
              refine ⟨_, _, ⟨_, _, M', X, .inl ?_, hI', hS', hv, by simp, fun j hj => ?_⟩, h⟩
              · unfold execOp
                simp only [ho, Sem.run_bind, Instr.buildSlice, run_underlying (und_slice hτ ht hu), Result.andThen_ok, run_sizeOf hτ hte]
                rw [if_neg (by omega)]
                have hz0 : (zeroValue e).run P w = .ok zv w := by simp [zeroValue, typeInfo, hi, hiz]
                by_cases hn : len * te.sz = 0
                · have hl0 : len = 0 := by
                    rcases Nat.mul_eq_zero.1 hn with h0 | h0
                    · exact h0
                    · have := hT.pos; omega
                  subst hl0
                  simp only [Nat.zero_mul, if_true, Sem.run_bind, Sem.run_pure, Result.andThen_ok]
                  have hm : (Array.map (fun x => (#[] : Array Value)[x % (#[] : Array Value).size]!) (Array.range 0)) = madeCells zv.cells (0 * te.sz) := by simp [madeCells]
                  rw [hm, zip_parts, hfill]
                  simp [newRow]
                · simp only [hn, if_false, Sem.run_bind, hz0, Result.andThen_ok, Sem.run_pure]
                  rw [zip_parts]
                  have hm : (Array.map (fun x => zv.cells[x % zv.cells.size]!) (Array.range (len * te.sz))) = madeCells zv.cells (len * te.sz) := rfl
                  rw [hm, hfill]
                  simp [newRow]
              · by_cases hji : j = id
                · exact .inl ⟨hji, by rw [ho]; rfl⟩
                · rw [getB_set (getB_lt (by rw [hid]; simp)), if_neg hji]; exact .inr hj
            · exact h.elim
          · exact h.elim
        · exact h.elim
      · exact h.elim
    · exact h.elim
  · exact h.elim
end
end Sx
end

section
namespace Sx
open Go
variable {P : Program} {C : Ctx} {τ : TypeId → Option TI}
section
variable {s : Slots} {a : Act} {w : World} {M : Mp} {X : Nat → Prop} {H : List Blk}

theorem optInt_ev (hS : Sl s a w M X) (x : Option Operand) : match optInt s x with
    | none => x.map a.eval = none
    | some none => True
    | some (some n) => ∃ k, x.map a.eval = some (.int k n) := by
  cases x with
  | none => rfl
  | some x =>
    unfold optInt
    simp only
    split
    · rename_i e
      split at e
      · cases e
      · cases e
    · trivial
    · rename_i n e
      split at e
      · rename_i k m hx
        cases e
        exact ⟨k, by simp [ev_int hS hx]⟩
      · cases e

theorem blkIs_sz (hI : Inv C H w M X) {id esz : Nat} {p : Pl} (hp : M[id]? = some (.at p)) (h : blkIs H id esz = true) : p.sz = esz := by
  unfold blkIs at h
  have hB := hI.blk id _ hp
  split at h
  · rename_i hb
    rw [hb] at hB
    cases hB with | sl h1 h2 h3 h4 h5 h6 h7 h8 => simp at h; omega
  · rename_i hb
    rw [hb] at hB
    cases hB with | fz h1 h2 h3 h4 h5 hx h6 h7 h8 => simp at h; omega
  · cases h
theorem addr_add_add (a : Addr) (m n : Nat) : (a.add m).add n = a.add (m + n) := by
  unfold Addr.add
  by_cases h1 : m = 0
  · subst h1; simp
  · by_cases h2 : n = 0
    · subst h2; simp [h1]
    · simp [h1, h2, show m + n ≠ 0 by omega]; omega
theorem sl_cut {sz : Nat} {n : Int} {g : Int → List T} {v : Value} (h : RdT w X (.sl sz n g) v) : ∃ base len cap, v = .slice base len cap ∧ n = (len : Int) ∧ len ≤ cap ∧
    ∀ (l h' m : Nat), l ≤ h' → h' ≤ m → m ≤ cap → h' ≤ len → RdT w X (.sl sz ((h' : Int) - l) (fun i => g (l + i))) (sliced base l h' m sz) ∧ (l = 0 → RdT w X (.sl sz h' g) (sliced base l h' m sz)) := by
  cases h with | sl ad cs hn hl hc hg hb hcell hr =>
  rename_i base len cap
  refine ⟨base, len, cap, rfl, hn, hl, fun l h' m h1 h2 h3 h4 => ?_⟩
  have key : RdT w X (.sl sz ((h' : Int) - l) (fun i => g (l + i))) (sliced base l h' m sz) := by
    unfold sliced
    refine .sl (ad.add (l * sz)) (fun i f => cs (l + i) f) (by omega) (by omega) (by omega) (fun i hi => ?_) (fun h0 => ?_) (fun i f hi hf => ?_) (fun i f t hi hft => ?_)
    · have := hg (l + i) (by omega)
      simpa using this
    · rw [if_neg (by omega), (hb (by omega)).1]
      exact ⟨rfl, by rw [add_block]; exact (hb (by omega)).2⟩
    · have := hcell (l + i) f (by omega) hf
      rw [← this]
      congr 1
      rw [addr_add_add]
      congr 1
      rw [Nat.add_mul]; omega
    · have e : ((l : Int) + (i : Int)) = ((l + i : Nat) : Int) := by omega
      simp only [e] at hft
      exact hr (l + i) f t (by omega) hft
  refine ⟨key, fun h0 => ?_⟩
  subst h0
  simpa using key

theorem isZ_spec {x : Option Operand} (h : isZ x = true) : ∃ k, x.map a.eval = some (.int k 0) := by
  unfold isZ at h
  split at h
  · rename_i k n
    simp at h
    subst h
    exact ⟨k, rfl⟩
  · cases h
theorem empOp_step (hτ : TabOk P τ) {t e : TypeId} {ti te : TI} (ht : τ t = some ti) (hu : ti.und = .slice e) (hte : τ e = some te) {x : AV} {vx : Value} (hx : RdA w X M x vx) {lo hi mx : Option Operand} (hz : zeroB lo hi mx = true) {K : L → Prop}
    (h : empOp te.sz x K) : ∃ r v, (Instr.sliceAt t vx (lo.map a.eval) (hi.map a.eval) (mx.map a.eval)).run P w = .ok v w ∧ RdL w X M r v ∧ K r := by
  have hus := und_slice hτ ht hu
  have hel : P.elem t = e := elem_slice hus
  have hus' : P.underlying t = some (.slice (P.elem t)) := by rw [hel]; exact hus
  have hszr : (Go.sizeOf (P.elem t)).run P w = .ok te.sz w := by rw [hel]; exact run_sizeOf hτ hte
  rw [run_sliceAt_slice w t _ _ _ _ hus']
  simp only [zeroB, Bool.and_eq_true, Option.isNone_iff_eq_none] at hz
  obtain ⟨⟨hlo, hhi⟩, hmx⟩ := hz
  obtain ⟨kh, hhi⟩ := isZ_spec (a := a) hhi
  obtain ⟨km, hmx⟩ := isZ_spec (a := a) hmx
  subst hlo
  unfold empOp at h
  split at h
  · rename_i sz n g
    cases hx with | one hx => cases hx with | t hx =>
    cases hx with | sl ad cs h1 h2 h3 h4 h5 h6 h7 =>
    rename_i base len cap
    split at h
    · rw [hhi, hmx]
      have := run_slice_hm w t base len cap hus' kh km 0 0 (by omega) (by omega) (by omega)
      simp only [Option.map_none] at this ⊢
      rw [this, hszr]
      refine ⟨_, _, rfl, ?_, h⟩
      have e0 : sliced base 0 0 0 te.sz = .slice base 0 0 := by unfold sliced; simp
      show RdL w X M .emp (sliced base 0 0 0 te.sz)
      rw [e0]
      exact .emp
    · exact h.elim
  · exact h.elim

theorem sliceOp_step (hτ : TabOk P τ) {t e : TypeId} {ti te : TI} (ht : τ t = some ti) (hu : ti.und = .slice e) (hte : τ e = some te) (hS : Sl s a w M X) (hI : Inv C H w M X) {x : AV} {vx : Value} (hx : RdA w X M x vx) (lo hi mx : Option Operand) {K : L → Prop}
    (h : sliceOp q0 H te.sz x (optInt s lo) (optInt s hi) (optInt s mx) K) : ∃ r v, (Instr.sliceAt t vx (lo.map a.eval) (hi.map a.eval) (mx.map a.eval)).run P w = .ok v w ∧ RdL w X M r v ∧ K r := by
  have hus := und_slice hτ ht hu
  have hel : P.elem t = e := elem_slice hus
  have hus' : P.underlying t = some (.slice (P.elem t)) := by rw [hel]; exact hus
  have hszr : (Go.sizeOf (P.elem t)).run P w = .ok te.sz w := by rw [hel]; exact run_sizeOf hτ hte
  rw [run_sliceAt_slice w t _ _ _ _ hus']
  have hlo := optInt_ev hS lo
  have hhi := optInt_ev hS hi
  have hmx := optInt_ev hS mx
  unfold sliceOp at h
  split at h
  · rename_i sz n g
    cases hx with | one hx => cases hx with | t hx =>
    obtain ⟨base, len, cap, rfl, hn, hlc, hcut⟩ := sl_cut hx
    split at h
    · rename_i hsz
      subst hsz
      split at h
      · rename_i e1 e2 e3
        rw [e1] at hlo; rw [e2] at hhi; rw [e3] at hmx
        simp only at hlo hhi hmx
        rw [hlo, hhi, hmx, run_slice_all w t base len cap hus', hszr]
        obtain ⟨_, h0⟩ := hcut 0 len cap (by omega) (by omega) (by omega) (by omega)
        exact ⟨_, _, rfl, .t (by rw [hn]; exact h0 rfl), h⟩
      · rename_i hh e1 e2 e3
        rw [e1] at hlo; rw [e2] at hhi; rw [e3] at hmx
        obtain ⟨kh, hhi⟩ := hhi
        simp only at hlo hmx
        cases h with | mk hb h =>
        obtain ⟨b1, b2⟩ := hb
        obtain ⟨hn', rfl⟩ := Int.eq_ofNat_of_zero_le b1
        rw [hlo, hhi, hmx, run_slice_h w t base len cap hus' kh hn' (by omega) (by omega), hszr]
        obtain ⟨_, h0⟩ := hcut 0 hn' cap (by omega) (by omega) (by omega) (by omega)
        exact ⟨_, _, rfl, .t (h0 rfl), h⟩
      · rename_i ll e1 e2 e3
        rw [e1] at hlo; rw [e2] at hhi; rw [e3] at hmx
        obtain ⟨kl, hlo⟩ := hlo
        simp only at hhi hmx
        cases h with | mk hb h =>
        obtain ⟨b1, b2⟩ := hb
        obtain ⟨ln, rfl⟩ := Int.eq_ofNat_of_zero_le b1
        rw [hlo, hhi, hmx, run_slice_l w t base len cap hus' kl ln (by omega) (by omega), hszr]
        obtain ⟨h0, _⟩ := hcut ln len cap (by omega) (by omega) (by omega) (by omega)
        exact ⟨_, _, rfl, .t (by rw [hn]; exact h0), h⟩
      · rename_i ll hh e1 e2 e3
        rw [e1] at hlo; rw [e2] at hhi; rw [e3] at hmx
        obtain ⟨kl, hlo⟩ := hlo
        obtain ⟨kh, hhi⟩ := hhi
        simp only at hmx
        cases h with | mk hb h =>
        obtain ⟨b1, b2, b3⟩ := hb
        obtain ⟨ln, rfl⟩ := Int.eq_ofNat_of_zero_le b1
        obtain ⟨hn', rfl⟩ := Int.eq_ofNat_of_zero_le (show 0 ≤ hh by omega)
        rw [hlo, hhi, hmx, run_slice_lh w t base len cap hus' kl kh ln hn' (by omega) (by omega) (by omega), hszr]
        obtain ⟨h0, _⟩ := hcut ln hn' cap (by omega) (by omega) (by omega) (by omega)
        exact ⟨_, _, rfl, .t h0, h⟩
      · rename_i hh mm e1 e2 e3
        rw [e1] at hlo; rw [e2] at hhi; rw [e3] at hmx
        obtain ⟨kh, hhi⟩ := hhi
        obtain ⟨km, hmx⟩ := hmx
        simp only at hlo
        cases h with | mk hb h =>
        obtain ⟨b1, b2, b3⟩ := hb
        obtain ⟨hn', rfl⟩ := Int.eq_ofNat_of_zero_le b1
        obtain ⟨mn, rfl⟩ := Int.eq_ofNat_of_zero_le (show 0 ≤ mm by omega)
        rw [hlo, hhi, hmx, run_slice_hm w t base len cap hus' kh km hn' mn (by omega) (by omega) (by omega), hszr]
        obtain ⟨_, h0⟩ := hcut 0 hn' mn (by omega) (by omega) (by omega) (by omega)
        exact ⟨_, _, rfl, .t (h0 rfl), h⟩
      · exact h.elim
    · exact h.elim
  · rename_i id n
    cases hx with | one hx =>
    split at h
    · rename_i hblk
      have hfin : ∀ (base : Option Addr) (len cap : Nat), vx = .slice base len cap → n = (len : Int) → len ≤ cap →
          (∀ l h' m : Nat, l ≤ h' → h' ≤ len → m = cap → (l = 0 → RdL w X M (.row id h') (sliced base l h' m te.sz)) ∧ RdL w X M (.sub id l ((h' : Int) - l)) (sliced base l h' m te.sz)) →
          ∃ r v, (Instr.slice t vx (lo.map a.eval) (hi.map a.eval) (mx.map a.eval)).run P w = .ok v w ∧ RdL w X M r v ∧ K r := by
        intro base len cap hv hn hlc hcut
        subst hv
        split at h
        · rename_i e1 e2 e3
          rw [e1] at hlo; rw [e2] at hhi; rw [e3] at hmx
          simp only at hlo hhi hmx
          rw [hlo, hhi, hmx, run_slice_all w t base len cap hus', hszr]
          exact ⟨_, _, rfl, by rw [hn]; exact (hcut 0 len cap (by omega) (by omega) rfl).1 rfl, h⟩
        · rename_i hh e1 e2 e3
          rw [e1] at hlo; rw [e2] at hhi; rw [e3] at hmx
          obtain ⟨kh, hhi⟩ := hhi
          simp only at hlo hmx
          cases h with | mk hb h =>
          obtain ⟨b1, b2⟩ := hb
          obtain ⟨hn', rfl⟩ := Int.eq_ofNat_of_zero_le b1
          rw [hlo, hhi, hmx, run_slice_h w t base len cap hus' kh hn' (by omega) (by omega), hszr]
          exact ⟨_, _, rfl, (hcut 0 hn' cap (by omega) (by omega) rfl).1 rfl, h⟩
        · rename_i ll e1 e2 e3
          rw [e1] at hlo; rw [e2] at hhi; rw [e3] at hmx
          obtain ⟨kl, hlo⟩ := hlo
          simp only at hhi hmx
          cases h with | mk hb h =>
          obtain ⟨b1, b2⟩ := hb
          obtain ⟨ln, rfl⟩ := Int.eq_ofNat_of_zero_le b1
          rw [hlo, hhi, hmx, run_slice_l w t base len cap hus' kl ln (by omega) (by omega), hszr]
          exact ⟨_, _, rfl, by rw [hn]; exact (hcut ln len cap (by omega) (by omega) rfl).2, h⟩
        · rename_i ll hh e1 e2 e3
          rw [e1] at hlo; rw [e2] at hhi; rw [e3] at hmx
          obtain ⟨kl, hlo⟩ := hlo
          obtain ⟨kh, hhi⟩ := hhi
          simp only at hmx
          cases h with | mk hb h =>
          obtain ⟨b1, b2, b3⟩ := hb
          obtain ⟨ln, rfl⟩ := Int.eq_ofNat_of_zero_le b1
          obtain ⟨hn', rfl⟩ := Int.eq_ofNat_of_zero_le (show 0 ≤ hh by omega)
          rw [hlo, hhi, hmx, run_slice_lh w t base len cap hus' kl kh ln hn' (by omega) (by omega) (by omega), hszr]
          exact ⟨_, _, rfl, (hcut ln hn' cap (by omega) (by omega) rfl).2, h⟩
        · exact h.elim
      cases hx with
      | row0 hp =>
        rename_i base
        refine hfin base 0 0 rfl rfl (Nat.le_refl _) (fun l h' m h1 h2 h3 => ?_)
        obtain rfl : h' = 0 := by omega
        obtain rfl : l = 0 := by omega
        subst h3
        have e0 : sliced base 0 0 0 te.sz = .slice base 0 0 := by unfold sliced; cases base <;> simp [Addr.add]
        rw [e0]
        exact ⟨fun _ => .row0 hp, .sub0 hp (by simp)⟩
      | row hp hn hl hcu hcm =>
        rename_i p len
        have hpsz : p.sz = te.sz := by
          exact blkIs_sz hI hp hblk
        refine hfin _ len p.c rfl hn (by omega) (fun l h' m h1 h2 h3 => ?_)
        subst h3
        refine ⟨fun h0 => ?_, ?_⟩
        · subst h0
          have : sliced (some ⟨p.b, 0, none⟩) 0 h' p.c te.sz = .slice (some ⟨p.b, 0, none⟩) h' p.c := by
            unfold sliced
            split <;> simp [Addr.add]
          rw [this]
          exact .row hp rfl (by omega) hcu hcm
        · unfold sliced
          refine .sub (p := p) (o := l) hp rfl (by omega) (by omega) (by omega) (by omega) (fun h0 => ?_)
          rw [if_neg (by omega), hpsz]
          have : (⟨p.b, 0, none⟩ : Addr).add (l * te.sz) = ⟨p.b, l * te.sz, none⟩ := by unfold Addr.add; split <;> simp_all
          simp [this]
    · exact h.elim
  · exact h.elim
end
end Sx
end

/- A part of the proof of PolyReadsSaid: texts SxJ SxK. -/
import Derived.Test.YtlnpmgmpakjhgaaGreatSxAF
set_option linter.all false
section
namespace Sx
open Go
variable {P : Program} {C : Ctx} {τ : TypeId → Option TI} {CN : CNt}
section
variable {s : Slots} {a : Act} {w : World} {M : Mp} {X : Nat → Prop} {H : List Blk}

theorem strSliceOp_step {t : TypeId} (ht : P.underlying t = some .string) (hS : Sl s a w M X) {x : AV} {vx : Value} (hx : RdA w X M x vx) (lo hi mx : Option Operand) {K : L → Prop}
    (h : strSliceOp q0 x (optInt s lo) (optInt s hi) (optInt s mx) K) : ∃ r v, (Instr.sliceAt t vx (lo.map a.eval) (hi.map a.eval) (mx.map a.eval)).run P w = .ok v w ∧ RdL w X M r v ∧ K r := by
  rw [run_sliceAt_string w t _ _ _ _ ht]
  have hlo := optInt_ev hS lo
  have hhi := optInt_ev hS hi
  have hmx := optInt_ev hS mx
  unfold strSliceOp at h
  split at h
  · rename_i b
    cases hx with | one hx => cases hx with | t hx => cases hx with | str =>
    split at h
    · rename_i e1 e2 e3
      rw [e1] at hlo; rw [e2] at hhi; rw [e3] at hmx
      simp only at hlo hhi hmx
      rw [hlo, hhi, hmx, run_slice_string_all w t b ht]
      have : b.extract 0 b.size = b := ByteArray.extract_zero_size
      rw [this]
      exact ⟨_, _, rfl, .t .str, h⟩
    · rename_i hh e1 e2 e3
      rw [e1] at hlo; rw [e2] at hhi; rw [e3] at hmx
      obtain ⟨kh, hhi⟩ := hhi
      simp only at hlo hmx
      cases h with | mk hb h =>
      rw [hlo, hhi, hmx, run_slice_string_h w t b ht kh hh (by omega) (by omega)]
      exact ⟨_, _, rfl, .t .str, h⟩
    · rename_i ll e1 e2 e3
      rw [e1] at hlo; rw [e2] at hhi; rw [e3] at hmx
      obtain ⟨kl, hlo⟩ := hlo
      simp only at hhi hmx
      cases h with | mk hb h =>
      rw [hlo, hhi, hmx, run_slice_string_l w t b ht kl ll (by omega) (by omega)]
      exact ⟨_, _, rfl, .t .str, h⟩
    · rename_i ll hh e1 e2 e3
      rw [e1] at hlo; rw [e2] at hhi; rw [e3] at hmx
      obtain ⟨kl, hlo⟩ := hlo
      obtain ⟨kh, hhi⟩ := hhi
      simp only at hmx
      cases h with | mk hb h =>
      obtain ⟨b1, b2, b3⟩ := hb
      refine ⟨_, .string (b.extract ll.toNat hh.toNat), ?_, .t .str, h⟩
      rw [hlo, hhi, hmx]
      have eh : (hh.toNat : Int) = hh := Int.toNat_of_nonneg (by omega)
      simp [Instr.slice, run_underlying ht, Instr.sliceBounds, Instr.sliceBound, asIntOf, *, show 0 ≤ ll by omega, show 0 ≤ hh by omega]
    · exact h.elim
  · exact h.elim

theorem fieldPlace_run (hτ : TabOk P τ) {f : Field} {ad : Addr} {i : TypeInfo} (hi : P.info? f.type = some i) (hs : 0 < i.size) : (fieldPlace ad f).run P w = .ok (ad.add f.offset) w := by
  unfold fieldPlace
  have : (Go.sizeOf f.type).run P w = .ok i.size w := by simp [Go.sizeOf, typeInfo, hi]
  simp only [Sem.run_bind, this, Result.andThen_ok]
  rw [if_neg (by omega)]
  rfl
theorem fieldAddr_step (hτ : TabOk P τ) (hI : Inv C H w M X) (hS : Sl s a w M X) {o : Oper} {t : TypeId} {x : Operand} {f : Nat} (ho : o.op = .fieldAddr t x f) {id : Nat} {K : AV → List Blk → Prop} (h : opRun CN q0 τ o.op s H id K) :
    ∃ v h', Stp P C s H id a w o v h' ∧ K v h' := by
  rw [ho] at h
  simp only [opRun] at h
  split at h
  · rename_i ti ht
    split at h
    · rename_i fs hu
      split at h
      · rename_i off sz ag hfs
        obtain ⟨d, hd, _, hd'⟩ := (hτ _ _ ht).und
        rw [hu] at hd'
        obtain ⟨fields, rfl, hfl, hfd⟩ := hd'
        have hlt : f < fields.size := by have := (List.getElem?_eq_some_iff.1 hfs).1; omega
        obtain ⟨hoff, ⟨i, hi, his, hpos⟩, _⟩ := hfd f fields[f] off sz ag (by simp [hlt]) hfs
        have run : ∀ ad, a.eval x = .pointer (some ad) → (execOp a.eval o).run P w = .ok (.value (.pointer (some (ad.add off)))) w := fun ad hx => by
          unfold execOp
          simp only [ho, hx, Instr.fieldAt, Sem.run_bind, run_underlying hd, Result.andThen_ok, Instr.sureAddr, Sem.run_pure]
          have hg : fields[f]? = some fields[f] := by simp [hlt]
          simp only [hg, Sem.run_bind, Sem.run_pure, Result.andThen_ok, fieldPlace_run (P := P) (w := w) hτ hi (by omega), hoff]
        split at h
        · rename_i b k hx
          have hxr := ev_one hS hx
          generalize hax : a.eval x = vx at hxr
          cases hxr with | bp hp =>
          rename_i p
          have e : (⟨p.b, k, none⟩ : Addr).add off = ⟨p.b, k + off, none⟩ := by unfold Addr.add; split <;> simp_all
          exact ⟨_, H, .still hI hS (run _ hax) (.one (by rw [e]; exact .bp hp)), h⟩
        · rename_i b i' k hx
          have hxr := ev_one hS hx
          generalize hax : a.eval x = vx at hxr
          cases hxr with | ep hp hi' hj =>
          rename_i j p
          have e : (⟨p.b, j * p.sz + k, none⟩ : Addr).add off = ⟨p.b, j * p.sz + (k + off), none⟩ := by unfold Addr.add; split <;> simp_all; omega
          exact ⟨_, H, .still hI hS (run _ hax) (.one (by rw [e]; exact .ep hp hi' hj)), h⟩
        · rename_i cs hx
          have hxr := ev_one hS hx
          generalize hax : a.eval x = vx at hxr
          cases hxr with | fp hp =>
          refine ⟨_, H, .still hI hS (run _ hax) (.one (.fp ⟨by rw [add_block]; exact hp.blk, fun j t hj => ?_⟩)), h⟩
          rw [List.getElem?_drop] at hj
          obtain ⟨v, hv, hr⟩ := hp.cell (off + j) t hj
          exact ⟨v, by rw [addr_add_add]; exact hv, hr⟩
        · exact h.elim
      · exact h.elim
    · exact h.elim
  · exact h.elim

theorem field_step (hτ : TabOk P τ) (hI : Inv C H w M X) (hS : Sl s a w M X) {o : Oper} {t : TypeId} {x : Operand} {f : Nat} (ho : o.op = .field t x f) {id : Nat} {K : AV → List Blk → Prop} (h : opRun CN q0 τ o.op s H id K) :
    ∃ v h', Stp P C s H id a w o v h' ∧ K v h' := by
  rw [ho] at h
  simp only [opRun] at h
  split at h
  · rename_i ti ht
    split at h
    · rename_i fs ls hu hx
      split at h
      · rename_i off sz ag hfs
        split at h
        · rename_i hlen
          obtain ⟨d, hd, _, hd'⟩ := (hτ _ _ ht).und
          rw [hu] at hd'
          obtain ⟨fields, rfl, hfl, hfd⟩ := hd'
          have hlt : f < fields.size := by have := (List.getElem?_eq_some_iff.1 hfs).1; omega
          obtain ⟨hoff, ⟨i, hi, his, hpos⟩, ⟨d', hd2, hag⟩⟩ := hfd f fields[f] off sz ag (by simp [hlt]) hfs
          have hxr := hS.ev x
          rw [hx] at hxr
          generalize hax : a.eval x = vx at hxr
          cases hxr with | agg hls =>
          rename_i cs
          have hg : fields[f]? = some fields[f] := by simp [hlt]
          have hagr : (isAgg fields[f].type).run P w = .ok ag w := by
            unfold isAgg
            rw [Sem.run_bind, run_underlying hd2, hag]
            cases d' <;> rfl
          have hszr : (Go.sizeOf fields[f].type).run P w = .ok sz w := by simp [Go.sizeOf, typeInfo, hi, his]
          have hcl : ls.length = cs.size := by simpa using hls.1
          have hfit : off + sz ≤ cs.size := by
            simp only [List.length_take, List.length_drop] at hlen
            omega
          have hexec : (execOp a.eval o).run P w = .ok (.value (if ag then .agg (cs.extract off (off + sz)) else cs.getD off undef)) w := by
            unfold execOp
            simp only [ho, hax, Instr.field, Sem.run_bind, run_underlying hd, Result.andThen_ok, hg, asAgg, Sem.run_pure, part, hagr, hoff]
            cases ag with
            | true => simp only [if_true, Sem.run_bind, hszr, Result.andThen_ok, Sem.run_pure]
            | false =>
              have : cs[off]? = some cs[off] := by simp [show off < cs.size by omega]
              simp only [Bool.false_eq_true, if_false, this, Sem.run_pure, Result.andThen_ok]
              simp [Array.getD_eq_getD_getElem?, this]
          refine ⟨_, H, .still hI hS hexec ?_, h⟩
          cases ag with
          | true =>
            simp only [asV, if_true]
            refine .agg ⟨by simp; omega, fun j l v hl hv => ?_⟩
            rw [List.getElem?_take] at hl
            split at hl
            · rename_i hjs
              rw [List.getElem?_drop] at hl
              refine hls.2 (off + j) l v hl ?_
              simp only [Array.toList_extract, List.extract_eq_take_drop, List.getElem?_take, List.getElem?_drop] at hv
              rw [if_pos (by omega)] at hv
              exact hv
            · cases hl
          | false =>
            simp only [asV, Bool.false_eq_true, if_false]
            refine .one ?_
            have h0 : ls[off]? = some ls[off] := by simp [show off < ls.length by omega]
            have hc0 : cs.toList[off]? = some (cs.getD off undef) := by simp [Array.getD_eq_getD_getElem?, show off < cs.size by omega]
            have : ((ls.drop off).take sz).getD 0 L.any = ls[off] := by
              rw [List.getD_eq_getElem?_getD, List.getElem?_take, if_pos (by omega), List.getElem?_drop, Nat.add_zero, h0]; rfl
            rw [this]
            exact hls.2 off _ _ h0 hc0
        · exact h.elim
      · exact h.elim
    · exact h.elim
  · exact h.elim

theorem indexAddr_step (hτ : TabOk P τ) (hI : Inv C H w M X) (hS : Sl s a w M X) {o : Oper} {t : TypeId} {x y : Operand} (ho : o.op = .indexAddr t x y) {id : Nat} {K : AV → List Blk → Prop} (h : opRun CN q0 τ o.op s H id K) :
    ∃ v h', Stp P C s H id a w o v h' ∧ K v h' := by
  rw [ho] at h
  simp only [opRun] at h
  split at h
  · rename_i ti ht
    split at h
    · rename_i e hu
      split at h
      · rename_i te hte
        have hus := und_slice hτ ht hu
        have run : ∀ (k : IntKind) (i len cap : Nat) (ad : Addr), a.eval x = .slice (some ad) len cap → a.eval y = .int k i → i < len → (execOp a.eval o).run P w = .ok (.value (.pointer (some (ad.add (i * te.sz))))) w := fun k i len cap ad hx hy hlt => by
          unfold execOp
          simp only [ho, hx, hy, Instr.indexAt, Sem.run_bind, asIntOf, Sem.run_pure, Result.andThen_ok, run_underlying hus]
          have : (0 : Int) ≤ i ∧ (i : Int) < len := by omega
          simp only [this, and_self, if_true, Sem.run_bind, run_sizeOf hτ hte, Result.andThen_ok, Sem.run_pure, Int.toNat_natCast]
        split at h
        · rename_i sz n g k i hx hy
          split at h
          · rename_i hsz
            subst hsz
            cases h with | mk hb h =>
            obtain ⟨b1, b2⟩ := hb
            obtain ⟨j, rfl⟩ := Int.eq_ofNat_of_zero_le b1
            have hxr := ev_t hS hx
            generalize hax : a.eval x = vx at hxr
            cases hxr with | sl ad cs hn hl hc hg hbs hcell hr =>
            rename_i base len cap
            obtain ⟨hb1, hb2⟩ := hbs (by omega)
            subst hb1
            refine ⟨_, H, .still hI hS (run k j len cap ad hax (ev_int hS hy) (by omega)) (.one (.fp ⟨by rw [add_block]; exact hb2, fun f t hf => ?_⟩)), h⟩
            have hgl := hg j (by omega)
            have hfl : f < te.sz := by rw [← hgl]; exact (List.getElem?_eq_some_iff.1 hf).1
            exact ⟨cs j f, by rw [addr_add_add]; exact hcell j f (by omega) hfl, hr j f t (by omega) hf⟩
          · exact h.elim
        · rename_i b n k i hx hy
          have key : ∀ sz : Nat, blkIs H b sz = true → (if sz = te.sz then Need (fun _ => 0 ≤ i ∧ i < n) (K (.one (.ep b i 0)) H) else False) → ∃ v h', Stp P C s H id a w o v h' ∧ K v h' := by
            intro sz hsb h
            split at h
            · rename_i hsz
              subst hsz
              cases h with | mk hb h =>
              obtain ⟨b1, b2⟩ := hb
              obtain ⟨j, rfl⟩ := Int.eq_ofNat_of_zero_le b1
              have hxr := ev_one hS hx
              generalize hax : a.eval x = vx at hxr
              cases hxr with
              | row0 hp => omega
              | row hp hn hl hcu hcm =>
                rename_i p len
                have hps := blkIs_sz hI hp hsb
                refine ⟨_, H, .still hI hS (run k j len p.c _ hax (ev_int hS hy) (by omega)) (.one ?_), h⟩
                have e : (⟨p.b, 0, none⟩ : Addr).add (j * te.sz) = ⟨p.b, j * p.sz + 0, none⟩ := by rw [hps]; unfold Addr.add; split <;> simp_all
                rw [e]
                exact .ep hp rfl (by omega)
            · exact h.elim
          split at h
          · rename_i hb; exact key _ (by simp [blkIs, hb]) h
          · rename_i hb; exact key _ (by simp [blkIs, hb]) h
          · exact h.elim
        · rename_i b off n k i hx hy
          split at h
          · rename_i hb
            rename_i ty sz n' g
            split at h
            · rename_i hsz
              cases h with | mk hbd h =>
              obtain ⟨b1, b2⟩ := hbd
              obtain ⟨j, rfl⟩ := Int.eq_ofNat_of_zero_le b1
              have hxr := ev_one hS hx
              generalize hax : a.eval x = vx at hxr
              cases hxr with
              | sub0 hp hn => omega
              | sub hp ho' hn hu' hlc hcm hba =>
                rename_i p ofs len cap base
                have hps : p.sz = te.sz := by have := blkIs_sz hI hp (esz := sz) (by simp [blkIs, hb]); omega
                have hbase := hba (by omega)
                subst hbase
                refine ⟨_, H, .still hI hS (run k j len cap _ hax (ev_int hS hy) (by omega)) (.one ?_), h⟩
                have e : (⟨p.b, ofs * p.sz, none⟩ : Addr).add (j * te.sz) = ⟨p.b, (ofs + j) * p.sz + 0, none⟩ := by rw [hps, Nat.add_mul]; unfold Addr.add; split <;> simp_all
                rw [e]
                exact .ep hp (by simp only [q0]; omega) (by omega)
            · exact h.elim
          · exact h.elim
        · exact h.elim
      · exact h.elim
    · exact h.elim
  · exact h.elim

theorem index_step (hτ : TabOk P τ) (hI : Inv C H w M X) (hS : Sl s a w M X) {o : Oper} {t : TypeId} {x y : Operand} (ho : o.op = .index t x y) {id : Nat} {K : AV → List Blk → Prop} (h : opRun CN q0 τ o.op s H id K) :
    ∃ v h', Stp P C s H id a w o v h' ∧ K v h' := by
  rw [ho] at h
  simp only [opRun] at h
  split at h
  · rename_i ti ht
    split at h
    · rename_i b k i hu hx hy
      cases h with | mk hb h =>
      obtain ⟨b1, b2⟩ := hb
      obtain ⟨j, rfl⟩ := Int.eq_ofNat_of_zero_le b1
      refine ⟨_, H, .still hI hS (u := .int .u8 (((b.data.toList.getD j 0).toNat : Int))) ?_ (.one (.t .int)), h⟩
      unfold execOp
      have hlt : j < b.size := by omega
      have hg : b[j]? = some b[j] := by simp [hlt]
      simp only [ho, ev_str hS hx, ev_int hS hy, Instr.index, Sem.run_bind, asIntOf, Sem.run_pure, Result.andThen_ok, run_underlying (und_string hτ ht hu)]
      rw [if_pos b1, Int.toNat_natCast, hg]
      have : b.data.toList.getD j 0 = b[j] := by
        rw [List.getD_eq_getElem?_getD, List.getElem?_eq_getElem (by simpa using hlt)]; rfl
      rw [this]
      rfl
    · exact h.elim
  · exact h.elim

theorem lenOp_step {x : AV} {vx : Value} (hx : RdA w X M x vx) {K : L → Prop} (h : lenOp q0 x K) : ∃ n : Nat, (∃ b c, vx = .slice b n c) ∧ K (.t (.int .i64 n)) := by
  unfold lenOp at h
  split at h
  · cases hx with | one hx => cases hx with | t hx => cases hx with | sl ad cs hn hl hc hg hb hcell hr => subst hn; exact ⟨_, ⟨_, _, rfl⟩, h⟩
  · cases hx with | one hx => cases hx with
      | row0 hp => exact ⟨0, ⟨_, _, rfl⟩, h⟩
      | row hp hn hl hcu hcm => subst hn; exact ⟨_, ⟨_, _, rfl⟩, h⟩
  · cases hx with | one hx => cases hx with
      | sub0 hp hn => subst hn; exact ⟨0, ⟨_, _, rfl⟩, h⟩
      | sub hp ho hn hu hlc hcm hba => subst hn; exact ⟨_, ⟨_, _, rfl⟩, h⟩
  · cases hx with | one hx => cases hx with | nil => exact ⟨0, ⟨_, _, rfl⟩, h⟩
  · cases hx with | one hx => cases hx with | emp => exact ⟨0, ⟨_, _, rfl⟩, h⟩
  · exact h.elim
end
end Sx
end

section
namespace Sx
open Go
variable {P : Program} {C : Ctx} {τ : TypeId → Option TI}
section
variable {s : Slots} {a : Act} {w : World} {M : Mp} {X : Nat → Prop} {H : List Blk}

theorem src_cells (hI : Inv C H w M X) {y : AV} {vy : Value} (hy : RdA w X M y vy) {sz : Nat} {m : Int} {h : Int → List T} (he : srcOf q0 H sz y = some (sz, m, h)) (hsz : 0 < sz) :
    ∃ base len cap, vy = .slice base len cap ∧ m = (len : Int) ∧ (len = 0 ∨ ∃ (ad : Addr) (news : List Value), base = some ad ∧ news.length = len * sz ∧ (∀ j u, news[j]? = some u → w.cell? (ad.add j) = some u) ∧ (∀ u ∈ news, u.oneCell' = true) ∧
      ∀ i, i < len → (h i).length = sz ∧ ∀ f t, (h i)[f]? = some t → ∃ v, news[i * sz + f]? = some v ∧ RdT w X t v) := by
  have build : ∀ (base : Option Addr) (len : Nat) (ad : Addr) (cs : Nat → Nat → Value), (0 < len → base = some ad) → (∀ i, i < len → (h i).length = sz) → (∀ i f, i < len → f < sz → w.cell? (ad.add (i * sz + f)) = some (cs i f)) →
      (∀ (i f : Nat) (t : T), i < len → (h i)[f]? = some t → RdT w X t (cs i f)) → (len = 0 ∨ ∃ (ad : Addr) (news : List Value), base = some ad ∧ news.length = len * sz ∧ (∀ j u, news[j]? = some u → w.cell? (ad.add j) = some u) ∧ (∀ u ∈ news, u.oneCell' = true) ∧
      ∀ i, i < len → (h i).length = sz ∧ ∀ f t, (h i)[f]? = some t → ∃ v, news[i * sz + f]? = some v ∧ RdT w X t v) := by
    intro base len ad cs hb hg hc hr
    by_cases h0 : len = 0
    · exact .inl h0
    · refine .inr ⟨ad, (List.range (len * sz)).map fun j => cs (j / sz) (j % sz), hb (by omega), by simp, fun j u hj => ?_, fun u hu => ?_, fun i hi => ⟨hg i hi, fun f t hf => ?_⟩⟩
      · by_cases hlt : j < len * sz
        · simp [hlt] at hj
          subst hj
          have hi : j / sz < len := Nat.div_lt_of_lt_mul (by rw [Nat.mul_comm]; exact hlt)
          have := hc (j / sz) (j % sz) hi (Nat.mod_lt _ hsz)
          rw [← this]
          congr 2
          exact (Nat.div_add_mod' j sz).symm
        · simp [hlt] at hj
      · obtain ⟨j, hj, rfl⟩ := List.mem_map.1 hu
        have hlt : j < len * sz := by simpa using hj
        have hi : j / sz < len := Nat.div_lt_of_lt_mul (by rw [Nat.mul_comm]; exact hlt)
        have hf : j % sz < sz := Nat.mod_lt _ hsz
        have hgl := hg _ hi
        exact (hr (j / sz) (j % sz) (h (j / sz : Nat))[j % sz] hi (by simp [hgl, hf])).one
      · have hfl : f < sz := by rw [← hg i hi]; exact (List.getElem?_eq_some_iff.1 hf).1
        have hlt : i * sz + f < len * sz := by
          have : (i + 1) * sz ≤ len * sz := Nat.mul_le_mul_right _ (by omega)
          rw [Nat.add_mul] at this; omega
        refine ⟨cs i f, ?_, hr i f t hi hf⟩
        have e1 : (i * sz + f) / sz = i := by rw [Nat.add_comm, Nat.add_mul_div_right _ _ hsz, Nat.div_eq_of_lt hfl]; omega
        have e2 : (i * sz + f) % sz = f := by rw [Nat.add_comm, Nat.add_mul_mod_self_right, Nat.mod_eq_of_lt hfl]
        simp [hlt, e1, e2]
  have ofBlk : ∀ (b : Nat) (p : Pl) (g : Int → List T) (sz' : Nat), M[b]? = some (.at p) → ((∃ ty n, getB H b = .sl ty sz' n g) ∨ (∃ n, getB H b = .fz sz' n g)) → p.sz = sz' ∧ p.u ≤ p.c ∧ ∃ arr ty, w.heap[p.b]? = some (.cells arr ty (0, 0)) ∧ arr.size = p.c * sz' ∧ RdRow w X sz' p.u g arr := by
    intro b p g sz' hp hb
    have hB := hI.blk b _ hp
    rcases hb with ⟨ty, n, hb⟩ | ⟨n, hb⟩ <;> rw [hb] at hB
    · cases hB with | sl h1 h2 h3 h4 h5 h6 h7 h8 => exact ⟨h2, h4, _, _, h6, h7, h8⟩
    · cases hB with | fz h1 h2 h3 h4 h5 hx h6 h7 h8 => exact ⟨h2, h4, _, _, h6, h7, h8⟩
  have fromRow : ∀ (p : Pl) (g : Int → List T) (arr : Array Value) (ty : TypeId) (o len : Nat) (base : Option Addr), w.heap[p.b]? = some (.cells arr ty (0, 0)) → RdRow w X sz p.u g arr → o + len ≤ p.u → (0 < len → base = some ⟨p.b, o * sz, none⟩) →
      (∀ i : Nat, h i = g ((o + i : Nat) : Int)) → (len = 0 ∨ ∃ (ad : Addr) (news : List Value), base = some ad ∧ news.length = len * sz ∧ (∀ j u, news[j]? = some u → w.cell? (ad.add j) = some u) ∧ (∀ u ∈ news, u.oneCell' = true) ∧
      ∀ i, i < len → (h i).length = sz ∧ ∀ f t, (h i)[f]? = some t → ∃ v, news[i * sz + f]? = some v ∧ RdT w X t v) := by
    intro p g arr ty o len base harr hrow hle hb hhg
    refine build base len ⟨p.b, o * sz, none⟩ (fun i f => (arr[(o + i) * sz + f]?).getD undef) hb (fun i hi => by rw [hhg]; exact (hrow (o + i) (by omega)).1) (fun i f hi hf => ?_) (fun i f t hi hft => ?_)
    · rw [cell_at harr]
      obtain ⟨hgl, hr⟩ := hrow (o + i) (by omega)
      obtain ⟨v, hv, _⟩ := hr f (g ((o + i : Nat) : Int))[f] (by simp [hgl, hf])
      have e : o * sz + (i * sz + f) = (o + i) * sz + f := by rw [Nat.add_mul]; omega
      rw [e, hv]; rfl
    · rw [hhg] at hft
      obtain ⟨hgl, hr⟩ := hrow (o + i) (by omega)
      obtain ⟨v, hv, hrt⟩ := hr f t hft
      simp only [hv]
      exact hrt
  unfold srcOf at he
  split at he
  · cases he
    cases hy with | one hy => cases hy; exact ⟨_, 0, 0, rfl, rfl, .inl rfl⟩
  · cases he
    cases hy with | one hy => cases hy; exact ⟨_, 0, 0, rfl, rfl, .inl rfl⟩
  · cases he
    cases hy with | one hy => cases hy with | t hy => cases hy with | sl ad cs hn hl hc hg hb hcell hr =>
    rename_i base len cap
    exact ⟨base, len, cap, rfl, hn, build base len ad cs (fun h0 => (hb h0).1) hg hcell hr⟩
  · rename_i b m'
    cases hy with | one hy =>
    have key : ∀ sz' g, ((∃ ty n, getB H b = .sl ty sz' n g) ∨ (∃ n, getB H b = .fz sz' n g)) → sz' = sz → m' = m → g = h → ∃ base len cap, vy = .slice base len cap ∧ m = (len : Int) ∧ (len = 0 ∨ ∃ (ad : Addr) (news : List Value), base = some ad ∧ news.length = len * sz ∧ (∀ j u, news[j]? = some u → w.cell? (ad.add j) = some u) ∧ (∀ u ∈ news, u.oneCell' = true) ∧
        ∀ i, i < len → (h i).length = sz ∧ ∀ f t, (h i)[f]? = some t → ∃ v, news[i * sz + f]? = some v ∧ RdT w X t v) := by
      intro sz' g hb e1 e2 e3
      subst e1; subst e2; subst e3
      cases hy with
      | row0 hp => exact ⟨_, 0, 0, rfl, rfl, .inl rfl⟩
      | row hp hn hl hcu hcm =>
        rename_i p len
        obtain ⟨_, _, arr, ty, harr, _, hrow⟩ := ofBlk b p g sz' hp hb
        exact ⟨_, len, _, rfl, hn, fromRow p g arr ty 0 len _ harr hrow (by omega) (fun _ => by simp) (fun i => by simp)⟩
    split at he
    · rename_i hb; cases he; exact key _ _ (.inl ⟨_, _, hb⟩) rfl rfl rfl
    · rename_i hb; cases he; exact key _ _ (.inr ⟨_, hb⟩) rfl rfl rfl
    · cases he
  · rename_i b off m'
    cases hy with | one hy =>
    have key : ∀ sz' g, ((∃ ty n, getB H b = .sl ty sz' n g) ∨ (∃ n, getB H b = .fz sz' n g)) → sz' = sz → m' = m → (fun j => g (q0 Int fun _ => off + j)) = h → ∃ base len cap, vy = .slice base len cap ∧ m = (len : Int) ∧ (len = 0 ∨ ∃ (ad : Addr) (news : List Value), base = some ad ∧ news.length = len * sz ∧ (∀ j u, news[j]? = some u → w.cell? (ad.add j) = some u) ∧ (∀ u ∈ news, u.oneCell' = true) ∧
        ∀ i, i < len → (h i).length = sz ∧ ∀ f t, (h i)[f]? = some t → ∃ v, news[i * sz + f]? = some v ∧ RdT w X t v) := by
      intro sz' g hb e1 e2 e3
      subst e1; subst e2; subst e3
      cases hy with
      | sub0 hp hn => subst hn; exact ⟨_, 0, 0, rfl, rfl, .inl rfl⟩
      | sub hp ho hn hu hlc hcm hba =>
        rename_i p o len cap base
        obtain ⟨hps, _, arr, ty, harr, _, hrow⟩ := ofBlk b p g sz' hp hb
        exact ⟨_, len, _, rfl, hn, fromRow p g arr ty o len _ harr hrow hu (by rw [hps] at hba; exact hba) (fun i => by simp only [q0]; rw [ho]; congr 1)⟩
    split at he
    · rename_i hb; cases he; exact key _ _ (.inl ⟨_, _, hb⟩) rfl rfl rfl
    · rename_i hb; cases he; exact key _ _ (.inr ⟨_, hb⟩) rfl rfl rfl
    · cases he
  · cases he

theorem Inv.grow (hI : Inv C H w M X) {id : Nat} (hid : M[id]? = some .res) (hHid : getB H id = .res) {w' : World} {row : Option Nat} (hg : w.grownBy w' row) (hrow : ∀ b, row = some b → (C.B0 b ∨ C.w0.heap.size ≤ b) ∧ ¬ X b ∧ ∀ j p, M[j]? = some (.at p) → (getB H j).live = true → p.b ≠ b)
    {p : Pl} (hp : (∃ b, row = some b ∧ p.b = b ∧ b < w.heap.size) ∨ (w.heap.size ≤ p.b ∧ p.b < w'.heap.size)) {B : Blk} (hl : B.live = true) (hB : ∀ M' , Ext M M' → Same w w' X → RdB w' X M' (.at p) B) :
    Inv C (H.set id B) w' (M.set id (.at p)) X ∧ Same w w' X ∧ Ext M (M.set id (.at p)) := by
  have hs : Same w w' X := fun b hb => hg.block b (hI.xlt b hb) (fun e => (hrow b e.symm).2.1 hb)
  have he := ext_set (p := .at p) hid
  have hlt : id < M.length := (List.getElem?_eq_some_iff.1 hid).1
  have hltH : id < H.length := hI.mlen ▸ hlt
  have hpb : (C.B0 p.b ∨ C.w0.heap.size ≤ p.b) ∧ p.b < w'.heap.size ∧ ¬ X p.b ∧ ∀ j q, M[j]? = some (.at q) → (getB H j).live = true → q.b ≠ p.b := by
    rcases hp with ⟨b, hb, rfl, hlt'⟩ | ⟨h1, h2⟩
    · obtain ⟨a, b', c⟩ := hrow _ hb
      exact ⟨a, by have := hg.size; omega, b', c⟩
    · refine ⟨.inr (by have := hI.size; omega), h2, fun hx => by have := hI.xlt _ hx; omega, fun j q hq hlq => ?_⟩
      have := (hI.live j q hq hlq).2.1
      omega
  refine ⟨⟨hg.os.trans hI.os, hg.tape.trans hI.tape, hg.output.trans hI.output, Nat.le_trans hI.size hg.size, fun b hb hn => ?_, fun b hb => Nat.lt_of_lt_of_le (hI.xlt b hb) hg.size, hI.xsub, hI.x0, by simp [hI.mlen], ⟨by simpa using hI.pin.1, hI.pin.2.trans he⟩, ?_, ?_, ?_⟩, hs, he⟩
  · rw [hg.block b (by have := hI.size; omega) (fun e => ?_)]
    · exact hI.frame b hb hn
    · rcases (hrow b e.symm).1 with h | h
      · exact hn h
      · omega
  · intro j pj hj hlj
    rw [getB_set hltH] at hlj
    by_cases hji : id = j
    · subst hji
      simp [hlt] at hj
      subst hj
      exact ⟨hpb.1, hpb.2.1, hpb.2.2.1⟩
    · rw [List.getElem?_set_ne hji] at hj
      rw [if_neg (Ne.symm hji)] at hlj
      obtain ⟨a, b, c⟩ := hI.live j pj hj hlj
      exact ⟨a, Nat.lt_of_lt_of_le b hg.size, c⟩
  · intro j j' pj pj' hj hj' hlj hlj' hb
    rw [getB_set hltH] at hlj hlj'
    by_cases hji : id = j
    · by_cases hji' : id = j'
      · omega
      · subst hji
        rw [List.getElem?_set_ne hji'] at hj'
        rw [if_neg (Ne.symm hji')] at hlj'
        simp [hlt] at hj
        subst hj
        exact absurd hb.symm (hpb.2.2.2 j' pj' hj' hlj')
    · rw [List.getElem?_set_ne hji] at hj
      rw [if_neg (Ne.symm hji)] at hlj
      by_cases hji' : id = j'
      · subst hji'
        simp [hlt] at hj'
        subst hj'
        exact absurd hb (hpb.2.2.2 j pj hj hlj)
      · rw [List.getElem?_set_ne hji'] at hj'
        rw [if_neg (Ne.symm hji')] at hlj'
        exact hI.inj j j' pj pj' hj hj' hlj hlj' hb
  · intro j pj hj
    rw [getB_set hltH]
    by_cases hji : id = j
    · subst hji
      simp [hlt] at hj
      subst hj
      simpa using hB _ he hs
    · rw [List.getElem?_set_ne hji] at hj
      rw [if_neg (Ne.symm hji)]
      refine (hI.blk j pj hj).mono hs (fun _ h => h) he (fun pl hpl hlv => ?_)
      subst hpl
      exact hg.block _ (hI.live j pl hj hlv).2.1 (fun e => (hrow _ e.symm).2.2 j pl hj hlv rfl)
end
end Sx
end

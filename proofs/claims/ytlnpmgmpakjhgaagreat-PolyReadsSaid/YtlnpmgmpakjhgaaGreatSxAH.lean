/- A part of the proof of PolyReadsSaid: texts SxL. -/
import Derived.Test.YtlnpmgmpakjhgaaGreatSxAG
set_option linter.all false
namespace Sx
open Go
variable {P : Program} {C : Ctx} {τ : TypeId → Option TI}
section
variable {s : Slots} {a : Act} {w : World} {M : Mp} {X : Nat → Prop} {H : List Blk}

theorem append_fresh {t ty e : TypeId} {i : TypeInfo} {z : Value} {sz : Nat} (ht : P.underlying t = some (.slice e)) (hi : P.info? e = some i) (hz : i.zero = some z) (hsize : i.size = sz) (hzs : z.cells.size = sz) (hsz : 0 < sz)
    {v : Value} {n m : Nat} {olds : List Value} (hv : (∃ base, v = .slice base 0 0 ∧ n = 0 ∧ olds = []) ∨ ∃ b c cur, v = .slice (some ⟨b, 0, none⟩) n c ∧ c < n + m ∧ w.heap[b]? = some (.cells cur e (0, 0)) ∧ n ≤ c ∧ c ≤ maxLen ∧ cur.size = c * sz ∧ cur.toList.take (n * sz) = olds)
    {ad : Addr} {c : Nat} {news : List Value} (hl : news.length = m * sz) (hnews : ∀ j u, news[j]? = some u → w.cell? (ad.add j) = some u) (hm : 0 < m)
    (h63 : n + m ≤ maxLen) (hbytes : (n + m) * i.bytes ≤ 140737488355328) :
    ∃ (w' : World) (b' c' : Nat) (cur' : Array Value), (Builtin.append_ #[t, t] ty #[v, .slice (some ad) m c]).run P w = .ok (.slice (some ⟨b', 0, none⟩) (n + m) c') w' ∧ w'.heap[b']? = some (.cells cur' e (0, 0)) ∧ n + m ≤ c' ∧ c' ≤ maxLen ∧
      cur'.size = c' * sz ∧ cur'.toList.take ((n + m) * sz) = olds ++ news ∧ (∀ row, w.grownBy w' row) ∧ (w.heap.size ≤ b' ∧ b' < w'.heap.size) := by
  subst hsize
  have hsmall : n + m ≤ 9223372036854775807 := by simp only [maxLen] at h63; omega
  have fresh : ∀ (old : Nat) (olds : List Value), olds.length = n * i.size →
      ∃ (w' : World) (b' c' : Nat) (cur' : Array Value), (w.drew.alloc (.cells (olds.toArray ++ news.toArray ++ Builtin.zeroCells z.cells (grownCap w (n + m) old e - (n + m))) e)) = w' ∧ b' = w.heap.size ∧ c' = grownCap w (n + m) old e ∧ w'.heap[b']? = some (.cells cur' e (0, 0)) ∧ n + m ≤ c' ∧ c' ≤ maxLen ∧
        cur'.size = c' * i.size ∧ cur'.toList.take ((n + m) * i.size) = olds ++ news ∧ (∀ row, w.grownBy w' row) ∧ (w.heap.size ≤ b' ∧ b' < w'.heap.size) := by
    intro old olds ho
    have hge := grownCap_ge w (n + m) old e
    have hcm := grownCap_le_maxLen w (n + m) old e h63
    have hlen : (olds ++ news).length = (n + m) * i.size := by rw [List.length_append, ho, hl, Nat.add_mul]
    refine ⟨_, _, _, _, rfl, rfl, rfl, heap_alloc_new w.drew _, hge, hcm, ?_, ?_, fun row => ⟨rfl, rfl, rfl, by simp, fun k hk _ => heap_alloc_old w.drew _ k hk⟩, Nat.le_refl _, by simp⟩
    · simp only [Array.size_append, List.size_toArray, size_zeroCells, hzs, ho, hl, ← Nat.add_mul]
      congr 1
      omega
    · simp only [Array.toList_append, List.append_assoc]
      rw [← List.append_assoc, ← hlen]
      exact List.take_left
  rcases hv with ⟨base, rfl, rfl, rfl⟩ | ⟨b, cp, cur, rfl, hroom, hg, hnc, hcm, hcs, htake⟩
  · obtain ⟨w', b', c', cur', e1, e2, e3, k1, k2, k3, k4, k5, k6, k7⟩ := fresh 0 [] (by simp)
    refine ⟨w', b', c', cur', ?_, k1, k2, k3, k4, k5, k6, k7⟩
    cases base with
    | none =>
      have hr := run_append_nil (P := P) w t ty e i z ht hi hz ad m c news hl hnews hm (by omega) (by have hb := hbytes; simp only [Nat.zero_add] at hb; omega)
      rw [hr, e2, e3, ← e1]
      simp only [Nat.zero_add, List.nil_append]
      congr 1
      simp
    | some ba =>
      have hr := run_append_grow (P := P) w t ty e i z ht hi hz ba 0 0 [] (by simp) (fun j u hu => by simp at hu) ad m c news hl hnews (by omega) (by omega) (growslice_fits (by omega) hbytes)
      rw [hr, e2, e3, ← e1]
  · have ho : olds.length = n * i.size := by
      rw [← htake, List.length_take]
      simp
      rw [hcs]
      exact Nat.min_eq_left (Nat.mul_le_mul_right _ hnc)
    have holds : ∀ j u, olds[j]? = some u → w.cell? ((⟨b, 0, none⟩ : Addr).add j) = some u := fun j u hu => by
      rw [cell_at hg, Nat.zero_add]
      rw [← htake, List.getElem?_take] at hu
      split at hu
      · simpa using hu
      · cases hu
    have hr := run_append_grow (P := P) w t ty e i z ht hi hz ⟨b, 0, none⟩ n cp olds ho holds ad m c news hl hnews (by omega) (by omega) (growslice_fits (by omega) hbytes)
    obtain ⟨w', b', c', cur', e1, e2, e3, k1, k2, k3, k4, k5, k6, k7⟩ := fresh cp olds ho
    exact ⟨w', b', c', cur', by rw [hr, e2, e3, ← e1], k1, k2, k3, k4, k5, k6, k7⟩

theorem append_run {t ty e : TypeId} {i : TypeInfo} {z : Value} {sz : Nat} (ht : P.underlying t = some (.slice e)) (hi : P.info? e = some i) (hz : i.zero = some z) (hsize : i.size = sz) (hzs : z.cells.size = sz) (hsz : 0 < sz)
    {v : Value} {n : Nat} {olds : List Value} (hv : (∃ base, v = .slice base 0 0 ∧ n = 0 ∧ olds = []) ∨ ∃ b c cur, v = .slice (some ⟨b, 0, none⟩) n c ∧ w.heap[b]? = some (.cells cur e (0, 0)) ∧ n ≤ c ∧ c ≤ maxLen ∧ cur.size = c * sz ∧ cur.toList.take (n * sz) = olds)
    {ad : Addr} {m c : Nat} {news : List Value} (hl : news.length = m * sz) (hnews : ∀ j u, news[j]? = some u → w.cell? (ad.add j) = some u) (h1 : ∀ u ∈ news, u.oneCell' = true) (hm : 0 < m)
    (h63 : n + m ≤ maxLen) (hbytes : (n + m) * i.bytes ≤ 140737488355328) :
    ∃ (w' : World) (b' c' : Nat) (cur' : Array Value) (row : Option Nat), (Builtin.append_ #[t, t] ty #[v, .slice (some ad) m c]).run P w = .ok (.slice (some ⟨b', 0, none⟩) (n + m) c') w' ∧ w'.heap[b']? = some (.cells cur' e (0, 0)) ∧ n + m ≤ c' ∧ c' ≤ maxLen ∧
      cur'.size = c' * sz ∧ cur'.toList.take ((n + m) * sz) = olds ++ news ∧ w.grownBy w' row ∧ (row = some b' ∨ (w.heap.size ≤ b' ∧ b' < w'.heap.size)) ∧ (∀ b, row = some b → ∃ n' c'', v = .slice (some ⟨b, 0, none⟩) n' c'' ∧ 0 < c'') := by
  have other : ((∃ base, v = .slice base 0 0 ∧ n = 0 ∧ olds = []) ∨ ∃ b c cur, v = .slice (some ⟨b, 0, none⟩) n c ∧ c < n + m ∧ w.heap[b]? = some (.cells cur e (0, 0)) ∧ n ≤ c ∧ c ≤ maxLen ∧ cur.size = c * sz ∧ cur.toList.take (n * sz) = olds) →
      ∃ (w' : World) (b' c' : Nat) (cur' : Array Value) (row : Option Nat), (Builtin.append_ #[t, t] ty #[v, .slice (some ad) m c]).run P w = .ok (.slice (some ⟨b', 0, none⟩) (n + m) c') w' ∧ w'.heap[b']? = some (.cells cur' e (0, 0)) ∧ n + m ≤ c' ∧ c' ≤ maxLen ∧
      cur'.size = c' * sz ∧ cur'.toList.take ((n + m) * sz) = olds ++ news ∧ w.grownBy w' row ∧ (row = some b' ∨ (w.heap.size ≤ b' ∧ b' < w'.heap.size)) ∧ (∀ b, row = some b → ∃ n' c'', v = .slice (some ⟨b, 0, none⟩) n' c'' ∧ 0 < c'') := fun ho => by
    obtain ⟨w', b', c', cur', hr, k1, k2, k3, k4, k5, k6, k7⟩ := append_fresh (P := P) (w := w) (ty := ty) (c := c) ht hi hz hsize hzs hsz ho hl hnews hm h63 hbytes
    exact ⟨w', b', c', cur', none, hr, k1, k2, k3, k4, k5, k6 none, .inr k7, fun b hb => by cases hb⟩
  rcases hv with hv | ⟨b, cp, cur, rfl, hg, hnc, hcm, hcs, htake⟩
  · exact other (.inl hv)
  · by_cases hroom : n + m ≤ cp
    · subst hsize
      have hfit : n * i.size + news.length ≤ cur.size := by rw [hl, hcs, ← Nat.add_mul]; exact Nat.mul_le_mul_right _ hroom
      have hr := run_append_room (P := P) w t ty e i ht hi b n cp cur hg ad m c news hl hnews h1 hroom hfit
      have hlen : (olds ++ news).length = (n + m) * i.size := by
        rw [List.length_append, hl, Nat.add_mul, ← htake, List.length_take]
        simp
        rw [hcs]
        exact Nat.min_eq_left (Nat.mul_le_mul_right _ hnc)
      refine ⟨_, b, cp, _, some b, hr, setRow_heap w b cur _ e _ hg, hroom, hcm, ?_, ?_, ⟨rfl, rfl, rfl, by simp, fun k _ hk => setRow_other w b k _ (fun e => hk (by rw [e]))⟩, .inl rfl, fun b' hb' => by cases hb'; exact ⟨_, _, rfl, by omega⟩⟩
      · simp only [List.size_toArray, List.length_append, List.length_take, List.length_drop, Array.length_toList]
        omega
      · rw [htake, ← hlen]
        exact List.take_left
    · exact other (.inr ⟨b, cp, cur, rfl, by omega, hg, hnc, hcm, hcs, htake⟩)

theorem append_zero {t ty e : TypeId} {i : TypeInfo} (ht : P.underlying t = some (.slice e)) (hi : P.info? e = some i) (base : Option Addr) (n c : Nat) (hn : n ≤ c) (b2 : Option Addr) (c2 : Nat) :
    (Builtin.append_ #[t, t] ty #[.slice base n c, .slice b2 0 c2]).run P w = .ok (.slice base n c) w := by
  have hf : (Builtin.firstCells i.size 0 (.slice b2 0 c2)).run P w = .ok #[] w := by
    cases b2 <;> simp [Builtin.firstCells, loadCells, loadCellsFrom]
  cases base with
  | none => simp [Builtin.append_, run_underlying ht, Go.sizeOf, typeInfo, hi, Builtin.lenOf, hn, hf]
  | some ad => simp [Builtin.append_, run_underlying ht, Go.sizeOf, typeInfo, hi, Builtin.lenOf, hn, hf, storeCells]

theorem app_row {w w' : World} {X : Nat → Prop} (hs : Same w w' X) {sz n m : Nat} (hsz : 0 < sz) {g h : Int → List T} {olds news : List Value} {cur : Array Value} (ho : olds.length = n * sz) (hl : news.length = m * sz)
    (hg : ∀ i : Nat, i < n → (g i).length = sz ∧ ∀ (f : Nat) (t : T), (g i)[f]? = some t → ∃ v, olds[i * sz + f]? = some v ∧ RdT w X t v)
    (hh : ∀ i : Nat, i < m → (h i).length = sz ∧ ∀ (f : Nat) (t : T), (h i)[f]? = some t → ∃ v, news[i * sz + f]? = some v ∧ RdT w X t v) (ht : cur.toList.take ((n + m) * sz) = olds ++ news) : RdRow w' X sz (n + m) (appFn n g h) cur := by
  intro i hi
  have get : ∀ j, j < (n + m) * sz → cur[j]? = (olds ++ news)[j]? := fun j hj => by
    rw [← ht, List.getElem?_take, if_pos hj]; simp
  by_cases h1 : i < n
  · have e : appFn n g h i = g i := by unfold appFn; rw [if_pos (by omega)]
    rw [e]
    obtain ⟨a, b⟩ := hg i h1
    refine ⟨a, fun f t hf => ?_⟩
    have hfl : f < sz := by rw [← a]; exact (List.getElem?_eq_some_iff.1 hf).1
    obtain ⟨v, hv, hr⟩ := b f t hf
    have hlt : i * sz + f < n * sz := by
      have : (i + 1) * sz ≤ n * sz := Nat.mul_le_mul_right _ h1
      rw [Nat.add_mul] at this; omega
    refine ⟨v, ?_, hr.mono hs (fun _ h => h)⟩
    rw [get _ (by rw [Nat.add_mul]; omega), List.getElem?_append_left (by omega)]
    exact hv
  · have e : appFn n g h i = h ((i - n : Nat) : Int) := by unfold appFn; rw [if_neg (by omega)]; congr 1; omega
    rw [e]
    obtain ⟨a, b⟩ := hh (i - n) (by omega)
    refine ⟨a, fun f t hf => ?_⟩
    have hfl : f < sz := by rw [← a]; exact (List.getElem?_eq_some_iff.1 hf).1
    obtain ⟨v, hv, hr⟩ := b f t hf
    have hlt : i * sz + f < (n + m) * sz := by
      have : (i + 1) * sz ≤ (n + m) * sz := Nat.mul_le_mul_right _ hi
      rw [Nat.add_mul] at this; omega
    have hge : n * sz ≤ i * sz := Nat.mul_le_mul_right _ (by omega)
    refine ⟨v, ?_, hr.mono hs (fun _ h => h)⟩
    rw [get _ hlt, List.getElem?_append_right (by omega), ho, ← hv]
    congr 1
    rw [Nat.sub_mul]; omega

theorem Inv.nilRow (hI : Inv C H w M X) {id : Nat} (hid : M[id]? = some .res) (hHid : getB H id = .res) (e : TypeId) (sz : Nat) (g : Int → List T) : Inv C (H.set id (.sl e sz 0 g)) w (M.set id .nil) X ∧ Ext M (M.set id .nil) := by
  have hlt : id < M.length := (List.getElem?_eq_some_iff.1 hid).1
  have hltH : id < H.length := hI.mlen ▸ hlt
  have he := ext_set (p := .nil) hid
  have old : ∀ j p, (M.set id .nil)[j]? = some (.at p) → M[j]? = some (.at p) ∧ j ≠ id := fun j p hj => by
    by_cases hji : id = j
    · subst hji; simp [hlt] at hj
    · rw [List.getElem?_set_ne hji] at hj; exact ⟨hj, Ne.symm hji⟩
  have olive : ∀ j, j ≠ id → getB (H.set id (.sl e sz 0 g)) j = getB H j := fun j hj => by rw [getB_set hltH, if_neg hj]
  refine ⟨⟨hI.os, hI.tape, hI.output, hI.size, hI.frame, hI.xlt, hI.xsub, hI.x0, by simp [hI.mlen], ⟨by simpa using hI.pin.1, hI.pin.2.trans he⟩, fun j p hj hl => ?_, fun j j' p p' hj hj' hl hl' hb => ?_, fun j p hj => ?_⟩, he⟩
  · obtain ⟨a, b⟩ := old j p hj
    rw [olive j b] at hl
    exact hI.live j p a hl
  · obtain ⟨a, b⟩ := old j p hj
    obtain ⟨a', b'⟩ := old j' p' hj'
    rw [olive j b] at hl
    rw [olive j' b'] at hl'
    exact hI.inj j j' p p' a a' hl hl' hb
  · by_cases hji : id = j
    · subst hji
      simp [hlt] at hj
      subst hj
      rw [getB_set hltH, if_pos rfl]
      exact .sl0
    · rw [List.getElem?_set_ne hji] at hj
      rw [olive j (Ne.symm hji)]
      exact (hI.blk j p hj).mono (fun _ _ => rfl) (fun _ h => h) he (fun _ _ _ => rfl)

theorem setRes {id : Nat} {B : Blk} (h : getB H id = .res) {j : Nat} (hj : getB H j = .res) : j = id ∨ getB (H.set id B) j = .res := by
  by_cases hji : j = id
  · exact .inl hji
  · rw [getB_set (getB_lt (by rw [h]; simp)), if_neg hji]; exact .inr hj

theorem append_step (hτ : TabOk P τ) (hI : Inv C H w M X) (hS : Sl s a w M X) {o : Oper} {t : TypeId} {x y : Operand} {ti te : TI} {e : TypeId}
    (ho : o.op = .call { callee := .builtin .append, args := #[x, y], argTypes := #[t, t] }) (ht : τ t = some ti) (hu : ti.und = .slice e) (hte : τ e = some te) {ib : Nat} (hid : getB H ib = .res) {K : AV → List Blk → Prop}
    (h : appendOp q0 e te (ev s x) (ev s y) H ib K) : ∃ v h', Stp P C s H ib a w o v h' ∧ K v h' := by
  have hus := und_slice hτ ht hu
  have hT := hτ _ _ hte
  obtain ⟨i, zv, hi, his, hib, hiz, hzs, hzr⟩ := hT.info
  have hbp := hT.bpos
  obtain ⟨p0, hp0, hB0⟩ := hI.has (id := ib) (by rw [hid]; simp)
  rw [hid] at hB0
  cases hB0
  have hidlt : ib < M.length := (List.getElem?_eq_some_iff.1 hp0).1
  have run : ∀ v w', (Builtin.append_ #[t, t] o.type #[a.eval x, a.eval y]).run P w = .ok v w' → (execOp a.eval o).run P w = .ok (.value v) w' := fun v w' hr => by
    unfold execOp
    simp only [ho, resolve, invoke, builtin, Sem.run_bind, Sem.run_pure, Result.andThen_ok, List.map_toArray, List.map_cons, List.map_nil, hr]
  have hlays : lays o.op = true := by rw [ho]; rfl
  unfold appendOp at h
  split at h
  · rename_i sz m hh hsrc
    split at h
    · rename_i hsz
      subst hsz
      obtain ⟨base, len, cap, hvy, hm, hsrc'⟩ := src_cells hI (hS.ev y) hsrc hT.pos
      have fromNone : ∀ base0, a.eval x = .slice base0 0 0 → m * te.bytes ≤ 140737488355328 → K (.one (.row ib m)) (H.set ib (.sl e te.sz m hh)) → ∃ v h', Stp P C s H ib a w o v h' ∧ K v h' := by
        intro base0 hvx hb h
        have hbn : len * te.bytes ≤ 140737488355328 := by subst hm; omega
        have hln : len ≤ 140737488355328 := Nat.le_trans (Nat.le_mul_of_pos_right _ hbp) hbn
        by_cases hl0 : len = 0
        · subst hl0
          have hr := append_zero (P := P) (w := w) (ty := o.type) hus hi base0 0 0 (Nat.le_refl _) base cap
          obtain ⟨hI', he⟩ := hI.nilRow hp0 hid e te.sz hh
          have hm0 : m = 0 := hm
          subst hm0
          exact ⟨_, _, ⟨_, w, _, X, .inl (run _ _ (by rw [hvx, hvy]; exact hr)), hI', hS.mono (fun _ _ => rfl) (fun _ h => h) he, .one (.row0 (by simp [hidlt])), by simp, fun j hj => (setRes hid hj).imp (fun e => ⟨e, hlays⟩) (fun z => z)⟩, h⟩
        · obtain ⟨ad, news, hbase, hnl, hnews, h1, hel⟩ := hsrc'.resolve_left hl0
          subst hbase
          obtain ⟨w', b', c', cur', hr, k1, k2, k3, k4, k5, k6, k7'⟩ := append_fresh (P := P) (w := w) (ty := o.type) hus hi hiz his hzs hT.pos (v := .slice base0 0 0) (n := 0) (olds := []) (.inl ⟨base0, rfl, rfl, rfl⟩) (ad := ad) (m := len) (c := cap) (news := news) hnl hnews (by omega)
            (by simp [maxLen]; omega) (by rw [Nat.zero_add, hib]; exact hbn)
          simp only [Nat.zero_add, List.nil_append] at k2 k5
          obtain ⟨hI', hs, he⟩ := hI.grow hp0 hid (p := ⟨b', te.sz, c', len⟩) (B := .sl e te.sz m hh) (k6 none) (fun b hb => by cases hb) (.inr k7') rfl (fun M' _ hs => .sl hm rfl hT.pos k2 k3 k1 k4 (fun j hj => by
              have hgo := app_row (n := 0) (m := len) (g := fun _ => []) (h := hh) hs hT.pos (olds := []) (news := news) (cur := cur') (by simp) hnl (fun i hi => absurd hi (by omega)) hel (by rw [Nat.zero_add]; exact k5)
              have := hgo j (by have hj' : j < len := hj; omega)
              have e0 : appFn ((0 : Nat) : Int) (fun _ => []) hh (j : Int) = hh j := by unfold appFn; rw [if_neg (by omega)]; simp
              rw [e0] at this
              exact this))
          refine ⟨_, _, ⟨_, w', _, X, .inl (run _ _ (by rw [hvx, hvy]; exact hr)), hI', hS.mono hs (fun _ h => h) he, .one ?_, by simp, fun j hj => (setRes hid hj).imp (fun e => ⟨e, hlays⟩) (fun z => z)⟩, h⟩
          rw [Nat.zero_add]
          exact .row (p := ⟨b', te.sz, c', len⟩) (by simp [hidlt]) hm (Nat.le_refl _) k2 k3
      split at h
      · rename_i hx
        cases h with | mk hb h => exact fromNone none (ev_nil hS hx) hb h
      · rename_i hx
        cases h with | mk hb h =>
        have hxr := ev_one hS hx
        generalize hax : a.eval x = vx at hxr
        cases hxr
        exact fromNone _ hax hb h
      · rename_i ai n hx
        split at h
        · rename_i ty' sz' n' g hbl
          split at h
          · rename_i hc
            obtain ⟨hsz', hty⟩ := hc
            subst hsz'; subst hty
            cases h with | mk hb h =>
            have hxr := ev_one hS hx
            have hai : ai ≠ ib := fun e => by subst e; rw [hid] at hbl; cases hbl
            have hIdrop := hI.drop ai
            have hiddrop : getB (H.set ai .dead) ib = .res := by rw [getB_set (getB_lt (by rw [hbl]; simp)), if_neg (Ne.symm hai)]; exact hid
            have resdrop : ∀ j, getB H j = .res → getB (H.set ai .dead) j = .res := fun j hj => by
              rw [getB_set (getB_lt (by rw [hbl]; simp))]
              split
              · rename_i e; subst e; rw [hbl] at hj; cases hj
              · exact hj
            have hlenH : ∀ B, ((H.set ai .dead).set ib B).length = H.length := fun B => by simp

            have hold : ∃ (nn : Nat) (olds : List Value), n = (nn : Int) ∧ olds.length = nn * te.sz ∧ (∀ i : Nat, i < nn → (g i).length = te.sz ∧ ∀ (f : Nat) (t : T), (g i)[f]? = some t → ∃ v, olds[i * te.sz + f]? = some v ∧ RdT w X t v) ∧
                ((∃ base0, a.eval x = .slice base0 0 0 ∧ nn = 0 ∧ olds = [] ∧ M[ai]? = some .nil) ∨ ∃ p cur, M[ai]? = some (.at p) ∧ a.eval x = .slice (some ⟨p.b, 0, none⟩) nn p.c ∧ w.heap[p.b]? = some (.cells cur ty' (0, 0)) ∧ nn ≤ p.c ∧ p.c ≤ maxLen ∧ cur.size = p.c * te.sz ∧ cur.toList.take (nn * te.sz) = olds) := by
              generalize hax : a.eval x = vx at hxr
              cases hxr with
              | row0 hp => exact ⟨0, [], rfl, by simp, fun i hi => absurd hi (by omega), .inl ⟨_, rfl, rfl, rfl, hp⟩⟩
              | row hp hn hl hcu hcm =>
                rename_i p nn
                have hB := hI.blk ai _ hp
                rw [hbl] at hB
                cases hB with | sl q1 q2 q3 q4 q5 q6 q7 q8 =>
                rename_i cur
                refine ⟨nn, cur.toList.take (nn * te.sz), hn, ?_, fun i hi => ?_, .inr ⟨p, cur, hp, rfl, q6, by omega, q5, q7, rfl⟩⟩
                · rw [List.length_take]
                  simp
                  rw [q7]
                  exact Nat.min_eq_left (Nat.mul_le_mul_right _ (by omega))
                · obtain ⟨a1, b1⟩ := q8 i (by omega)
                  refine ⟨a1, fun f t hf => ?_⟩
                  obtain ⟨v, hv, hr⟩ := b1 f t hf
                  have hfl : f < te.sz := by rw [← a1]; exact (List.getElem?_eq_some_iff.1 hf).1
                  have hlt : i * te.sz + f < nn * te.sz := by
                    have : (i + 1) * te.sz ≤ nn * te.sz := Nat.mul_le_mul_right _ hi
                    rw [Nat.add_mul] at this; omega
                  exact ⟨v, by rw [List.getElem?_take, if_pos hlt]; simpa using hv, hr⟩
            obtain ⟨nn, olds, hn, hol, holdr, hshape⟩ := hold
            have hbn : (nn + len) * te.bytes ≤ 140737488355328 := by
              have hb' : ((nn : Int) + (len : Int)) * (te.bytes : Int) ≤ 140737488355328 := by rw [← hn, ← hm]; exact hb
              have hb2 : (((nn + len) * te.bytes : Nat) : Int) ≤ 140737488355328 := by rw [Int.natCast_mul, Int.natCast_add]; exact hb'
              omega
            have hln : nn + len ≤ 140737488355328 := Nat.le_trans (Nat.le_mul_of_pos_right _ hbp) hbn
            have hnm : n + m = ((nn + len : Nat) : Int) := by omega
            by_cases hl0 : len = 0
            ·
              subst hl0
              rcases hshape with ⟨base0, hvx, rfl, rfl, hMa⟩ | ⟨p, cur, hMa, hvx, hcur, hnc, hcm, hcs, htk⟩
              · have hr := append_zero (P := P) (w := w) (ty := o.type) hus hi base0 0 0 (Nat.le_refl _) base cap
                obtain ⟨hI', he⟩ := hIdrop.nilRow hp0 hiddrop ty' te.sz (appFn n g hh)
                have h00 : n + m = 0 := by omega
                have hq : q0 Int (fun _ => n + m) = 0 := h00
                rw [hq] at h
                exact ⟨_, _, ⟨_, w, _, X, .inl (run _ _ (by rw [hvx, hvy]; exact hr)), hI', hS.mono (fun _ _ => rfl) (fun _ h => h) he, .one (.row0 (by simp [hidlt])), hlenH _, fun j hj => (setRes hiddrop (resdrop j hj)).imp (fun e => ⟨e, hlays⟩) (fun z => z)⟩, h⟩
              · have hr := append_zero (P := P) (w := w) (ty := o.type) hus hi (some ⟨p.b, 0, none⟩) nn p.c hnc base cap
                have hlv := hI.live ai p hMa (by rw [hbl]; rfl)
                obtain ⟨hI', hs, he⟩ := hIdrop.grow hp0 hiddrop (w' := w) (row := some p.b) (p := ⟨p.b, te.sz, p.c, nn⟩) (B := .sl ty' te.sz (n + m) (appFn n g hh)) ⟨rfl, rfl, rfl, Nat.le_refl _, fun _ _ _ => rfl⟩
                  (fun b hb => by
                    cases hb
                    refine ⟨hlv.1, hlv.2.2, fun j pj hj hlj e => ?_⟩
                    rw [getB_set (getB_lt (by rw [hbl]; simp))] at hlj
                    split at hlj
                    · cases hlj
                    · rename_i hja
                      exact hja (hI.inj j ai pj p hj hMa hlj (by rw [hbl]; rfl) e)) (.inl ⟨p.b, rfl, rfl, hlv.2.1⟩) rfl (fun M' _ hs => .sl (by simpa using hnm) rfl hT.pos hnc hcm hcur hcs (fun j hj => by
                    have e0 : appFn n g hh (j : Int) = g j := by have hj' : j < nn := hj; unfold appFn; rw [if_pos (by omega)]
                    rw [e0]
                    obtain ⟨a1, b1⟩ := holdr j hj
                    refine ⟨a1, fun f t hf => ?_⟩
                    obtain ⟨v, hv, hrr⟩ := b1 f t hf
                    refine ⟨v, ?_, hrr⟩
                    rw [← htk, List.getElem?_take] at hv
                    split at hv
                    · simpa using hv
                    · cases hv))
                refine ⟨_, _, ⟨_, w, _, X, .inl (run _ _ (by rw [hvx, hvy]; exact hr)), hI', hS.mono hs (fun _ h => h) he, .one ?_, hlenH _, fun j hj => (setRes hiddrop (resdrop j hj)).imp (fun e => ⟨e, hlays⟩) (fun z => z)⟩, h⟩
                exact .row (p := ⟨p.b, te.sz, p.c, nn⟩) (by simp [hidlt]) (by show n + m = _; simpa using hnm) (Nat.le_refl _) hnc hcm
            · obtain ⟨ad, news, hbase, hnl, hnews, h1, hel⟩ := hsrc'.resolve_left hl0
              subst hbase
              have hshape' : (∃ base0, a.eval x = .slice base0 0 0 ∧ nn = 0 ∧ olds = []) ∨ ∃ b c cur, a.eval x = .slice (some ⟨b, 0, none⟩) nn c ∧ w.heap[b]? = some (.cells cur ty' (0, 0)) ∧ nn ≤ c ∧ c ≤ maxLen ∧ cur.size = c * te.sz ∧ cur.toList.take (nn * te.sz) = olds := by
                rcases hshape with ⟨b0, u1, u2, u3, _⟩ | ⟨p, cur, _, u1, u2, u3, u4, u5, u6⟩
                · exact .inl ⟨b0, u1, u2, u3⟩
                · exact .inr ⟨_, _, _, u1, u2, u3, u4, u5, u6⟩
              obtain ⟨w', b', c', cur', row, hr, k1, k2, k3, k4, k5, k6, k7, k8⟩ := append_run (P := P) (w := w) (ty := o.type) hus hi hiz his hzs hT.pos hshape' (ad := ad) (m := len) (c := cap) (news := news) hnl hnews h1 (Nat.pos_of_ne_zero hl0)
                (by simp [maxLen]; omega) (by rw [hib]; exact hbn)
              have hrow : ∀ b, row = some b → (C.B0 b ∨ C.w0.heap.size ≤ b) ∧ ¬ X b ∧ (∀ j pj, M[j]? = some (.at pj) → (getB (H.set ai .dead) j).live = true → pj.b ≠ b) ∧ b < w.heap.size := fun b hb => by
                obtain ⟨n', c'', hv8, hc8⟩ := k8 b hb
                rcases hshape with ⟨b0, u1, _⟩ | ⟨p, cur, hMa, u1, _⟩
                · rw [u1] at hv8; simp at hv8; omega
                · rw [u1] at hv8
                  simp at hv8
                  obtain rfl := hv8.1
                  have hlv := hI.live ai p hMa (by rw [hbl]; rfl)
                  refine ⟨hlv.1, hlv.2.2, fun j pj hj hlj e => ?_, hlv.2.1⟩
                  rw [getB_set (getB_lt (by rw [hbl]; simp))] at hlj
                  split at hlj
                  · cases hlj
                  · rename_i hja
                    exact hja (hI.inj j ai pj p hj hMa hlj (by rw [hbl]; rfl) e)
              obtain ⟨hI', hs, he⟩ := hIdrop.grow hp0 hiddrop (p := ⟨b', te.sz, c', nn + len⟩) (B := .sl ty' te.sz (n + m) (appFn n g hh)) k6 (fun b hb => ⟨(hrow b hb).1, (hrow b hb).2.1, (hrow b hb).2.2.1⟩)
                (k7.imp (fun e => ⟨b', e, rfl, (hrow b' e).2.2.2⟩) (fun z => z)) rfl (fun M' _ hs => .sl hnm rfl hT.pos k2 k3 k1 k4 (by rw [hn]; exact app_row hs hT.pos hol hnl holdr hel k5))
              refine ⟨_, _, ⟨_, w', _, X, .inl (run _ _ (by rw [hvy]; exact hr)), hI', hS.mono hs (fun _ h => h) he, .one ?_, hlenH _, fun j hj => (setRes hiddrop (resdrop j hj)).imp (fun e => ⟨e, hlays⟩) (fun z => z)⟩, h⟩
              exact .row (p := ⟨b', te.sz, c', nn + len⟩) (by simp [hidlt]) hnm (Nat.le_refl _) k2 k3
          · exact h.elim
        · exact h.elim
      · exact h.elim
    · exact h.elim
  · exact h.elim
end
end Sx

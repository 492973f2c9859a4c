/-
  The executor's single operations are sound, sixth part: slices that the call makes, appends, lengths, calls.
-/
import Derived.Test.YtpnnfimacblhgaaVci
import Derived.Laws.MakeOwn
set_option linter.unusedVariables false
set_option linter.unusedSimpArgs false
namespace Go.Vc
open Go

variable {P : Program} {X : Ctx} {w0 : World} {foot : Foot} {base : Mem} {S : St} {E : Env} {a : Act} {w : World} {ctx : Tags}

/-! ### Rows of values -/

/-- Some data, one behind the other. -/
def RowVals (F : Mem) (t : Ty) (xs : List t.den) (us : List Value) : Prop :=
  us.length = xs.length * t.size ∧ ∀ (i : Nat) (x : t.den), xs[i]? = some x → ∃ ws : List Value, Rep F t x ws ∧ ws.length = t.size ∧ ∀ (j : Nat) u, ws[j]? = some u → us[i * t.size + j]? = some u

theorem RowVals.nil {F : Mem} {t : Ty} : RowVals F t [] [] := ⟨by simp, fun i x hx => by simp at hx⟩

theorem RowVals.append {F : Mem} {t : Ty} {xs ys : List t.den} {us ws : List Value} (h : RowVals F t xs us) (k : RowVals F t ys ws) : RowVals F t (xs ++ ys) (us ++ ws) := by
  refine ⟨by simp [h.1, k.1, Nat.add_mul], fun i x hx => ?_⟩
  by_cases hi : i < xs.length
  · rw [List.getElem?_append_left hi] at hx
    obtain ⟨vs, h1, h2, h3⟩ := h.2 i x hx
    refine ⟨vs, h1, h2, fun j u hu => ?_⟩
    have := h3 j u hu
    rw [List.getElem?_append_left (List.getElem?_eq_some_iff.1 this).1]
    exact this
  · rw [List.getElem?_append_right (by omega)] at hx
    obtain ⟨vs, h1, h2, h3⟩ := k.2 _ x hx
    refine ⟨vs, h1, h2, fun j u hu => ?_⟩
    have := h3 j u hu
    have hm : xs.length * t.size ≤ i * t.size := Nat.mul_le_mul_right _ (by omega)
    rw [List.getElem?_append_right (by rw [h.1]; omega), h.1, ← this, Nat.sub_mul]
    congr 1
    omega

theorem RowVals.mono {F F' : Mem} (hF : F.le F') {t : Ty} {xs : List t.den} {us : List Value} (h : RowVals F t xs us) : RowVals F' t xs us :=
  ⟨h.1, fun i x hx => let ⟨ws, h1, h2⟩ := h.2 i x hx; ⟨ws, h1.mono hF, h2⟩⟩

theorem BRow.vals {p : Place} {fro : Bool} {e : Nat} {t : Ty} {xs : List t.den} {vs : Array Value} (hB : BRow E w p fro e t xs) (hv : w.heap[p.blk]? = some (.cells vs e (0, 0))) :
    RowVals E.F t xs (vs.toList.take (p.len * t.size)) ∧ vs.size = p.cap * t.size ∧ xs.length = p.len ∧ p.len ≤ p.cap ∧ p.cap ≤ maxLenI := by
  obtain ⟨h0, ⟨h1, h1'⟩, vs', h2, h3, h4, h5⟩ := hB
  rw [hv] at h2
  cases h2
  have hm : p.len * t.size ≤ p.cap * t.size := Nat.mul_le_mul_right _ h1'
  refine ⟨⟨by simp [h1]; omega, fun i x hx => ?_⟩, h3, h1, h1', h0⟩
  obtain ⟨us, k1, k2, k3⟩ := h5 i x hx
  refine ⟨us, k1, k2, fun j u hu => ?_⟩
  have hj := (List.getElem?_eq_some_iff.1 hu).1
  have hi := (List.getElem?_eq_some_iff.1 hx).1
  have hm : (i + 1) * t.size ≤ p.len * t.size := Nat.mul_le_mul_right _ (by omega)
  rw [Nat.succ_mul] at hm
  rw [List.getElem?_take_of_lt (by omega)]
  simpa using k3 j u hu

/-- A row of cells out of the values that it begins with. -/
theorem BRow.mk' {p : Place} {e : Nat} {t : Ty} {xs : List t.den} {us rest : List Value} (hv : RowVals E.F t xs us) (hc : p.cap ≤ maxLenI) (hl : xs.length = p.len) (hlc : p.len ≤ p.cap) {vs : Array Value}
    (hw : w.heap[p.blk]? = some (.cells vs e (0, 0))) (hvs : vs.toList = us ++ rest) (hs : vs.size = p.cap * t.size) : BRow E w p false e t xs := by
  refine ⟨hc, ⟨hl, hlc⟩, vs, hw, hs, (fun h => by cases h), fun i x hx => ?_⟩
  obtain ⟨ws, h1, h2, h3⟩ := hv.2 i x hx
  refine ⟨ws, h1, h2, fun j u hu => ?_⟩
  have := h3 j u hu
  rw [← Array.getElem?_toList, hvs, List.getElem?_append_left (List.getElem?_eq_some_iff.1 this).1]
  exact this

theorem zeroD_sound (hT : TabOk P X.tab) {t : Nat} {j : TI} (hj : (ti X t).run S ctx = some j) {ty : Ty} {z : ty.den} (hr : (zeroD j ty).run S ctx = some z) :
    ∃ i, P.info? t = some i ∧ i.size = j.size ∧ i.bytes = j.bytes ∧ i.zero = some j.zero ∧ ty.size = j.size ∧ 0 < j.size ∧ j.zero.cells.size = j.size ∧ ∀ F, Rep F ty z j.zero.cells.toList := by
  unfold zeroD at hr
  have hr0 := RM.run_bind' hr
  clear hr
  obtain ⟨cs, h1, hr⟩ := hr0
  have hr0 := RM.run_bind' hr
  clear hr
  obtain ⟨u, h2, hr⟩ := hr0
  have hr0 := RM.run_bind' hr
  clear hr
  obtain ⟨y, h3, hr⟩ := hr0
  have hr0 := RM.run_bind' hr
  clear hr
  obtain ⟨u', h4, hr⟩ := hr0
  cases RM.run_pure' hr
  obtain ⟨_, i, hi, e1, e2, e3⟩ := ti_spec hT hj
  have hb := run_guardR h2
  simp only [Bool.and_eq_true] at hb
  have hlen := Nat.eq_of_beq_eq_true hb.1.1
  have h1 := run_ofOption h1
  have hrep := fun F => constCs_rep (E := ⟨F, fun _ => none⟩) h1
  have hl := (hrep (fun _ => none)).length
  refine ⟨i, hi, e1, e2, e3, Nat.eq_of_beq_eq_true hb.1.2, Nat.le_of_ble_eq_true hb.2, by simpa using hl.trans hlen, fun F => ?_⟩
  obtain ⟨y, fr⟩ := y
  have hfr : fr = [] := by have := run_guardR h4; simpa using this
  subst hfr
  exact reify_rep (E := ⟨F, fun _ => none⟩) (w := default) h3 (hrep F) (fun q hq => by cases hq)

theorem getElem_mod {z : Array Value} {n i : Nat} (h : i < n) (hz : 0 < z.size) : (madeCells z n)[i]? = z[i % z.size]? := by
  have hm : i % z.size < z.size := Nat.mod_lt _ hz
  simp [madeCells, h, hm]

theorem RowVals.made {F : Mem} {t : Ty} {x : t.den} {z : Array Value} (hz : Rep F t x z.toList) (h0 : 0 < t.size) (n m : Nat) (hnm : n ≤ m) :
    RowVals F t (List.replicate n x) ((madeCells z (m * t.size)).toList.take (n * t.size)) := by
  have hl := hz.length
  simp only [Array.length_toList] at hl
  have hnm' : n * t.size ≤ m * t.size := Nat.mul_le_mul_right _ hnm
  refine ⟨by simp only [List.length_take, Array.length_toList, size_madeCells, List.length_replicate]; omega, fun i y hy => ?_⟩
  have hi : i < n := by have := (List.getElem?_eq_some_iff.1 hy).1; simpa using this
  rw [List.getElem?_replicate, if_pos hi] at hy
  cases hy
  refine ⟨z.toList, hz, by simpa using hl, fun j u hu => ?_⟩
  have hj : j < t.size := by have := (List.getElem?_eq_some_iff.1 hu).1; simp at this; omega
  have hm : (i + 1) * t.size ≤ n * t.size := Nat.mul_le_mul_right _ (by omega)
  rw [Nat.succ_mul] at hm
  rw [List.getElem?_take_of_lt (by omega), Array.getElem?_toList, getElem_mod (by omega) (by omega), hl]
  rw [show (i * t.size + j) % t.size = j by rw [Nat.add_comm, Nat.add_mul_mod_self_right, Nat.mod_eq_of_lt hj]]
  simpa using hu

/-- A new row. -/
theorem new_row (h : HRel w0 foot base S.bl S.used E w) {d e : Nat} {t : Ty} {xs : List t.den} {us rest : List Value} {vs : Array Value} {cap : Nat} (hd : d ∉ S.used) (hv : RowVals E.F t xs us) (hc : cap ≤ maxLenI) (hlc : xs.length ≤ cap)
    (hvs : vs.toList = us ++ rest) (hs : vs.size = cap * t.size) :
    HRel w0 foot base (put S.bl d (.row false e t xs)) (d :: S.used) (E.new d ⟨false, w.heap.size, cap, xs.length⟩) (w.alloc (.cells vs e)) ∧ E.le (E.new d ⟨false, w.heap.size, cap, xs.length⟩) ∧
    CRep (E.new d ⟨false, w.heap.size, cap, xs.length⟩) (.row t d) (.slice (some ⟨w.heap.size, 0, none⟩) xs.length cap) := by
  have hnone : E.place d = none := by
    cases he : E.place d with
    | none => rfl
    | some q => exact absurd (h.used d q he) hd
  have hle := Env.new_le (p := ⟨false, w.heap.size, cap, xs.length⟩) hnone
  refine ⟨h.alloc hd (fun _ => rfl) (Or.inr ⟨rfl, ?_⟩), hle, ⟨_, Env.new_same, .inr ⟨rfl, rfl, hlc, hc⟩⟩⟩
  exact BRow.mk' (p := ⟨false, w.heap.size, cap, xs.length⟩) (hv.mono hle.F) hc rfl hlc alloc_same hvs hs

theorem chunks_sound (w : World) {t : Ty} : ∀ {n : Nat} {cs : List C} {xs : List t.den} {us : List Value}, (chunksR t n cs).run S ctx = some xs → CReps E cs us → RowVals E.F t xs us ∧ xs.length = n
  | 0, cs, xs, us, h, hv => by
    unfold chunksR at h
    split at h
    · cases h
      have hv : us = [] := hv
      subst hv
      exact ⟨.nil, rfl⟩
    · cases h
  | n + 1, cs, xs, us, h, hv => by
    unfold chunksR at h
    obtain ⟨y, h1, h⟩ := RM.run_bind' h
    obtain ⟨u, h2, h⟩ := RM.run_bind' h
    obtain ⟨r, h3, h⟩ := RM.run_bind' h
    cases RM.run_pure' h
    have hf : y.2 = [] := List.isEmpty_iff.1 (run_guardR h2)
    have hy := reify_rep (x := y.1) (fr := y.2) (E := E) (w := w) h1 (hv.take t.size) (by rw [hf]; exact fun q hq => by cases hq)
    obtain ⟨k1, k2⟩ := chunks_sound w h3 (hv.drop t.size)
    refine ⟨?_, by simp [k2]⟩
    have := RowVals.append (xs := [y.1]) (us := us.take t.size) ⟨by simpa using hy.length, fun i x hx => by
      cases i with
      | zero =>
        have hx : y.1 = x := by simpa using hx
        subst hx
        exact ⟨_, hy, hy.length, fun j u hu => by simpa using hu⟩
      | succ i => simp at hx⟩ k1
    rwa [List.take_append_drop] at this

theorem allocA_ok (hT : TabOk P X.tab) (h : SRel w0 foot base S E a w) {o : Oper} {t d : Nat} (ho : o.op = .alloc t) {r : Res}
    (hr : (do
      let i ← ti X t
      match i.d with
      | .array n e => (do
        let j ← ti X e
        let ty ← RM.ofOption j.ty
        let cs ← RM.ofOption (constCs i.zero.cells.toList)
        guardR (Nat.blt 0 n && Nat.ble n 16777216)
        let xs ← chunksR ty n cs
        .ret { val := some (.one (.rptr ty d 0 0)), blks := [(d, .row false t ty xs)], new := [d] })
      | _ => (do
        let cs ← RM.ofOption (constCs i.zero.cells.toList)
        .ret { val := some (.one (.ptr d 0)), blks := [(d, .cells cs)], new := [d] }) : RM Res).run S ctx = some r)
    (hn : ∀ i ∈ r.new, i ∉ S.used) : OpOk P w0 foot base S E a w o r := by
  have hr0 := RM.run_bind' hr
  clear hr
  obtain ⟨i, h1, hr⟩ := hr0
  split at hr
  · rename_i n e hd
    obtain ⟨hs, j, hj, e1, e2, e3⟩ := ti_spec hT h1
    have hr0 := RM.run_bind' hr
    clear hr
    obtain ⟨j', h2, hr⟩ := hr0
    have hr0 := RM.run_bind' hr
    clear hr
    obtain ⟨ty, h3, hr⟩ := hr0
    have hr0 := RM.run_bind' hr
    clear hr
    obtain ⟨cs, h4, hr⟩ := hr0
    have hr0 := RM.run_bind' hr
    clear hr
    obtain ⟨u, h5, hr⟩ := hr0
    have hr0 := RM.run_bind' hr
    clear hr
    obtain ⟨xs, h6, hr⟩ := hr0
    cases hr
    have h5 := run_guardR h5
    simp only [Bool.and_eq_true] at h5
    have hn0 : 0 < n := Nat.le_of_ble_eq_true h5.1
    have hn1 : n ≤ 16777216 := Nat.le_of_ble_eq_true h5.2
    obtain ⟨k1, k2⟩ := chunks_sound (E := E) w h6 (constCs_rep (run_ofOption h4))
    have hsz : i.zero.cells.size = n * ty.size := by have := k1.1; rw [k2] at this; simpa using this
    obtain ⟨q1, q2, q3⟩ := new_row h.toHRel (e := t) (cap := n) (hn d (by simp)) k1 (by unfold maxLenI; omega) (by omega) (vs := i.zero.cells) (rest := []) (by simp) hsz
    obtain ⟨p, hp, _⟩ := q3
    have hp' : p = ⟨false, w.heap.size, n, xs.length⟩ := by
      have := Env.new_same (E := E) (id := d) (p := ⟨false, w.heap.size, n, xs.length⟩)
      rw [this] at hp
      cases hp
      rfl
    refine OpOk.value (v := .pointer (some ⟨w.heap.size, 0, none⟩)) (w' := w.alloc (.cells i.zero.cells t)) ?_ ⟨q2, q1, ?_⟩
    · simp [execOp, ho, Instr.alloc, run_zeroValue' hj e3, newVar, newRow]
    · refine ⟨_, Env.new_same, rfl, ?_, ?_⟩
      · show 0 < xs.length
        omega
      · simp
  · exact alloc_ok hT h ho h1 hr hn

theorem makeSlice_ok (hT : TabOk P X.tab) (h : SRel w0 foot base S E a w) (hc : TagsHold a ctx) {o : Oper} {t d : Nat} {l c : Operand} (ho : o.op = .makeSlice t l c) {r : Res}
    (hr : (do
      let i ← ti X t
      match i.d with
      | .slice e => (do
        let j ← ti X e
        let ty ← RM.ofOption j.ty
        let n ← asI (← ev l)
        let m ← asI (← ev c)
        let z ← zeroD j ty
        .ret { val := some (.one (.row ty d)), blks := [(d, .row false e ty (List.replicate n.toNat z))], new := [d], conds := [0 ≤ n ∧ n ≤ m, roomFor m.toNat j.bytes ∧ m ≤ maxLenI] })
      | _ => .fail : RM Res).run S ctx = some r) (hn : ∀ i ∈ r.new, i ∉ S.used) (hcond : ∀ c ∈ r.conds, c) : OpOk P w0 foot base S E a w o r := by
  have hr0 := RM.run_bind' hr
  clear hr
  obtain ⟨i, h1, hr⟩ := hr0
  obtain ⟨hs, _⟩ := ti_spec hT h1
  split at hr
  · rename_i e hd
    rw [hd] at hs
    have hr0 := RM.run_bind' hr
    clear hr
    obtain ⟨j, h2, hr⟩ := hr0
    have hr0 := RM.run_bind' hr
    clear hr
    obtain ⟨ty, h3, hr⟩ := hr0
    have hr0 := RM.run_bind' hr
    clear hr
    obtain ⟨s1, h4, hr⟩ := hr0
    have hr0 := RM.run_bind' hr
    clear hr
    obtain ⟨n, h5, hr⟩ := hr0
    have hr0 := RM.run_bind' hr
    clear hr
    obtain ⟨s2, h6, hr⟩ := hr0
    have hr0 := RM.run_bind' hr
    clear hr
    obtain ⟨m, h7, hr⟩ := hr0
    have hr0 := RM.run_bind' hr
    clear hr
    obtain ⟨z, h8, hr⟩ := hr0
    cases hr
    obtain ⟨i', g1, g2, g3, g4, g5, g6, g7, g8⟩ := zeroD_sound hT h2 h8
    obtain ⟨kl, el, _⟩ := asI_rep (ev_rep h hc h4) h5
    obtain ⟨kc, ec, _⟩ := asI_rep (ev_rep h hc h6) h7
    have c1 := hcond (0 ≤ n ∧ n ≤ m) (by simp)
    have c2 := hcond (roomFor m.toNat j.bytes ∧ m ≤ maxLenI) (by simp)
    have hb : (i'.bytes : Int) * m ≤ 281474976710656 := by
      have h1 := c2.1
      unfold roomFor at h1
      rw [Nat.mul_add] at h1
      have : ((m.toNat * j.bytes : Nat) : Int) = m * (j.bytes : Int) := by
        rw [Int.natCast_mul, Int.toNat_of_nonneg (by omega)]
      rw [g3, Int.mul_comm, ← this]
      omega
    have hmk := run_make (P := P) w t e i' j.zero (skel_slice hs) g1 g4 kl kc n m c1.1 c1.2 hb (by have := c2.2; unfold maxLenI at this; omega)
    rw [g2, ← g5] at hmk
    obtain ⟨k1, k2, k3⟩ := new_row h.toHRel (e := e) (cap := m.toNat) (hn d (by simp)) (RowVals.made (g8 E.F) (by omega) n.toNat m.toNat (by omega)) (by have := c2.2; omega) (by simp; omega)
      (vs := madeCells j.zero.cells (m.toNat * ty.size)) (rest := (madeCells j.zero.cells (m.toNat * ty.size)).toList.drop (n.toNat * ty.size)) (List.take_append_drop _ _).symm (size_madeCells _ _)
    rw [List.length_replicate] at k1 k2 k3
    refine OpOk.value (v := _) (w' := _) ?_ ⟨k2, k1, k3⟩
    simp only [execOp, ho, el, ec, Sem.run_bind, hmk, Result.andThen_ok]
    rfl
  · cases hr

/-! ### What is appended -/

/-- A source of appended data: its cells in memory. -/
theorem src_sound (h : HRel w0 foot base S.bl S.used E w) {t : Ty} (h0 : 0 < t.size) {c : C} {v : Value} (hv : CRep E c v) {ys : List t.den} (hr : (srcR t c).run S ctx = some ys) :
    (v = .slice none 0 0 ∧ ys = []) ∨ ∃ ad cap news, v = .slice (some ad) ys.length cap ∧ RowVals E.F t ys news ∧ ∀ (j : Nat) u, news[j]? = some u → w.cell? (ad.add j) = some u := by
  unfold srcR at hr
  split at hr
  · rename_i t' xs
    obtain ⟨e, rfl⟩ := Ty.as_some (run_ofOption hr)
    cases e
    obtain ⟨_, aa, cap, g1, g2, g3, g4, g5⟩ := hv
    simp only [List.cons.injEq, and_true] at g1
    cases aa with
    | none =>
      have := g4 rfl
      have hx : Ty.L xs = [] := List.eq_nil_of_length_eq_zero (by omega)
      exact .inl ⟨by rw [g1, hx, this]; rfl, hx⟩
    | some p =>
      refine .inr ⟨p, cap, ?_⟩
      by_cases hx : Ty.L xs = []
      · refine ⟨[], g1, ?_, fun j u hu => by simp at hu⟩
        show RowVals _ _ (Ty.L xs) _
        rw [hx]
        exact .nil
      · have hpos : 0 < (Ty.L xs).length := List.length_pos_iff.2 hx
        obtain ⟨hsp, us0, m1, m2, m3⟩ := g5 p rfl 0 _ (List.getElem?_eq_getElem hpos)
        obtain ⟨b, off, spot⟩ := p
        simp only at hsp
        subst hsp
        obtain ⟨cs, ee, mm, hF, _⟩ := m3 0 us0[0] (List.getElem?_eq_getElem (by omega))
        have get : ∀ (i : Nat) x, (Ty.L xs)[i]? = some x → ∃ ws : List Value, Rep E.F _ x ws ∧ ws.length = Ty.size _ ∧ ∀ (j : Nat) u, ws[j]? = some u → cs[off + (i * Ty.size _ + j)]? = some u := fun i x hx => by
          obtain ⟨_, ws, n1, n2, n3⟩ := g5 _ rfl i x hx
          refine ⟨ws, n1, n2, fun j u hu => ?_⟩
          obtain ⟨cs', ee', mm', hF', hc⟩ := n3 j u hu
          rw [hF] at hF'
          cases hF'
          exact hc
        refine ⟨(cs.toList.drop off).take ((Ty.L xs).length * t.size), g1, ⟨?_, fun i x hx => ?_⟩, fun j u hu => ?_⟩
        · obtain ⟨ws, n1, n2, n3⟩ := get ((Ty.L xs).length - 1) _ (List.getElem?_eq_getElem (by omega))
          have hlast := n3 (t.size - 1) ws[t.size - 1] (List.getElem?_eq_getElem (by omega))
          have hlt := (Array.getElem?_eq_some_iff.1 hlast).1
          have hm : ((Ty.L xs).length - 1) * t.size + t.size = (Ty.L xs).length * t.size := by
            rw [← Nat.succ_mul]; congr 1; omega
          show _ = (Ty.L xs).length * t.size
          simp only [List.length_take, List.length_drop, Array.length_toList]
          omega
        · obtain ⟨ws, n1, n2, n3⟩ := get i x hx
          refine ⟨ws, n1, n2, fun j u hu => ?_⟩
          have hj := (List.getElem?_eq_some_iff.1 hu).1
          have hi : i < (Ty.L xs).length := (List.getElem?_eq_some_iff.1 hx).1
          have hm : (i + 1) * t.size ≤ (Ty.L xs).length * t.size := Nat.mul_le_mul_right _ (by omega)
          rw [Nat.succ_mul] at hm
          rw [List.getElem?_take_of_lt (by omega), List.getElem?_drop, Array.getElem?_toList]
          exact n3 j u hu
        · have hj : j < (Ty.L xs).length * t.size := by
            have := (List.getElem?_eq_some_iff.1 hu).1
            simp at this
            omega
          rw [List.getElem?_take_of_lt hj, List.getElem?_drop, Array.getElem?_toList] at hu
          rw [addr_add, cell_of_heap (h.frz _ _ hF)]
          exact hu
  · rename_i tt b
    simp only [RM.run] at hr
    split at hr
    · rename_i B hf
      split at hr
      · rename_i fro e t' xs
        split at hr
        · rename_i htt
          obtain ⟨ee, rfl⟩ := Ty.as_some (run_ofOption hr)
          cases ee
          obtain ⟨p, hp, hk⟩ := hv
          obtain ⟨p', hp', hB⟩ := h.blks _ _ hf
          rw [hp] at hp'; cases hp'
          rcases hk with ⟨hn', hv, hz⟩ | ⟨hn', hv, g1, g2⟩
          · have hx : xs = [] := List.eq_nil_of_length_eq_zero (by rw [hB.row_len, hz])
            exact .inl ⟨hv, hx⟩
          · rcases hB with ⟨hn'', _⟩ | ⟨_, hB⟩
            · rw [hn'] at hn''; cases hn''
            · obtain ⟨_, _, vs, hw, _⟩ := id hB
              obtain ⟨k1, k2, k3, k4, k5⟩ := hB.vals hw
              refine .inr ⟨_, _, _, by rw [hv]; congr 1; exact k3.symm, k1, fun j u hu => ?_⟩
              have hj := (List.getElem?_eq_some_iff.1 hu).1
              simp only [List.length_take] at hj
              rw [List.getElem?_take_of_lt (by omega), Array.getElem?_toList] at hu
              rw [addr_add, cell_of_heap hw]
              simpa using hu
        · cases hr
      · cases hr
    · cases hr
  · rename_i tt b lo len
    simp only [RM.run] at hr
    split at hr
    · rename_i B hf
      split at hr
      · rename_i fro e t' xs
        split at hr
        · rename_i htt
          have htt := Ty.beq_eq htt
          subst htt
          obtain ⟨ee, rfl⟩ := Ty.as_some (run_ofOption hr)
          cases ee
          obtain ⟨p, hp, hl, hk⟩ := hv
          obtain ⟨p', hp', hB⟩ := h.blks _ _ hf
          rw [hp] at hp'; cases hp'
          have hlen := hB.row_len
          have hyl : ((xs.drop lo).take len).length = len := by simp [hlen]; omega
          rcases hk with ⟨hn', hv, hz⟩ | ⟨hn', aa, hv, g1, g2, g3⟩
          · exact .inl ⟨hv, List.eq_nil_of_length_eq_zero (hyl.trans (by omega))⟩
          · rcases hB with ⟨hn'', _⟩ | ⟨_, hB⟩
            · rw [hn'] at hn''; cases hn''
            · obtain ⟨_, _, vs, hw, _⟩ := id hB
              obtain ⟨k1, k2, k3, k4, k5⟩ := hB.vals hw
              rcases g3 with g3 | rfl
              · have hl0 : len = 0 := by omega
                subst hl0
                exact .inr ⟨aa, _, [], hv, by simp only [List.take_zero]; exact .nil, fun j u hu => by simp at hu⟩
              · have hm1 : (lo + len) * t.size ≤ p.len * t.size := Nat.mul_le_mul_right _ hl
                have hm2 : p.len * t.size ≤ p.cap * t.size := Nat.mul_le_mul_right _ k4
                rw [Nat.add_mul] at hm1
                refine .inr ⟨_, _, (vs.toList.drop (lo * t.size)).take (len * t.size), by rw [hv]; congr 1; exact hyl.symm, ⟨?_, fun i x hx => ?_⟩, fun j u hu => ?_⟩
                · show _ = ((xs.drop lo).take len).length * t.size
                  rw [hyl]
                  simp only [List.length_take, List.length_drop, Array.length_toList]
                  rw [k2]
                  omega
                · have hx2 : ((xs.drop lo).take len)[i]? = some x := hx
                  have hi : i < len := by
                    have := (List.getElem?_eq_some_iff.1 hx2).1
                    omega
                  have hx' : xs[lo + i]? = some x := by
                    rw [List.getElem?_take_of_lt hi, List.getElem?_drop] at hx2
                    exact hx2
                  obtain ⟨ws, n1, n2, n3⟩ := k1.2 _ x hx'
                  refine ⟨ws, n1, n2, fun j u hu => ?_⟩
                  have hj := (List.getElem?_eq_some_iff.1 hu).1
                  have hm3 : (i + 1) * t.size ≤ len * t.size := Nat.mul_le_mul_right _ (by omega)
                  rw [Nat.succ_mul] at hm3
                  have := n3 j u hu
                  rw [Nat.add_mul] at this
                  rw [List.getElem?_take_of_lt (by omega)] at this
                  rw [List.getElem?_take_of_lt (by omega), List.getElem?_drop, ← Nat.add_assoc]
                  exact this
                · have hj := (List.getElem?_eq_some_iff.1 hu).1
                  simp only [List.length_take] at hj
                  rw [List.getElem?_take_of_lt (by omega), List.getElem?_drop, Array.getElem?_toList] at hu
                  rw [addr_add, cell_of_heap hw]
                  exact hu
        · cases hr
      · cases hr
    · cases hr
  · cases hr
    exact .inl ⟨hv, rfl⟩
  · cases hr

end Go.Vc

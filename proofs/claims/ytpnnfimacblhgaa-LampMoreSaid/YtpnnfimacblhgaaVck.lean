/-
  The executor's single operations are sound, seventh part: appends, literal slices, lengths, calls by contract; all operations together.
-/
import Derived.Test.YtpnnfimacblhgaaVcj
import Derived.Lib.MinMax
set_option linter.unusedVariables false
set_option linter.unusedSimpArgs false
namespace Go.Vc
open Go

variable {P : Program} {X : Ctx} {w0 : World} {foot : Foot} {base : Mem} {S : St} {E : Env} {a : Act} {w : World} {ctx : Tags}

theorem find_rem {bl : List (Nat × Blk)} {b i : Nat} {B : Blk} (h : find (rem bl b) i = some B) : find bl i = some B ∧ b ≠ i := find_rem_some h

theorem HRel.drop {bl : List (Nat × Blk)} {used : List Nat} (h : HRel w0 foot base bl used E w) (b : Nat) : HRel w0 foot base (rem bl b) used E w :=
  h.congr (fun id B hf => (find_rem hf).1) (fun _ hi => hi)

/-- A block of memory that is nobody's any more gets a new number and a new content. -/
theorem HRel.attach {bl : List (Nat × Blk)} {used : List Nat} (h : HRel w0 foot base bl used E w) {d g : Nat} {p : Place} {B : Blk} {o : Obj} (hd : d ∉ used) (hp : p.nil = false) (hb : p.blk = g) (hg : g < w.heap.size)
    (hown : w0.heap.size ≤ g ∨ foot g) (hF : E.F g = none) (hno : ∀ i B' q, find bl i = some B' → E.place i = some q → q.nil = false → q.blk ≠ g)
    (hB : BRep (E.new d p) (setBlk w g o) p B) : HRel w0 foot base (put bl d B) (d :: used) (E.new d p) (setBlk w g o) := by
  have hnone : E.place d = none := by
    cases he : E.place d with
    | none => rfl
    | some q => exact absurd (h.used d q he) hd
  have hle := Env.new_le (p := p) hnone
  have hbl : ∀ i B', i ≠ d → find (put bl d B) i = some B' → find bl i = some B' := fun i B' hi hf => by rwa [find_put_other _ _ _ _ (Ne.symm hi)] at hf
  refine ⟨⟨h.keep.os, h.keep.tape, h.keep.output, Nat.le_trans h.keep.size (by simp [setBlk]), fun k hk hfk => (setBlk_other fun e => ?_).trans (h.keep.block k hk hfk)⟩, fun b o' hb' => ?_, h.src, fun i B' hf => ?_, fun i B' q hf hq hn => ?_, fun i j B' B'' q q' hf hf' hq hq' hn hn' hij => ?_, fun i q hq => ?_⟩
  · subst e
    rcases hown with h1 | h1
    · omega
    · exact hfk h1
  · rw [setBlk_other]
    · exact h.frz b o' hb'
    · rintro rfl
      have : E.F b = some o' := hb'
      rw [hF] at this
      cases this
  · by_cases hi : i = d
    · subst hi
      rw [find_put_same] at hf
      cases hf
      exact ⟨p, Env.new_same, hB⟩
    · obtain ⟨q, hq, k⟩ := h.blks i B' (hbl i B' hi hf)
      exact ⟨q, hle.place _ _ hq, (k.mono hle).world fun hn => setBlk_other (hno i B' q (hbl i B' hi hf) hq hn)⟩
  · by_cases hi : i = d
    · subst hi
      rw [Env.new_same] at hq
      cases hq
      rw [hb]
      exact ⟨hown, fun _ => hF⟩
    · rw [Env.new_other hi] at hq
      exact h.own i B' q (hbl i B' hi hf) hq hn
  · by_cases hi : i = d
    · have hj : j ≠ d := fun e => hij (hi.trans e.symm)
      rw [Env.new_other hj] at hq'
      have := hno j B'' q' (hbl j B'' hj hf') hq' hn'
      subst hi
      rw [Env.new_same] at hq
      cases hq
      rw [hb]
      exact Ne.symm this
    · by_cases hj : j = d
      · rw [Env.new_other hi] at hq
        have := hno i B' q (hbl i B' hi hf) hq hn
        subst hj
        rw [Env.new_same] at hq'
        cases hq'
        rw [hb]
        exact this
      · rw [Env.new_other hi] at hq
        rw [Env.new_other hj] at hq'
        exact h.inj i j B' B'' q q' (hbl i B' hi hf) (hbl j B'' hj hf') hq hq' hn hn' hij
  · by_cases hi : i = d
    · exact hi ▸ List.mem_cons_self
    · rw [Env.new_other hi] at hq
      exact List.mem_cons_of_mem _ (h.used i q hq)

theorem roomFor_bytes {n b : Nat} (h : roomFor n b) : n * b ≤ 140737488355328 ∧ n ≤ 140737488355328 := by
  unfold roomFor at h
  rw [Nat.mul_add] at h
  omega

theorem run_append_none_nil {t e ty : Nat} {j : TypeInfo} (ht : P.underlying t = some (.slice e)) (hi : P.info? e = some j) {b : Option Addr} {n c : Nat} (hnc : n ≤ c) (hb : b = none → n = 0 ∧ c = 0) :
    (Builtin.append_ #[t, t] ty #[.slice b n c, .slice none 0 0]).run P w = .ok (.slice b n c) w := by
  cases b with
  | none => obtain ⟨rfl, rfl⟩ := hb rfl; simp [Builtin.append_, run_underlying ht, run_sizeOf' hi, Builtin.lenOf, Builtin.firstCells]
  | some a => simp [Builtin.append_, run_underlying ht, run_sizeOf' hi, Builtin.lenOf, Builtin.firstCells, hnc, storeCells]

theorem run_append_nil_empty {t e ty : Nat} {j : TypeInfo} (ht : P.underlying t = some (.slice e)) (hi : P.info? e = some j) {a : Addr} {c : Nat} :
    (Builtin.append_ #[t, t] ty #[.slice none 0 0, .slice (some a) 0 c]).run P w = .ok (.slice none 0 0) w := by
  simp [Builtin.append_, run_underlying ht, run_sizeOf' hi, Builtin.lenOf, Builtin.firstCells, loadCells, loadCellsFrom]

theorem size_zeroCells' (z : Array Value) (n : Nat) : (Builtin.zeroCells z n).size = n * z.size := by simp [Builtin.zeroCells]

theorem grownCap_bounds (w : World) (n old : Nat) (e : Nat) (h : n ≤ maxLenI) : n ≤ grownCap w n old e ∧ grownCap w n old e ≤ maxLenI := by
  have h1 := grownCap_ge w n old e
  have h2 := grownCap_le_maxLen w n old e (by simp only [maxLen]; unfold maxLenI at h; omega)
  refine ⟨h1, ?_⟩
  simp only [maxLen] at h2
  unfold maxLenI
  omega

theorem put_rem_eq {bl : List (Nat × Blk)} {b d : Nat} {B : Blk} {v : Option SV} {cs : List Prop} {new : List Nat} :
    applyBl { val := v, blks := [(d, B)], del := [b], new := new, conds := cs } bl = put (rem bl b) d B := rfl

theorem append_ok (hT : TabOk P X.tab) (h : SRel w0 foot base S E a w) (hc : TagsHold a ctx) {o : Oper} {s x : Operand} {t : Nat} {d : Nat} {args : Array Operand} {ats : Array Nat} (ho : o.op = .call { callee := .builtin .append, args := args, argTypes := ats })
    (hargs : args.toList = [s, x]) (hats : ats.toList = [t, t]) {r : Res}
    (hr : (do
      let i ← ti X t
      match i.d with
      | .slice e => (do
        let j ← ti X e
        let ty ← RM.ofOption j.ty
        let _ ← zeroD j ty
        let c ← evC s
        appendR d e j ty c (← evC x))
      | _ => .fail : RM Res).run S ctx = some r) (hn : ∀ i ∈ r.new, i ∉ S.used) (hcond : ∀ c ∈ r.conds, c) : OpOk P w0 foot base S E a w o r := by
  obtain rfl : args = #[s, x] := by apply Array.ext'; simpa using hargs
  obtain rfl : ats = #[t, t] := by apply Array.ext'; simpa using hats
  have hr0 := RM.run_bind' hr
  clear hr
  obtain ⟨i, h1, hr⟩ := hr0
  obtain ⟨hs, _⟩ := ti_spec hT h1
  split at hr
  · rename_i e hd
    rw [hd] at hs
    have hu := skel_slice hs
    have hr0 := RM.run_bind' hr
    clear hr
    obtain ⟨j, h2, hr⟩ := hr0
    have hr0 := RM.run_bind' hr
    clear hr
    obtain ⟨ty, h3, hr⟩ := hr0
    have hr0 := RM.run_bind' hr
    clear hr
    obtain ⟨z, h4, hr⟩ := hr0
    have hr0 := RM.run_bind' hr
    clear hr
    obtain ⟨c, h5, hr⟩ := hr0
    have hr0 := RM.run_bind' hr
    clear hr
    obtain ⟨c', h6, hr⟩ := hr0
    obtain ⟨j', g1, g2, g3, g4, g5, g6, g7, g8⟩ := zeroD_sound hT h2 h4
    have hsv := evC_rep h hc h5
    have hxv := evC_rep h hc h6
    unfold appendR at hr
    have hr0 := RM.run_bind' hr
    clear hr
    obtain ⟨ys, h7, hr⟩ := hr0
    have hsrc := src_sound h.toHRel (by omega) hxv h7
    have run : ∀ v w', (Builtin.append_ #[t, t] o.type #[a.eval s, a.eval x]).run P w = .ok v w' → (execOp a.eval o).run P w = .ok (.value v) w' := fun v w' hv => by
      simp [execOp, ho, resolve, invoke, builtin, hv]
    have fresh : ∀ {xs : List ty.den} {us : List Value} {v : Value} {S' : St} {cap : Nat} {vs : Array Value} {rest : List Value}, S'.used = S.used → HRel w0 foot base S'.bl S'.used E w.drew → d ∉ S.used → RowVals E.F ty xs us → cap ≤ maxLenI → xs.length ≤ cap →
        vs.toList = us ++ rest → vs.size = cap * ty.size →
        HRel w0 foot base (put S'.bl d (.row false e ty xs)) (d :: S'.used) (E.new d ⟨false, w.heap.size, cap, xs.length⟩) (w.drew.alloc (.cells vs e)) ∧ E.le (E.new d ⟨false, w.heap.size, cap, xs.length⟩) ∧
        CRep (E.new d ⟨false, w.heap.size, cap, xs.length⟩) (.row ty d) (.slice (some ⟨w.heap.size, 0, none⟩) xs.length cap) := fun he hh hd hv hc hl hvs hsz => by
      exact new_row (S := _) (w := w.drew) hh (by rw [he]; exact hd) hv hc hl hvs hsz
    split at hr
    · cases hr
      have hdn : d ∉ S.used := hn d (by simp)
      have hnone : E.place d = none := by
        cases he : E.place d with
        | none => rfl
        | some q => exact absurd (h.used d q he) hdn
      have hroom := roomFor_bytes (hcond _ (List.mem_singleton.2 rfl))
      have hsv : a.eval s = .slice none 0 0 := hsv
      have nilcase : ys = [] → (Builtin.append_ #[t, t] o.type #[a.eval s, a.eval x]).run P w = .ok (.slice none 0 0) w → OpOk P w0 foot base S E a w o { val := some (.one (.row ty d)), blks := [(d, .row false e ty ys)], new := [d], conds := [roomFor ys.length j.bytes] } := fun hy hrun => by
        refine OpOk.value (run _ _ hrun) ⟨Env.new_le (p := ⟨true, 0, 0, 0⟩) hnone, h.toHRel.nilrow hdn rfl (Or.inl ⟨rfl, hy, rfl⟩), ⟨_, Env.new_same, .inl ⟨rfl, rfl, rfl⟩⟩⟩
      rcases hsrc with ⟨hxe, hy⟩ | ⟨ad, cap, news, hxe, hnv, hcell⟩
      · refine nilcase hy ?_
        rw [hsv, hxe]
        exact run_append_none_nil hu g1 (Nat.le_refl _) (fun _ => ⟨rfl, rfl⟩)
      · by_cases hy : ys = []
        · refine nilcase hy ?_
          rw [hsv, hxe, hy]
          exact run_append_nil_empty hu g1
        · have hpos : 0 < ys.length := List.length_pos_iff.2 hy
          have hrun := run_append_nil (P := P) w t o.type e j' j.zero hu g1 g4 ad ys.length cap news (by rw [hnv.1, g5, g2]) hcell hpos (by omega) (by rw [g3]; omega)
          rw [← hsv, ← hxe] at hrun
          obtain ⟨b1, b2⟩ := grownCap_bounds w ys.length 0 e (by unfold maxLenI; omega)
          obtain ⟨k1, k2, k3⟩ := fresh (S' := S) (v := .nilFunc) rfl (h.toHRel.drew _) hdn hnv b2 b1 (vs := news.toArray ++ Builtin.zeroCells j.zero.cells (grownCap w ys.length 0 e - ys.length)) (by simp; rfl)
            (by simp only [Array.size_append, List.size_toArray, hnv.1, size_zeroCells', g7, ← g5, ← Nat.add_mul]; congr 1; omega)
          exact OpOk.value (run _ _ hrun) ⟨k2, k1, k3⟩
    · rename_i tt b
      simp only [RM.run] at hr
      split at hr
      · rename_i B hf
        split at hr
        · rename_i e' t' xs
          split at hr
          · rename_i hb
            simp only [Bool.and_eq_true] at hb
            have he := Nat.eq_of_beq_eq_true hb.2
            subst he
            have hr0 := RM.run_bind' hr
            clear hr
            obtain ⟨zs, h8, hr⟩ := hr0
            cases hr
            obtain ⟨ee, rfl⟩ := Ty.as_some (run_ofOption h8)
            cases ee
            have hdn : d ∉ S.used := hn d (by simp)
            have hnone : E.place d = none := by
              cases he : E.place d with
              | none => rfl
              | some q => exact absurd (h.used d q he) hdn
            have hroom := roomFor_bytes (hcond (roomFor (xs.length + ys.length) j.bytes) (List.mem_singleton.2 rfl))
            obtain ⟨p, hp, hk⟩ := hsv
            obtain ⟨p', hp', hB⟩ := h.blks _ _ hf
            rw [hp] at hp'; cases hp'
            have hdrop := h.toHRel.drop b
            rcases hk with ⟨hn', hv, hz⟩ | ⟨hn', hv, q1, q2⟩
            · -- nil so far
              have hx : xs = [] := List.eq_nil_of_length_eq_zero (by rw [hB.row_len, hz])
              subst hx
              have nilcase : ys = [] → (Builtin.append_ #[t, t] o.type #[a.eval s, a.eval x]).run P w = .ok (.slice none 0 0) w → OpOk P w0 foot base S E a w o { val := some (.one (.row ty d)), blks := [(d, .row false e ty ([] ++ ys))], del := [b], new := [d], conds := [roomFor (0 + ys.length) j.bytes] } := fun hy hrun => by
                refine OpOk.value (run _ _ hrun) ⟨Env.new_le (p := ⟨true, 0, 0, 0⟩) hnone, hdrop.nilrow hdn rfl (Or.inl ⟨rfl, hy, rfl⟩), ⟨_, Env.new_same, .inl ⟨rfl, rfl, rfl⟩⟩⟩
              rcases hsrc with ⟨hxe, hy⟩ | ⟨ad, cap, news, hxe, hnv, hcell⟩
              · refine nilcase hy ?_
                rw [hv, hxe]
                exact run_append_none_nil hu g1 (Nat.le_refl _) (fun _ => ⟨rfl, rfl⟩)
              · by_cases hy : ys = []
                · refine nilcase hy ?_
                  rw [hv, hxe, hy]
                  exact run_append_nil_empty hu g1
                · have hpos : 0 < ys.length := List.length_pos_iff.2 hy
                  simp only [List.length_nil, Nat.zero_add] at hroom
                  have hrun := run_append_nil (P := P) w t o.type e j' j.zero hu g1 g4 ad ys.length cap news (by rw [hnv.1, g5, g2]) hcell hpos (by omega) (by rw [g3]; omega)
                  rw [← hv, ← hxe] at hrun
                  obtain ⟨b1, b2⟩ := grownCap_bounds w ys.length 0 e (by unfold maxLenI; omega)
                  obtain ⟨k1, k2, k3⟩ := fresh (S' := { S with bl := rem S.bl b }) (v := .nilFunc) rfl (hdrop.drew _) hdn hnv b2 b1 (vs := news.toArray ++ Builtin.zeroCells j.zero.cells (grownCap w ys.length 0 e - ys.length)) (by simp; rfl)
                    (by simp only [Array.size_append, List.size_toArray, hnv.1, size_zeroCells', g7, ← g5, ← Nat.add_mul]; congr 1; omega)
                  exact OpOk.value (run _ _ hrun) ⟨k2, k1, k3⟩
            · rcases hB with ⟨hn'', _⟩ | ⟨_, hB⟩
              · rw [hn'] at hn''; cases hn''
              · obtain ⟨_, _, cur, hw, _⟩ := id hB
                obtain ⟨k1, k2, k3, k4, k5⟩ := hB.vals hw
                have hmul : p.len * ty.size ≤ p.cap * ty.size := Nat.mul_le_mul_right _ k4
                have own := h.own b _ p hf hp hn'
                -- the appended values
                have hnews : ∃ news, RowVals E.F ty ys news ∧ ((a.eval x = .slice none 0 0 ∧ news = []) ∨ ∃ ad cap, a.eval x = .slice (some ad) ys.length cap ∧ ∀ (j : Nat) u, news[j]? = some u → w.cell? (ad.add j) = some u) := by
                  rcases hsrc with ⟨hxe, hy⟩ | ⟨ad, cap, news, hxe, hnv, hcell⟩
                  · exact ⟨[], by rw [hy]; exact .nil, .inl ⟨hxe, rfl⟩⟩
                  · exact ⟨news, hnv, .inr ⟨ad, cap, hxe, hcell⟩⟩
                obtain ⟨news, hnv, hx⟩ := hnews
                have hnl := hnv.1
                by_cases hfit : p.len + ys.length ≤ p.cap
                · -- in place
                  have hmul2 : (p.len + ys.length) * ty.size ≤ p.cap * ty.size := Nat.mul_le_mul_right _ hfit
                  rw [Nat.add_mul] at hmul2
                  have hone : ∀ u ∈ news, u.oneCell' = true := fun u hu => by
                    rcases hx with ⟨_, rfl⟩ | ⟨ad, cap, hxe, hcell⟩
                    · cases hu
                    · obtain ⟨n, hnlt, rfl⟩ := List.mem_iff_getElem.1 hu
                      have hn0 : n < ys.length * ty.size := by rw [← hnl]; exact hnlt
                      have hi : n / ty.size < ys.length := Nat.div_lt_of_lt_mul (by rw [Nat.mul_comm]; exact hn0)
                      obtain ⟨ws, r1, r2, r3⟩ := hnv.2 (n / ty.size) _ (List.getElem?_eq_getElem hi)
                      have hm := Nat.mod_lt n (show ty.size > 0 by omega)
                      have := r3 (n % ty.size) ws[n % ty.size] (List.getElem?_eq_getElem (by omega))
                      rw [Nat.mul_comm, Nat.div_add_mod, List.getElem?_eq_getElem hnlt] at this
                      rw [Option.some.inj this]
                      exact (CReps_flat (E := ⟨E.F, fun _ => none⟩) r1).oneCell _ (List.getElem_mem _)
                  have hrun : (Builtin.append_ #[t, t] o.type #[a.eval s, a.eval x]).run P w = .ok (.slice (some ⟨p.blk, 0, none⟩) (p.len + ys.length) p.cap) (setBlk w p.blk (.cells (cur.toList.take (p.len * ty.size) ++ news ++ cur.toList.drop (p.len * ty.size + news.length)).toArray e (0, 0))) := by
                    rw [hv]
                    rcases hx with ⟨hxe, rfl⟩ | ⟨ad, cap, hxe, hcell⟩
                    · have hy0 : ys.length = 0 := by
                        have : ys.length * ty.size = 0 := by rw [← hnl]; rfl
                        rcases Nat.mul_eq_zero.1 this with h | h
                        · exact h
                        · omega
                      rw [hxe, run_append_none_nil hu g1 k4 (fun h => by cases h), hy0]
                      simp only [List.append_nil, List.length_nil, Nat.add_zero, List.take_append_drop, Array.toArray_toList]
                      congr 1
                      rw [← setRow_eq hw, setRow_self w p.blk cur e (0, 0) hw]
                    · have := run_append_room (P := P) w t o.type e j' hu g1 p.blk p.len p.cap cur hw ad ys.length cap news (by rw [hnl, g5, g2]) hcell hone hfit (by rw [g2, ← g5, hnl, k2]; omega)
                      rw [hxe, this, setRow_eq hw, g2, ← g5]
                  have hlen : (xs ++ ys).length = p.len + ys.length := by simp [k3]
                  have hvals := k1.append hnv
                  have hne : ∀ i B' q, find (rem S.bl b) i = some B' → E.place i = some q → q.nil = false → q.blk ≠ p.blk := fun i B' q hf' hq hqn => by
                    obtain ⟨hf1, hf2⟩ := find_rem hf'
                    exact h.inj i b B' _ q p hf1 hf hq hp hqn hn' (Ne.symm hf2)
                  have hatt := hdrop.attach (p := ⟨false, p.blk, p.cap, p.len + ys.length⟩) (B := .row false e ty (xs ++ ys)) (o := .cells (cur.toList.take (p.len * ty.size) ++ news ++ cur.toList.drop (p.len * ty.size + news.length)).toArray e (0, 0)) hdn rfl rfl (heap_lt hw) own.1 (own.2 rfl) hne
                    (Or.inr ⟨rfl, BRow.mk' (p := ⟨false, p.blk, p.cap, p.len + ys.length⟩) (hvals.mono (Env.new_le hnone).F) k5 hlen hfit (setBlk_same (heap_lt hw)) rfl (by
                      simp only [List.size_toArray, List.length_append, List.length_take, List.length_drop, Array.length_toList]
                      rw [k2, hnl]
                      omega)⟩)
                  exact OpOk.value (run _ _ hrun) ⟨Env.new_le hnone, hatt, ⟨_, Env.new_same, .inr ⟨rfl, rfl, hfit, k5⟩⟩⟩
                · -- a new array
                  rcases hx with ⟨hxe, hne⟩ | ⟨ad, cap, hxe, hcell⟩
                  · subst hne
                    have : ys.length * ty.size = 0 := by rw [← hnl]; rfl
                    rcases Nat.mul_eq_zero.1 this with h | h <;> omega
                  · have hrun := run_append_grow (P := P) w t o.type e j' j.zero hu g1 g4 ⟨p.blk, 0, none⟩ p.len p.cap (cur.toList.take (p.len * ty.size)) (by rw [k1.1, k3, g5, g2]) (fun jj u hu => by
                        rw [addr_add, cell_of_heap hw]
                        have hjj := (List.getElem?_eq_some_iff.1 hu).1
                        simp only [List.length_take] at hjj
                        rw [List.getElem?_take_of_lt (by omega), Array.getElem?_toList] at hu
                        simpa using hu) ad ys.length cap news (by rw [hnl, g5, g2]) hcell (by omega) (by rw [k3] at hroom; omega) (growslice_fits (by omega) (by rw [g3, ← k3]; exact hroom.1))
                    rw [← hv, ← hxe] at hrun
                    obtain ⟨b1, b2⟩ := grownCap_bounds w (p.len + ys.length) p.cap e (by unfold maxLenI; rw [k3] at hroom; omega)
                    have hlen : (xs ++ ys).length = p.len + ys.length := by simp [k3]
                    obtain ⟨m1, m2, m3⟩ := fresh (S' := { S with bl := rem S.bl b }) (v := .nilFunc) (xs := xs ++ ys) rfl (hdrop.drew _) hdn (k1.append hnv) b2 (by rw [hlen]; exact b1)
                      (vs := (cur.toList.take (p.len * ty.size)).toArray ++ news.toArray ++ Builtin.zeroCells j.zero.cells (grownCap w (p.len + ys.length) p.cap e - (p.len + ys.length))) (by simp; rfl)
                      (by simp only [Array.size_append, List.size_toArray, hnl, k1.1, k3, size_zeroCells', g7, ← g5, ← Nat.add_mul]; congr 1; omega)
                    rw [hlen] at m1 m2 m3
                    exact OpOk.value (run _ _ hrun) ⟨m2, m1, m3⟩
          · cases hr
        · cases hr
      · cases hr
    · cases hr
  · cases hr

theorem len_ok (hT : TabOk P X.tab) (h : SRel w0 foot base S E a w) (hc : TagsHold a ctx) {o : Oper} {x : Operand} {t : Nat} {args : Array Operand} {ats : Array Nat} (ho : o.op = .call { callee := .builtin .len, args := args, argTypes := ats })
    (hargs : args.toList = [x]) (hats : ats.toList = [t]) {r : Res}
    (hr : (do
      let i ← ti X t
      let c ← evC x
      match i.d, c with
      | .str, .dat .str _ => lenR c
      | .slice _, .dat (.list _) _ => lenR c
      | .slice _, .row _ _ => lenR c
      | .slice _, .sub _ _ _ _ => lenR c
      | .slice _, .nilsl => lenR c
      | _, _ => .fail : RM Res).run S ctx = some r) : OpOk P w0 foot base S E a w o r := by
  obtain rfl : args = #[x] := by apply Array.ext'; simpa using hargs
  obtain rfl : ats = #[t] := by apply Array.ext'; simpa using hats
  have hr0 := RM.run_bind' hr
  clear hr
  obtain ⟨i, h1, hr⟩ := hr0
  have hr0 := RM.run_bind' hr
  clear hr
  obtain ⟨c, h2, hr⟩ := hr0
  obtain ⟨hs, _⟩ := ti_spec hT h1
  have hx := evC_rep h hc h2
  have inr : ∀ n : Nat, n ≤ maxLenI → InR .i64 (n : Int) := fun n hn => by
    have h1 : IntKind.i64.min = -9223372036854775808 := by decide
    have h2 : IntKind.i64.max = 9223372036854775807 := by decide
    unfold InR
    rw [h1, h2]
    unfold maxLenI at hn
    omega
  have key : ∀ n : Nat, n ≤ maxLenI → (Builtin.len_ #[t] o.type #[a.eval x]).run P w = .ok (.int .i64 n) w → r = { val := some (.one (.dat (.int .i64) (n : Int))) } → OpOk P w0 foot base S E a w o r := fun n hn hrun he => by
    rw [he]
    refine OpOk.value (v := .int .i64 n) (w' := w) ?_ (After.pure h.toHRel ⟨rfl, rfl, inr n hn⟩)
    simp [execOp, ho, resolve, invoke, builtin, hrun]
  have sl : ∀ e b n c, P.underlying t = some (.slice e) → a.eval x = .slice b n c → (Builtin.len_ #[t] o.type #[a.eval x]).run P w = .ok (.int .i64 n) w := fun e b n c hu hv => by
    simp [Builtin.len_, run_underlying hu, hv, goInt]
  split at hr
  · rename_i s hd
    rw [hd] at hs
    unfold lenR at hr
    obtain ⟨_, g1, g2⟩ := hx
    simp only [List.cons.injEq, and_true] at g1
    refine key _ g2 ?_ (pureC_spec hr)
    simp [Builtin.len_, run_underlying (skel_str hs), g1, goInt, str_size]
  · rename_i e tt xs hd
    rw [hd] at hs
    unfold lenR at hr
    obtain ⟨_, aa, cap, g1, g2, g3, _⟩ := hx
    simp only [List.cons.injEq, and_true] at g1
    exact key _ (Nat.le_trans g2 g3) (sl e _ _ _ (skel_slice hs) g1) (pureC_spec hr)
  · rename_i e tt b hd
    rw [hd] at hs
    unfold lenR at hr
    simp only [RM.run] at hr
    split at hr
    · rename_i B hf
      split at hr
      · rename_i fro e' t' xs
        split at hr
        · obtain ⟨p, hp, hk⟩ := hx
          obtain ⟨p', hp', hB⟩ := h.blks _ _ hf
          rw [hp] at hp'; cases hp'
          have hlen := hB.row_len
          rcases hk with ⟨_, hv, hz⟩ | ⟨_, hv, q1, q2⟩
          · exact key xs.length (by rw [hlen, hz]; simp [maxLenI]) (by rw [hlen, hz]; exact sl e _ _ _ (skel_slice hs) hv) (pureC_spec hr)
          · exact key xs.length (by omega) (by rw [hlen]; exact sl e _ _ _ (skel_slice hs) hv) (pureC_spec hr)
        · cases hr
      · cases hr
    · cases hr
  · rename_i e tt b lo len hd
    rw [hd] at hs
    unfold lenR at hr
    obtain ⟨p, hp, hl, hk⟩ := hx
    rcases hk with ⟨_, hv, hz⟩ | ⟨_, aa, hv, q1, q2, _⟩
    · have : len = 0 := by omega
      subst this
      exact key 0 (by simp [maxLenI]) (sl e _ _ _ (skel_slice hs) hv) (pureC_spec hr)
    · exact key len (by omega) (sl e _ _ _ (skel_slice hs) hv) (pureC_spec hr)
  · rename_i e hd
    rw [hd] at hs
    unfold lenR at hr
    exact key 0 (by simp [maxLenI]) (sl e _ _ _ (skel_slice hs) hx) (pureC_spec hr)
  · cases hr

theorem minMax_ok (h : SRel w0 foot base S E a w) (hc : TagsHold a ctx) {o : Oper} {args : Array Operand} {ats : Array TypeId} {big : Bool} {x y : Operand} (ho : o.op = .call { callee := .builtin (match big with | true => .max | false => .min), args := args, argTypes := ats })
    (ha : args.toList = [x, y]) {r : Res} (hr : (do minMax big (← ev x) (← ev y) : RM Res).run S ctx = some r) : OpOk P w0 foot base S E a w o r := by
  have hr0 := RM.run_bind' hr
  clear hr
  obtain ⟨s1, h1, hr⟩ := hr0
  have hr0 := RM.run_bind' hr
  clear hr
  obtain ⟨s2, h2, hr⟩ := hr0
  have hx := ev_rep h hc h1
  have hy := ev_rep h hc h2
  have hargs : args.map a.eval = #[a.eval x, a.eval y] := by
    obtain ⟨l⟩ := args
    simp only at ha
    subst ha
    simp
  unfold minMax at hr
  split at hr
  · rename_i j m k n
    split at hr
    · rename_i hk
      have := kindBeq_eq hk
      subst this
      obtain ⟨_, x1, x2⟩ := hx
      obtain ⟨_, y1, y2⟩ := hy
      simp only [List.cons.injEq, and_true] at x1 y1
      cases big with
      | true =>
        refine OpOk.value (v := .int j (max (Ty.I m) (Ty.I n))) (w' := w) ?_ ((Reckons.pureC hr ⟨rfl, rfl, ?_⟩).after h.toHRel)
        · simp [execOp, ho, resolve, invoke, builtin, hargs, x1, y1, Go.Lib.run_max_ints]
        · rcases Int.max_def (Ty.I m) (Ty.I n) ▸ (by split <;> simp : (if Ty.I m ≤ Ty.I n then Ty.I n else Ty.I m) = Ty.I n ∨ (if Ty.I m ≤ Ty.I n then Ty.I n else Ty.I m) = Ty.I m) with e | e
          · rw [e]; exact y2
          · rw [e]; exact x2
      | false =>
        refine OpOk.value (v := .int j (min (Ty.I m) (Ty.I n))) (w' := w) ?_ ((Reckons.pureC hr ⟨rfl, rfl, ?_⟩).after h.toHRel)
        · simp [execOp, ho, resolve, invoke, builtin, hargs, x1, y1, Go.Lib.run_min_ints]
        · rcases Int.min_def (Ty.I m) (Ty.I n) ▸ (by split <;> simp : (if Ty.I m ≤ Ty.I n then Ty.I m else Ty.I n) = Ty.I m ∨ (if Ty.I m ≤ Ty.I n then Ty.I m else Ty.I n) = Ty.I n) with e | e
          · rw [e]; exact x2
          · rw [e]; exact y2
    · cases hr
  · cases hr

end Go.Vc

/-
  The executor's operations on maps are sound: a map made, looked up, stored into, an entry made ready and filled, a key struck out; a whole array stored; A range over a map is sound: its beginning, its steps (whichever entry comes next), and what has come last; Literal slices, calls by contract, and all single operations together; Regions: the operations of a statement one behind the other, with their guards; and in whatever order the machine draws; Regions, second part: the order of the text, and any order that the machine may draw; Regions, third part: whatever order the machine draws, the region comes to the state that the order of the text comes to; Code: regions, tests, blocks, loops by invariants: the verification condition, and that it is sound; Regions by ways: one operation behind the other, each guard parted into its two ways; a slice compared with nil; The verification condition of code with loops and leaps, and that it is sound. A loop bears an invariant: a state with data of its own, to which the state at the loop's head is matched (blocks under other numbers); Contracts of functions: what is asked of the arguments, and what comes out; how one is proved from the function's text, and how it is used at a call; A function's own verification condition, and that it gives the contract; Owned data: variables and slices of the caller's own that a function is handed and may change; how they lie in memory, and how they are opened into blocks and read back.
-/
import Derived.Test.YtpnnfimacblhgaaGreatM1
import Derived.WideMake
import Derived.Laws.BytesArg
import Derived.Deep.LoopGhost
import Derived.Scope

section
set_option linter.unusedVariables false
set_option linter.unusedSimpArgs false
namespace Go.Vc
open Go
variable {P : Program} {X : Ctx} {w0 : World} {foot : Foot} {base : Mem} {S : St} {E : Env} {a : Act} {w : World} {ctx : Tags}
theorem asTy_krep {t : Ty} {s : SV} {cs : List C} {x : t.den} {fr : Fro} {v : Value} (h1 : (asTy t s).run S ctx = some cs) (h2 : (reify t cs).run S ctx = some (x, fr)) (hv : SRep E s v) (hf : Frozen S.bl E w fr) : KRep E.F t x v := by
 unfold asTy at h1
 split at h1
 ·rename_i c
  split at h1
  ·cases h1
  ·rename_i hb
   cases h1
   exact ⟨[v], reify_rep h2 ⟨v, [], rfl, hv, rfl⟩ hf, by unfold Ty.valOf; rw [hb]; rfl⟩
 ·split at h1
  ·rename_i hb
   cases h1
   obtain ⟨vs, e, k⟩ := hv
   exact ⟨vs.toList, reify_rep h2 k hf, by unfold Ty.valOf; rw [hb, e]⟩
  ·cases h1
 ·cases h1
theorem KRep.mono {F F' : Mem} (h : F.le F') {t : Ty} {x : t.den} {v : Value} (k : KRep F t x v) : KRep F' t x v := let ⟨us, h1, h2⟩ := k; ⟨us, h1.mono h, h2⟩
theorem flat_one {t : Ty} (h : t.isAgg = false) (x : t.den) : ∃ c, flat t x = [c] := by
 have hl := flat_length t x
 have h1 : t.size = 1 := by cases t <;> first | rfl | cases h
 rw [h1] at hl
 exact List.length_eq_one_iff.1 hl
theorem KRep.part {t : Ty} {x : t.den} {v : Value} (k : KRep E.F t x v) : (match t.isAgg with | true => ∃ ws, v = .agg ws ∧ CReps E (flat t x) ws.toList | false => ∃ c, flat t x = [c] ∧ CRep E c v) := by
 obtain ⟨us, h1, rfl⟩ := k
 have h2 := CReps_flat h1
 unfold Ty.valOf
 cases hb : t.isAgg with
 | true => exact ⟨_, rfl, h2⟩
 | false =>
  obtain ⟨c, hc⟩ := flat_one hb x
  rw [hc] at h2
  obtain ⟨u, rfl, h3⟩ := one_reps h2
  exact ⟨c, hc, h3⟩
theorem KRep.sv {t : Ty} {x : t.den} {v : Value} (k : KRep E.F t x v) : SRep E (svOf t x) v := by
 have := k.part
 unfold svOf
 cases hb : t.isAgg with
 | true => rw [hb] at this; exact this
 | false =>
  rw [hb] at this
  obtain ⟨c, hc, h⟩ := this
  rw [hc]
  exact h
theorem keyR_sound (hT : TabOk P X.tab) (h : SRel w0 foot base S E a w) (hc : TagsHold a ctx) {kt : Nat} {b : Ty} {x : Operand} {k : b.den} (hr : (keyR X kt b x).run S ctx = some k) : KeyLaw P kt b ∧ KRep E.F b k (a.eval x) := by
 unfold keyR at hr
 obtain ⟨_, h1, hr⟩ := RM.run_bind' hr
 obtain ⟨s, h2, hr⟩ := RM.run_bind' hr
 obtain ⟨cs, h3, hr⟩ := RM.run_bind' hr
 obtain ⟨⟨y, fr⟩, h4, hr⟩ := RM.run_bind' hr
 obtain ⟨_, h5, hr⟩ := RM.run_bind' hr
 cases RM.run_pure' hr
 have h5 := List.isEmpty_iff.1 (run_guardR h5)
 simp only at h5
 subst h5
 exact ⟨keyTy_law hT h1, asTy_krep (w := w) h3 h4 (ev_rep h hc h2) .nil⟩
theorem zeroR_sound (hT : TabOk P X.tab) {et : Nat} {b : Ty} {z : b.den} (hr : (zeroR X et b).run S ctx = some z) : ∃ v, (∀ w, (zeroValue et).run P w = .ok v w) ∧ ∀ F, KRep F b z v := by
 unfold zeroR at hr
 obtain ⟨l, h1, hr⟩ := RM.run_bind' hr
 obtain ⟨_, h2, hr⟩ := RM.run_bind' hr
 obtain ⟨i, hi, e1, e2, e3, e4, e5, e6, h3⟩ := zeroD_sound hT h1 hr
 have h2 := run_guardR h2
 simp only [beq_iff_eq] at h2
 refine ⟨l.zero, fun w => run_zeroValue' hi e3, fun F => ⟨_, h3 F, ?_⟩⟩
 unfold Ty.valOf
 rw [← h2]
 cases hz : l.zero with
 | agg cs => rfl
 | tuple vs => rw [hz] at h3 h2; exact absurd (h3 default) (fun hrep => by
   have hne : b.isAgg = false := by rw [← h2]; rfl
   obtain ⟨c, hc⟩ := flat_one hne z
   have := CReps_flat (E := ⟨default, fun _ => none⟩) hrep
   rw [hc] at this
   obtain ⟨u, hu, hk⟩ := one_reps this
   have := hk.oneCell
   simp [Value.cells] at hu
   subst hu
   simp [Value.oneCell'] at this)
 | _ => rfl
theorem MapRep.keysAt {F : Mem} {b c : Ty} {m : List (b.den × c.den)} {es : Array MapEntry} {cl : Nat} (h : MapRep F b c m es cl) : KeysAt F b m es.toList := by
 have key : ∀ (m : List (b.den × c.den)) (l : List MapEntry), l.length = m.length → (∀ (i : Nat) x, m[i]? = some x → ∃ e, l[i]? = some e ∧ KRep F b x.1 e.key) → KeysAt F b m l := by
  intro m
  induction m with
  | nil => intro l hl _; rw [List.eq_nil_of_length_eq_zero hl]; exact .nil
  | cons x m ih =>
   intro l hl hat
   cases l with
   | nil => cases hl
   | cons e l =>
    obtain ⟨e', he, hk⟩ := hat 0 x rfl
    cases he
    exact .cons hk (ih l (by simpa using hl) fun i y hy => hat (i + 1) y (by simpa using hy))
 refine key m es.toList (by simpa using h.size) fun i x hx => ?_
 obtain ⟨e, us, ws, q1, q2, q3, q4, q5⟩ := h.at_ i x hx
 exact ⟨e, by simpa using q1, us, q2, q3⟩
theorem MapRep.val {F : Mem} {b c : Ty} {m : List (b.den × c.den)} {es : Array MapEntry} {cl : Nat} (h : MapRep F b c m es cl) {i : Nat} {x : b.den × c.den} {e : MapEntry} (hx : m[i]? = some x) (he : es[i]? = some e) :
  KRep F b x.1 e.key ∧ KRep F c x.2 e.val := by
 obtain ⟨e', us, ws, q1, q2, q3, q4, q5⟩ := h.at_ i x hx
 rw [he] at q1
 cases q1
 exact ⟨⟨us, q2, q3⟩, ws, q4, q5⟩
theorem MapRep.push {F : Mem} {b c : Ty} {m : List (b.den × c.den)} {es : Array MapEntry} {cl : Nat} (h : MapRep F b c m es cl) {k : b.den} {y : c.den} {u v : Value} (hk : ∀ x ∈ m, x.1 ≠ k) (hu : KRep F b k u) (hv : KRep F c y v) :
  MapRep F b c (m ++ [(k, y)]) (es.push ⟨u, v, cl⟩) (cl + 1) := by
 obtain ⟨us, hu1, hu2⟩ := hu
 obtain ⟨ws, hv1, hv2⟩ := hv
 refine ⟨⟨?_, fun e he => ?_⟩, ?_, by simp [h.size], fun i x hx => ?_⟩
 ·rw [Array.toList_push]
  refine List.pairwise_append.2 ⟨h.stamps.1, by simp, fun x hx y hy => ?_⟩
  rw [List.mem_singleton.1 hy]
  exact h.stamps.2 x hx
 ·simp only [Array.toList_push, List.mem_append, List.mem_singleton] at he
  rcases he with he | rfl
  ·exact Nat.lt_succ_of_lt (h.stamps.2 e he)
  ·exact Nat.lt_succ_self _
 ·rw [List.map_append, List.nodup_append]
  refine ⟨h.keys, by simp, fun x hx y hy => ?_⟩
  obtain ⟨z, hz, rfl⟩ := List.mem_map.1 hx
  simp only [List.map_cons, List.map_nil, List.mem_singleton] at hy
  subst hy
  exact hk z hz
 ·rcases Nat.lt_or_ge i m.length with hi | hi
  ·rw [List.getElem?_append_left hi] at hx
   obtain ⟨e, us', ws', q1, q2⟩ := h.at_ i x hx
   refine ⟨e, us', ws', ?_, q2⟩
   have := h.size
   rw [Array.getElem?_push_lt (by omega)]
   rw [Array.getElem?_eq_getElem (by omega)] at q1
   exact q1
  ·have hlt := (List.getElem?_eq_some_iff.1 hx).1
   have : i = m.length := by simp at hlt; omega
   subst this
   have hx : (k, y) = x := by simpa using hx
   subst hx
   exact ⟨⟨u, v, cl⟩, us, ws, by rw [← h.size]; simp, hu1, hu2, hv1, hv2⟩
theorem MapRep.turn {F : Mem} {b c : Ty} {m : List (b.den × c.den)} {es : Array MapEntry} {cl : Nat} (h : MapRep F b c m es cl) {i : Nat} {k : b.den} {y0 y : c.den} {e : MapEntry} (hm : m[i]? = some (k, y0)) (he : es[i]? = some e) (f : MapEntry → MapEntry)
  (hf : ∀ e, (f e).born = e.born) (hk : KRep F b k (f e).key) (hv : KRep F c y (f e).val) : MapRep F b c (m.set i (k, y)) (es.modify i f) cl := by
 have hi : i < es.size := (Array.getElem?_eq_some_iff.1 he).1
 have hborn : (es.modify i f).toList.map (·.born) = es.toList.map (·.born) := by
  apply List.ext_getElem?
  intro j
  simp only [List.getElem?_map, Array.getElem?_toList, Array.getElem?_modify]
  split
  ·cases es[j]? <;> simp [hf]
  ·rfl
 refine ⟨⟨?_, fun x hx => ?_⟩, ?_, by simp [h.size], fun j x hx => ?_⟩
 ·have h1 := h.stamps.1
  rw [← List.pairwise_map (f := fun e : MapEntry => e.born) (R := fun a b => a < b)] at h1 ⊢
  rw [hborn]
  exact h1
 ·have : x.born ∈ (es.modify i f).toList.map (·.born) := List.mem_map_of_mem hx
  rw [hborn] at this
  obtain ⟨z, hz, e1⟩ := List.mem_map.1 this
  rw [← e1]
  exact h.stamps.2 z hz
 ·have : (m.set i (k, y)).map Prod.fst = m.map Prod.fst := by
   apply List.ext_getElem?
   intro j
   simp only [List.getElem?_map, List.getElem?_set]
   split
   ·rename_i hij
    subst hij
    rw [hm]
    split <;> simp_all
   ·rfl
  rw [this]
  exact h.keys
 ·by_cases hij : i = j
  ·subst hij
   have hlt : i < m.length := (List.getElem?_eq_some_iff.1 hm).1
   rw [List.getElem?_set_self hlt] at hx
   cases hx
   obtain ⟨us, hu1, hu2⟩ := hk
   obtain ⟨ws, hv1, hv2⟩ := hv
   exact ⟨f e, us, ws, by rw [Array.getElem?_modify, if_pos rfl, he]; rfl, hu1, hu2, hv1, hv2⟩
  ·rw [List.getElem?_set_ne hij] at hx
   obtain ⟨e', us', ws', q1, q2⟩ := h.at_ j x hx
   exact ⟨e', us', ws', by rw [Array.getElem?_modify, if_neg hij, q1], q2⟩
theorem MapRep.erase {F : Mem} {b c : Ty} {m : List (b.den × c.den)} {es : Array MapEntry} {cl : Nat} (h : MapRep F b c m es cl) {i : Nat} (hi : i < m.length) : MapRep F b c (m.eraseIdx i) (es.eraseIdxIfInBounds i) cl := by
 have hs : i < es.size := by rw [h.size]; exact hi
 have e : (es.eraseIdxIfInBounds i).toList = es.toList.eraseIdx i := by
  unfold Array.eraseIdxIfInBounds
  rw [dif_pos hs, Array.toList_eraseIdx]
 have hsub : (es.eraseIdxIfInBounds i).toList.Sublist es.toList := by rw [e]; exact List.eraseIdx_sublist _ _
 refine ⟨⟨h.stamps.1.sublist hsub, fun x hx => h.stamps.2 x (hsub.subset hx)⟩, ((List.eraseIdx_sublist _ _).map _).nodup h.keys, ?_, fun j x hx => ?_⟩
 ·have := congrArg List.length e
  simp only [Array.length_toList] at this
  rw [this, List.length_eraseIdx, List.length_eraseIdx]
  simp [h.size]
 ·rw [List.getElem?_eraseIdx] at hx
  have hget : ∀ j, (es.eraseIdxIfInBounds i)[j]? = (es.toList.eraseIdx i)[j]? := fun j => by rw [← e, Array.getElem?_toList]
  split at hx
  ·rename_i hj
   obtain ⟨e', us', ws', q1, q2⟩ := h.at_ _ x hx
   exact ⟨e', us', ws', by rw [hget, List.getElem?_eraseIdx, if_pos hj]; simpa using q1, q2⟩
  ·rename_i hj
   obtain ⟨e', us', ws', q1, q2⟩ := h.at_ _ x hx
   exact ⟨e', us', ws', by rw [hget, List.getElem?_eraseIdx, if_neg hj]; simpa using q1, q2⟩
theorem HRel.place_new {bl : List (Nat × Blk)} {used : List Nat} (h : HRel w0 foot base bl used E w) {id : Nat} {p : Place} (hid : id ∉ used) (hp : p.nil = true) : E.le (E.new id p) ∧ HRel w0 foot base bl (id :: used) (E.new id p) w := by
 have hnone : E.place id = none := by
  cases he : E.place id with
  | none => rfl
  | some q => exact absurd (h.used id q he) hid
 have hle := Env.new_le (p := p) hnone
 have old : ∀ i q, (E.new id p).place i = some q → q.nil = false → E.place i = some q := fun i q hq hn => by
  by_cases e : i = id
  ·subst e; rw [Env.new_same] at hq; cases hq; rw [hp] at hn; cases hn
  ·rwa [Env.new_other e] at hq
 refine ⟨hle, h.keep, h.frz, h.src, fun i B hf => ?_, fun i B q hf hq hn => ?_, fun i j B B' q q' hf hf' hq hq' hn hn' hij => ?_, fun i q hq => ?_⟩
 ·obtain ⟨q, hq, k⟩ := h.blks i B hf
  exact ⟨q, hle.place _ _ hq, k.mono hle⟩
 ·exact h.own i B q hf (old i q hq hn) hn
 ·exact h.inj i j B B' q q' hf hf' (old i q hq hn) (old j q' hq' hn') hn hn' hij
 ·by_cases hi : i = id
  ·exact hi ▸ List.mem_cons_self
  ·rw [Env.new_other hi] at hq
   exact List.mem_cons_of_mem _ (h.used i q hq)
theorem mapTI_sound (hT : TabOk P X.tab) {t : Nat} {ke : Nat × Nat} (h : (mapTI X t).run S ctx = some ke) : P.underlying t = some (.map ke.1 ke.2) := by
 unfold mapTI at h
 obtain ⟨i, h1, h⟩ := RM.run_bind' h
 obtain ⟨hs, _⟩ := ti_spec hT h1
 split at h
 ·rename_i k e hd
  cases h
  exact skel_map (hs.trans hd)
 ·cases h
theorem makeMap_ok (hT : TabOk P X.tab) (h : SRel w0 foot base S E a w) {o : Oper} {t d : Nat} (ho : o.op = .makeMap t none) {r : Res}
  (hr : (do
   let ke ← mapTI X t
   let j ← ti X ke.1
   let l ← ti X ke.2
   let a ← RM.ofOption j.ty
   let b ← RM.ofOption l.ty
   .ret { val := some (.one (.map a b d)), blks := [(d, .map false a b [] none)], new := [d] } : RM Res).run S ctx = some r) (hn : ∀ i ∈ r.new, i ∉ S.used) : OpOk P w0 foot base S E a w o r := by
 obtain ⟨ke, h1, hr⟩ := RM.run_bind' hr
 obtain ⟨j, h2, hr⟩ := RM.run_bind' hr
 obtain ⟨l, h3, hr⟩ := RM.run_bind' hr
 obtain ⟨b, h4, hr⟩ := RM.run_bind' hr
 obtain ⟨c, h5, hr⟩ := RM.run_bind' hr
 cases hr
 have hd : d ∉ S.used := hn d (by simp)
 have hnone : E.place d = none := by
  cases he : E.place d with
  | none => rfl
  | some q => exact absurd (h.used d q he) hd
 have hle := Env.new_le (p := ⟨false, w.heap.size, 0, 0⟩) hnone
 refine OpOk.value (v := .map (some w.heap.size)) (w' := w.alloc (.map #[] 0)) (E' := E.new d ⟨false, w.heap.size, 0, 0⟩) ?_ ⟨hle, h.toHRel.alloc hd (fun _ => rfl) ⟨rfl, #[], 0, alloc_same, (fun h => by cases h), ⟨⟨.nil, fun e he => by cases he⟩, .nil, rfl, fun i x hx => by simp at hx⟩, fun d i hc => by cases hc⟩, ⟨_, Env.new_same, rfl, rfl⟩⟩
 have := run_makeMap_plain (P := P) (w := w) t
 simp only [execOp, ho, Option.map_none]
 rw [Sem.run_bind, this]
 rfl
theorem lookR_ok (hT : TabOk P X.tab) (h : SRel w0 foot base S E a w) (hc : TagsHold a ctx) {o : Oper} {t kt et : Nat} {x ix : Operand} {ok : Bool} (ho : o.op = .lookup t x ix ok) (hu : P.underlying t = some (.map kt et)) {r : Res} {b c : Ty} {m : List (b.den × c.den)}
  (hr : (lookR X kt et ok ix b c m).run S ctx = some r)
  (hm : (a.eval x = .map none ∧ m = []) ∨ ∃ n es cl, a.eval x = .map (some n) ∧ w.heap[n]? = some (.map es cl) ∧ MapRep E.F b c m es cl) : OpOk P w0 foot base S E a w o r := by
 unfold lookR at hr
 obtain ⟨k, h1, hr⟩ := RM.run_bind' hr
 obtain ⟨z, h2, hr⟩ := RM.run_bind' hr
 obtain ⟨hK, hk⟩ := keyR_sound hT h hc h1
 obtain ⟨zv, hz, hzr⟩ := zeroR_sound hT h2
 have found : ∃ v, KRep E.F c ((mget b m k).getD z) v ∧ (Instr.lookup t (a.eval x) (a.eval ix) ok).run P w = .ok (if ok then .tuple #[v, .bool (mget b m k).isSome] else v) w := by
  rcases hm with ⟨hx, rfl⟩ | ⟨n, es, cl, hx, hheap, hM⟩
  ·refine ⟨zv, hzr _, ?_⟩
   rcases hK.find (m := ([] : List (b.den × c.den))) (l := []) w hk .nil with ⟨_, k2⟩ | ⟨e, k1, _⟩
   ·simp [Instr.lookup, hx, run_underlying hu, hK.check w _ hk, k2, hz, mget]
   ·simp [mget] at k1
  ·rcases hK.find w hk hM.keysAt with ⟨k1, k2⟩ | ⟨e, k1, k2, k3⟩
   ·refine ⟨zv, by rw [k1]; exact hzr _, ?_⟩
    simp [Instr.lookup, hx, run_underlying hu, MapKept.run_getObj_map hheap, hK.check w _ hk, k2, hz, k1]
   ·rcases mfind hK.key m k with ⟨m1, _⟩ | ⟨v0, m1, m2, _⟩
    ·rw [m1] at k1; cases k1
    ·refine ⟨e.val, by rw [m1]; exact (hM.val m2 (by simpa using k2)).2, ?_⟩
     simp [Instr.lookup, hx, run_underlying hu, MapKept.run_getObj_map hheap, hK.check w _ hk, k3, m1]
 obtain ⟨v, hv, hrun⟩ := found
 have hex : (execOp a.eval o).run P w = .ok (.value (if ok then .tuple #[v, .bool (mget b m k).isSome] else v)) w := by
  simp only [execOp, ho]
  rw [Sem.run_bind, hrun]
  rfl
 cases ok with
 | true =>
  cases hr
  refine OpOk.value hex (After.pure h.toHRel ⟨_, rfl, ?_⟩)
  exact ⟨v, [_], rfl, hv.part, _, [], rfl, ⟨_, rfl, rfl, rfl⟩, rfl⟩
 | false =>
  cases hr
  exact OpOk.value hex (After.pure h.toHRel hv.sv)
theorem lookup_ok (hT : TabOk P X.tab) (h : SRel w0 foot base S E a w) (hc : TagsHold a ctx) {o : Oper} {t : Nat} {x ix : Operand} {ok : Bool} (ho : o.op = .lookup t x ix ok) {r : Res}
  (hr : (do
   let ke ← mapTI X t
   lookupR X ke.1 ke.2 ok ix (← evC x) : RM Res).run S ctx = some r) : OpOk P w0 foot base S E a w o r := by
 obtain ⟨ke, h1, hr⟩ := RM.run_bind' hr
 obtain ⟨c, h2, hr⟩ := RM.run_bind' hr
 have hu := mapTI_sound hT h1
 have hv := evC_rep h hc h2
 unfold lookupR at hr
 split at hr
 ·simp only [RM.run] at hr
  split at hr
  ·rename_i B hf
   split at hr
   ·rename_i fro b c m cur
    obtain ⟨p, hp, hn, hv⟩ := hv
    obtain ⟨p', hp', _, es, cl, k1, k2, k3, _⟩ := h.blks _ _ hf
    rw [hp] at hp'; cases hp'
    exact lookR_ok hT h hc ho hu hr (.inr ⟨_, es, cl, hv, k1, k3⟩)
   ·cases hr
  ·cases hr
 ·rename_i b c m
  obtain ⟨_, oo, h3, h4, h5⟩ := hv
  simp only [List.cons.injEq, and_true] at h3
  cases oo with
  | none => exact lookR_ok hT h hc ho hu hr (.inl ⟨h3, h4 rfl⟩)
  | some n =>
   obtain ⟨es, cl, q1, q2, q3, q4, q5⟩ := h5 n rfl
   exact lookR_ok hT h hc ho hu hr (.inr ⟨n, es, cl, h3, h.frz _ _ q1, q2, q3, q4, q5⟩)
 ·cases hr
theorem ownMap_spec (h : SRel w0 foot base S E a w) {f : (n : Nat) → (a b : Ty) → List (a.den × b.den) → Option (Nat × Nat) → RM Res} {c : C} {r : Res} {v : Value} (hr : (ownMap f c).run S ctx = some r) (hv : CRep E c v) :
  ∃ n b c m cur p es cl, (f n b c m cur).run S ctx = some r ∧ find S.bl n = some (.map false b c m cur) ∧ E.place n = some p ∧ p.nil = false ∧ v = .map (some p.blk) ∧ w.heap[p.blk]? = some (.map es cl) ∧ MapRep E.F b c m es cl ∧ CurRep E es cur := by
 unfold ownMap at hr
 split at hr
 ·simp only [RM.run] at hr
  split at hr
  ·rename_i B hf
   split at hr
   ·rename_i b c m cur
    obtain ⟨p, hp, hn, hv⟩ := hv
    obtain ⟨p', hp', _, es, cl, k1, k2, k3, k4⟩ := h.blks _ _ hf
    rw [hp] at hp'; cases hp'
    exact ⟨_, b, c, m, cur, p, es, cl, hr, hf, hp, hn, hv, k1, k3, k4⟩
   ·cases hr
  ·cases hr
 ·cases hr
theorem valR_sound (h : SRel w0 foot base S E a w) (hc : TagsHold a ctx) {b : Ty} {n : Nat} {x : Operand} {y : b.den × Fro} (hr : (valR b n x).run S ctx = some y) :
  ∃ E', E.le E' ∧ E'.place = E.place ∧ HRel w0 foot base (applyFro y.2 S.bl) S.used E' w ∧ (∀ B, find S.bl n = some B → find (applyFro y.2 S.bl) n = some B) ∧ KRep E'.F b y.1 (a.eval x) := by
 unfold valR at hr
 obtain ⟨s, h2, hr⟩ := RM.run_bind' hr
 obtain ⟨cs, h3, hr⟩ := RM.run_bind' hr
 obtain ⟨⟨y', fr⟩, h4, hr⟩ := RM.run_bind' hr
 obtain ⟨_, h5, hr⟩ := RM.run_bind' hr
 cases RM.run_pure' hr
 have ho := reify_froOk h4
 obtain ⟨E1, l1, q1, f1, h1'⟩ := h.toHRel.applyFro ho
 exact ⟨E1, l1, q1, h1', fun B hB => by rw [find_applyFro_other (noId_spec (run_guardR h5))]; exact hB, asTy_krep h3 h4 ((ev_rep h hc h2).mono l1) (Frozen.of_apply ho h1')⟩
theorem mapUpdate_ok (hT : TabOk P X.tab) (h : SRel w0 foot base S E a w) (hc : TagsHold a ctx) {o : Oper} {t : Nat} {x k v : Operand} (ho : o.op = .mapUpdate t x k v) {r : Res}
  (hr : (do
   let ke ← mapTI X t
   ownMap (fun n a b xs _ => do
    let x ← keyR X ke.1 a k
    let y ← valR b n v
    .ret { blks := y.2 ++ [(n, .map false a b (mput a xs x y.1) none)] }) (← evC x) : RM Res).run S ctx = some r) : OpOk P w0 foot base S E a w o r := by
 obtain ⟨ke, h1, hr⟩ := RM.run_bind' hr
 obtain ⟨c, h2, hr⟩ := RM.run_bind' hr
 have hu := mapTI_sound hT h1
 obtain ⟨n, b, c, m, cur, p, es, cl, hr, hf, hp, hn, hv, hheap, hM, _⟩ := ownMap_spec h hr (evC_rep h hc h2)
 obtain ⟨kk, h3, hr⟩ := RM.run_bind' hr
 obtain ⟨y, h4, hr⟩ := RM.run_bind' hr
 cases hr
 obtain ⟨hK, hk⟩ := keyR_sound hT h hc h3
 obtain ⟨E1, l1, q1, hH, hfind, hy⟩ := valR_sound h hc h4
 have hM1 := hM.mono l1.F
 have hk1 := hk.mono l1.F
 have fin : ∀ es' cl', (Instr.mapUpdate t (a.eval x) (a.eval k) (a.eval v)).run P w = .ok () (setBlk w p.blk (.map es' cl')) → MapRep E1.F b c (mput b m kk y.1) es' cl' →
   OpOk P w0 foot base S E a w o { blks := y.2 ++ [(n, .map false b c (mput b m kk y.1) none)] } := fun es' cl' hrun hM' => by
  have hw := hH.write (B' := .map false b c (mput b m kk y.1) none) (hfind _ hf) (q1 ▸ hp) hn rfl ⟨hn, es', cl', setBlk_same (heap_lt hheap), (fun h => by cases h), hM', fun d i h => by cases h⟩
  refine OpOk.skip (w' := setBlk w p.blk (.map es' cl')) (E' := E1) ?_ ⟨l1, by rw [applyBl_fro]; exact hw, trivial⟩
  simp only [execOp, ho]
  rw [Sem.run_bind, hrun]
  rfl
 rcases mfind hK.key m kk with ⟨m1, m2, m3, m4, m5⟩ | ⟨v0, m1, m2, m3, m4, m5⟩
 ·rcases hK.find w hk hM.keysAt with ⟨k1, k2⟩ | ⟨e, k1, k2, k3⟩
  ·refine fin (es.push ⟨a.eval k, a.eval v, cl⟩) (cl + 1) ?_ (by rw [m2]; exact hM1.push m5 hk1 hy)
   simp [Instr.mapUpdate, hv, run_underlying hu, MapKept.run_getObj_map hheap, hK.check w _ hk, k2, MapKept.run_setObj_map _ hheap, setBlk]
  ·rw [m1] at k1; cases k1
 ·rcases hK.find w hk hM.keysAt with ⟨k1, k2⟩ | ⟨e, k1, k2, k3⟩
  ·rw [m1] at k1; cases k1
  ·have he : es[midx b m kk]? = some e := by simpa using k2
   have hs := hK.stays w (hM.val m2 he).1 hk
   refine fin (es.modify (midx b m kk) fun e => { e with key := a.eval k, val := a.eval v }) cl ?_ (by rw [m3]; exact hM1.turn m2 he _ (fun _ => rfl) hk1 hy)
   simp [Instr.mapUpdate, hv, run_underlying hu, MapKept.run_getObj_map hheap, hK.check w _ hk, k3, he, hs, MapKept.run_setObj_map _ hheap, setBlk]
theorem mapEntry_ok (hT : TabOk P X.tab) (h : SRel w0 foot base S E a w) (hc : TagsHold a ctx) {o : Oper} {t d : Nat} {x k : Operand} (ho : o.op = .mapEntry t x k) {r : Res}
  (hr : (do
   let ke ← mapTI X t
   ownMap (fun n a b xs _ => do
    let x ← keyR X ke.1 a k
    let z ← zeroR X ke.2 b
    .ret { val := some (.tup [(b.isAgg, flat b ((mget a xs x).getD z)), (false, [.stamp d])]), blks := [(n, .map false a b (ment a xs x z) (some (d, midx a xs x)))], new := [d] }) (← evC x) : RM Res).run S ctx = some r)
  (hnew : ∀ i ∈ r.new, i ∉ S.used) : OpOk P w0 foot base S E a w o r := by
 obtain ⟨ke, h1, hr⟩ := RM.run_bind' hr
 obtain ⟨c, h2, hr⟩ := RM.run_bind' hr
 have hu := mapTI_sound hT h1
 obtain ⟨n, b, c, m, cur, p, es, cl, hr, hf, hp, hn, hv, hheap, hM, _⟩ := ownMap_spec h hr (evC_rep h hc h2)
 obtain ⟨kk, h3, hr⟩ := RM.run_bind' hr
 obtain ⟨z, h4, hr⟩ := RM.run_bind' hr
 cases hr
 obtain ⟨hK, hk⟩ := keyR_sound hT h hc h3
 obtain ⟨zv, hz, hzr⟩ := zeroR_sound hT h4
 have hd : d ∉ S.used := hnew d (by simp)
 have fin : ∀ es' cl' u (st : Nat) e', (Instr.mapEntry t (a.eval x) (a.eval k)).run P w = .ok (.tuple #[u, goInt st]) (setBlk w p.blk (.map es' cl')) → MapRep E.F b c (ment b m kk z) es' cl' → es'[midx b m kk]? = some e' → e'.born = st →
   KRep E.F c ((mget b m kk).getD z) u →
   OpOk P w0 foot base S E a w o { val := some (.tup [(c.isAgg, flat c ((mget b m kk).getD z)), (false, [.stamp d])]), blks := [(n, .map false b c (ment b m kk z) (some (d, midx b m kk)))], new := [d] } := fun es' cl' u st e' hrun hM' he' hborn hu' => by
  obtain ⟨hle, hH⟩ := h.toHRel.place_new (p := ⟨true, 0, st, 0⟩) hd rfl
  have hw := hH.write (B' := .map false b c (ment b m kk z) (some (d, midx b m kk))) hf (hle.place _ _ hp) hn rfl ⟨hn, es', cl', setBlk_same (heap_lt hheap), (fun h => by cases h), hM'.mono hle.F, fun d' i hc => by
   cases hc
   exact ⟨_, e', Env.new_same, rfl, he', hborn⟩⟩
  refine OpOk.value (v := .tuple #[u, goInt st]) (w' := setBlk w p.blk (.map es' cl')) (E' := E.new d ⟨true, 0, st, 0⟩) ?_ ⟨hle, hw, _, rfl, ?_⟩
  ·simp only [execOp, ho]
   rw [Sem.run_bind, hrun]
   rfl
  ·exact ⟨u, [_], rfl, (hu'.mono hle.F).part, _, [], rfl, ⟨_, rfl, _, Env.new_same, rfl, rfl⟩, rfl⟩
 rcases mfind hK.key m kk with ⟨m1, m2, m3, m4, m5⟩ | ⟨v0, m1, m2, m3, m4, m5⟩
 ·rcases hK.find w hk hM.keysAt with ⟨k1, k2⟩ | ⟨e, k1, k2, k3⟩
  ·refine fin (es.push ⟨a.eval k, zv, cl⟩) (cl + 1) zv cl ⟨a.eval k, zv, cl⟩ ?_ ?_ (by rw [m4, ← hM.size]; simp) rfl (by rw [m1]; exact hzr _)
   ·simp [Instr.mapEntry, hv, run_underlying hu, MapKept.run_getObj_map hheap, hK.check w _ hk, k2, hz, MapKept.run_setObj_map _ hheap, setBlk]
   ·unfold ment; rw [m1, m2]; exact hM.push m5 hk (hzr _)
  ·rw [m1] at k1; cases k1
 ·rcases hK.find w hk hM.keysAt with ⟨k1, k2⟩ | ⟨e, k1, k2, k3⟩
  ·rw [m1] at k1; cases k1
  ·have he : es[midx b m kk]? = some e := by simpa using k2
   obtain ⟨g1, g2⟩ := hM.val m2 he
   have hs := hK.stays w g1 hk
   refine fin (es.modify (midx b m kk) fun e => { e with key := a.eval k }) cl e.val e.born { e with key := a.eval k } ?_ ?_ (by rw [Array.getElem?_modify, if_pos rfl, he]; rfl) rfl (by rw [m1]; exact g2)
   ·simp [Instr.mapEntry, hv, run_underlying hu, MapKept.run_getObj_map hheap, hK.check w _ hk, k3, he, hs, MapKept.run_setObj_map _ hheap, setBlk]
   ·unfold ment; rw [m1, m3]; exact hM.turn m2 he _ (fun _ => rfl) hk g2
theorem findIdx_stamp {es : Array MapEntry} {cl : Nat} (h : Stamps es cl) {i : Nat} {e : MapEntry} (he : es[i]? = some e) : es.findIdx? (fun x => (x.born : Int) == (e.born : Int)) = some i := by
 obtain ⟨hlt, hi⟩ := Array.getElem?_eq_some_iff.1 he
 rw [Array.findIdx?_eq_some_iff_getElem]
 refine ⟨hlt, by rw [hi]; simp, fun j hj => ?_⟩
 have hp := h.1
 rw [List.pairwise_iff_getElem] at hp
 have := hp j i (by simpa using Nat.lt_trans hj hlt) (by simpa using hlt) hj
 simp only [Array.getElem_toList] at this
 rw [hi] at this
 simp only [beq_iff_eq, Bool.not_eq_true]
 intro hc
 omega
theorem entryStore_ok (hT : TabOk P X.tab) (h : SRel w0 foot base S E a w) (hc : TagsHold a ctx) {o : Oper} {t : Nat} {x s v : Operand} (ho : o.op = .entryStore t x s v) {r : Res}
  (hr : (do
   let st ← asStamp (← evC s)
   ownMap (fun n a b xs cur => match cur with
    | some (d', i) => (do
     guardR (Nat.beq st d')
     let y ← valR b n v
     .ret { blks := y.2 ++ [(n, .map false a b (mset xs i y.1) none)] })
    | none => .fail) (← evC x) : RM Res).run S ctx = some r) : OpOk P w0 foot base S E a w o r := by
 obtain ⟨cst, h1, hr⟩ := RM.run_bind' hr
 obtain ⟨st, h2, hr⟩ := RM.run_bind' hr
 obtain ⟨c, h3, hr⟩ := RM.run_bind' hr
 have hst := evC_rep h hc h1
 have hst : CRep E (.stamp st) (a.eval s) := by
  unfold asStamp at h2
  split at h2
  ·cases h2; exact hst
  ·cases h2
 obtain ⟨n, b, c, m, cur, p, es, cl, hr, hf, hp, hn, hv, hheap, hM, hcur⟩ := ownMap_spec h hr (evC_rep h hc h3)
 split at hr
 ·rename_i d' i
  obtain ⟨_, h5, hr⟩ := RM.run_bind' hr
  obtain ⟨y, h4, hr⟩ := RM.run_bind' hr
  cases hr
  have e := Nat.eq_of_beq_eq_true (run_guardR h5)
  subst e
  obtain ⟨q, e, hq, _, he, hborn⟩ := hcur _ _ rfl
  obtain ⟨q', hq', _, hsv⟩ := hst
  rw [hq] at hq'
  cases hq'
  obtain ⟨E1, l1, q1, hH, hfind, hy⟩ := valR_sound h hc h4
  have hlt : i < m.length := by rw [← hM.size]; exact (Array.getElem?_eq_some_iff.1 he).1
  have hmi : m[i]? = some (m[i].1, m[i].2) := List.getElem?_eq_getElem hlt
  have hset : mset m i y.1 = m.set i (m[i].1, y.1) := by
   unfold mset
   apply List.ext_getElem?
   intro j
   rw [List.getElem?_modify]
   by_cases hj : i = j
   ·subst hj; simp [hlt]
   ·simp only [hj, if_false]
    rw [List.getElem?_set_ne hj]
    cases m[j]? <;> rfl
  have hM' : MapRep E1.F b c (mset m i y.1) (es.modify i fun e => { e with val := a.eval v }) cl := by
   rw [hset]
   exact (hM.mono l1.F).turn hmi he _ (fun _ => rfl) ((hM.mono l1.F).val hmi he).1 hy
  have hw := hH.write (B' := .map false b c (mset m i y.1) none) (hfind _ hf) (q1 ▸ hp) hn rfl ⟨hn, _, cl, setBlk_same (heap_lt hheap), (fun h => by cases h), hM', fun d i h => by cases h⟩
  refine OpOk.skip (w' := setBlk w p.blk (.map (es.modify i fun e => { e with val := a.eval v }) cl)) (E' := E1) ?_ ⟨l1, by rw [applyBl_fro]; exact hw, trivial⟩
  have hfi := findIdx_stamp hM.stamps he
  rw [hborn] at hfi
  simp [execOp, ho, Instr.entryStore, hv, MapKept.run_getObj_map hheap, hsv, goInt, asInt, asIntOf, hfi, MapKept.run_setObj_map _ hheap, setBlk]
 ·cases hr
theorem delete_ok (hT : TabOk P X.tab) (h : SRel w0 foot base S E a w) (hc : TagsHold a ctx) {o : Oper} {x k : Operand} {t t' : Nat} {args : Array Operand} {ats : Array Nat} (ho : o.op = .call { callee := .builtin .delete, args := args, argTypes := ats })
  (h1 : args.toList = [x, k]) (h2 : ats.toList = [t, t']) {r : Res}
  (hr : (do
   let ke ← mapTI X t
   ownMap (fun n a b xs _ => do
    let x ← keyR X ke.1 a k
    .ret { blks := [(n, .map false a b (mdel a xs x) none)] }) (← evC x) : RM Res).run S ctx = some r) : OpOk P w0 foot base S E a w o r := by
 obtain ⟨ke, h3, hr⟩ := RM.run_bind' hr
 obtain ⟨c, h4, hr⟩ := RM.run_bind' hr
 have hu := mapTI_sound hT h3
 obtain ⟨n, b, c, m, cur, p, es, cl, hr, hf, hp, hn, hv, hheap, hM, _⟩ := ownMap_spec h hr (evC_rep h hc h4)
 obtain ⟨kk, h5, hr⟩ := RM.run_bind' hr
 cases hr
 obtain ⟨hK, hk⟩ := keyR_sound hT h hc h5
 have ha : args = #[x, k] := by apply Array.ext'; simpa using h1
 have hat : ats = #[t, t'] := by apply Array.ext'; simpa using h2
 have fin : ∀ es' cl', (Builtin.delete_ #[t, t'] o.type #[a.eval x, a.eval k]).run P w = .ok (.tuple #[]) (setBlk w p.blk (.map es' cl')) → MapRep E.F b c (mdel b m kk) es' cl' →
   OpOk P w0 foot base S E a w o { blks := [(n, .map false b c (mdel b m kk) none)] } := fun es' cl' hrun hM' => by
  have hw := h.toHRel.write (B' := .map false b c (mdel b m kk) none) hf hp hn rfl ⟨hn, es', cl', setBlk_same (heap_lt hheap), (fun h => by cases h), hM', fun d i h => by cases h⟩
  refine OpOk.value (v := .tuple #[]) (w' := setBlk w p.blk (.map es' cl')) (E' := E) ?_ ⟨.refl _, hw, trivial⟩
  subst ha hat
  simp [execOp, ho, resolve, invoke, builtin, hrun]
 rcases mfind hK.key m kk with ⟨m1, m2, m3, m4, m5⟩ | ⟨v0, m1, m2, m3, m4, m5⟩
 ·rcases hK.find w hk hM.keysAt with ⟨k1, k2⟩ | ⟨e, k1, k2, k3⟩
  ·refine fin es cl ?_ (by rw [m3]; exact hM)
   simp [Builtin.delete_, hv, run_underlying hu, MapKept.run_getObj_map hheap, hK.check w _ hk, k2, MapKept.run_setObj_map _ hheap, setBlk]
  ·rw [m1] at k1; cases k1
 ·rcases hK.find w hk hM.keysAt with ⟨k1, k2⟩ | ⟨e, k1, k2, k3⟩
  ·rw [m1] at k1; cases k1
  ·refine fin (es.eraseIdxIfInBounds (midx b m kk)) cl ?_ (by rw [m4]; exact hM.erase (List.getElem?_eq_some_iff.1 m2).1)
   simp [Builtin.delete_, hv, run_underlying hu, MapKept.run_getObj_map hheap, hK.check w _ hk, k3, MapKept.run_setObj_map _ hheap, setBlk]
theorem storeA_ok (h : SRel w0 foot base S E a w) (hc : TagsHold a ctx) {o : Oper} {t n : Nat} {x v : Operand} (ho : o.op = .store t x v) {r : Res} {i : TI} {j : TypeInfo} (hj : P.info? t = some j) (e1 : j.size = i.size)
  {s : SV} (h2 : (ev v).run S ctx = some s) {cs : List C} (h3 : (asCells s).run S ctx = some cs)
  (hr : (do storeA n i.size cs (← evC x) : RM Res).run S ctx = some r) (hcond : ∀ c ∈ r.conds, c) : OpOk P w0 foot base S E a w o r := by
 obtain ⟨c, h4, hr⟩ := RM.run_bind' hr
 have hcs := evCells_rep h hc h2 h3
 have hone := hcs.oneCell
 have hlen := hcs.length
 have hx := evC_rep h hc h4
 unfold storeA at hr
 split at hr
 ·rename_i tt b k off
  simp only [RM.run] at hr
  split at hr
  ·rename_i B hf
   split at hr
   ·rename_i e t' xs
    split at hr
    ·rename_i hb
     simp only [Bool.and_eq_true] at hb
     have ht := Ty.beq_eq hb.1
     have hk := Nat.eq_of_beq_eq_true hb.2.1
     have hoff := Nat.eq_of_beq_eq_true hb.2.2.1
     have hl1 := Nat.eq_of_beq_eq_true hb.2.2.2.1
     have hl2 := Nat.eq_of_beq_eq_true hb.2.2.2.2
     subst ht hk hoff
     obtain ⟨ys, h5, hr⟩ := RM.run_bind' hr
     cases hr
     have hxs := hcond _ (List.mem_singleton.2 rfl)
     obtain ⟨p, hp, hn, hi, hev⟩ := hx
     obtain ⟨p', hp', hB⟩ := h.blks _ _ hf
     rw [hp] at hp'; cases hp'
     have hB : BRow E w p false e tt xs := by
      rcases hB with ⟨hn', _⟩ | ⟨_, hB⟩
      ·rw [hn] at hn'; cases hn'
      ·exact hB
     obtain ⟨g0, ⟨g1, g1'⟩, vs, g2, g3, g4, g5⟩ := hB
     have hmul : n * tt.size ≤ p.cap * tt.size := Nat.mul_le_mul_right _ (by omega)
     obtain ⟨hv1, hv2⟩ := chunks_sound w h5 hcs
     have hrun := run_storeVar' (P := P) (o := 0 * tt.size + 0) (v := a.eval v) hj (by rw [hlen, hl2, e1]) g2 (by rw [g3, hlen, hl1]; omega) hone
     have hw := h.toHRel.write (B' := .row false e tt ys) (o := .cells (vs.toList.take (0 * tt.size + 0) ++ (a.eval v).cells.toList ++ vs.toList.drop (0 * tt.size + 0 + (a.eval v).cells.toList.length)).toArray e (0, 0)) hf hp hn rfl
      (Or.inr ⟨hn, BRow.mk' (us := (a.eval v).cells.toList) (rest := vs.toList.drop (a.eval v).cells.toList.length) hv1 g0 (by rw [hv2, ← hxs]; exact g1) g1' (setBlk_same (heap_lt g2)) (by simp) (by
       have : vs.toList.length = p.cap * tt.size := by simpa using g3
       simp only [List.size_toArray, List.length_append, List.length_take, List.length_drop]
       omega)⟩)
     refine OpOk.skip (w' := setBlk w p.blk _) (E' := E) ?_ ⟨.refl _, hw, trivial⟩
     simp only [execOp, ho, Instr.storeAt, Instr.sureAddr, hev, Sem.run_bind, Sem.run_pure, Result.andThen_ok]
     rw [hrun]
     rfl
    ·cases hr
   ·cases hr
  ·cases hr
 ·cases hr
end Go.Vc
end

section
set_option linter.unusedVariables false
set_option linter.unusedSimpArgs false
namespace Go.Vc
open Go
variable {P : Program} {X : Ctx} {w0 : World} {foot : Foot} {base : Mem} {S : St} {E : Env} {a : Act} {w : World} {ctx : Tags}
theorem MapRep.ents {F : Mem} {b c : Ty} {m : List (b.den × c.den)} {es : Array MapEntry} {cl : Nat} (h : MapRep F b c m es cl) : EntsAt F b c m es.toList := by
 have key : ∀ (m : List (b.den × c.den)) (l : List MapEntry), l.length = m.length → (∀ (i : Nat) x, m[i]? = some x → ∃ e, l[i]? = some e ∧ EntRep F b c x e) → EntsAt F b c m l := by
  intro m
  induction m with
  | nil => intro l hl _; rw [List.eq_nil_of_length_eq_zero hl]; exact .nil
  | cons x m ih =>
   intro l hl hat
   cases l with
   | nil => cases hl
   | cons e l =>
    obtain ⟨e', he, hk⟩ := hat 0 x rfl
    cases he
    exact .cons hk (ih l (by simpa using hl) fun i y hy => hat (i + 1) y (by simpa using hy))
 refine key m es.toList (by simpa using h.size) fun i x hx => ?_
 obtain ⟨e, us, ws, q1, q2, q3, q4, q5⟩ := h.at_ i x hx
 exact ⟨e, by simpa using q1, ⟨us, q2, q3⟩, ws, q4, q5⟩
theorem leftOf_none (es : Array MapEntry) : leftOf es #[] = es := by
 unfold leftOf
 exact Array.filter_eq_self.2 (fun x _ => by simp)
theorem begin_iter {bl : List (Nat × Blk)} {used : List Nat} (h : HRel w0 foot base bl used E w) {t k e d : Nat} {b c : Ty} {m : List (b.den × c.den)} {v : Value} (hu : P.underlying t = some (.map k e)) (hd : d ∉ used)
  (hv : (v = .map none ∧ m = []) ∨ ∃ n es cl, v = .map (some n) ∧ E.F n = some (.map es cl) ∧ MapRep E.F b c m es cl) :
  ∃ E' w', (Instr.range t v).run P w = .ok (.pointer (some ⟨w.heap.size, 0, none⟩)) w' ∧ E.le E' ∧ HRel w0 foot base (put bl d (.iter b c m none)) (d :: used) E' w' ∧ CRep E' (.ptr d 0) (.pointer (some ⟨w.heap.size, 0, none⟩)) := by
 have hnone : E.place d = none := by
  cases he : E.place d with
  | none => rfl
  | some q => exact absurd (h.used d q he) hd
 have hle := Env.new_le (p := ⟨false, w.heap.size, 0, 0⟩) hnone
 rcases hv with ⟨rfl, rfl⟩ | ⟨n, es, cl, rfl, hF, hM⟩
 ·exact ⟨_, _, run_range_nilMap w t k e hu, hle, h.alloc hd (fun _ => rfl) ⟨rfl, _, _, _, _, alloc_same, .inl ⟨rfl, rfl, rfl⟩⟩, ⟨_, Env.new_same, rfl, rfl⟩⟩
 ·refine ⟨_, _, run_range_map w t k e n es cl hu (h.frz _ _ hF), hle, h.alloc hd (fun _ => rfl) ⟨rfl, _, _, _, _, alloc_same, .inr ⟨n, es, cl, es.toList, rfl, hle.F _ _ hF, hM.stamps, rfl, rfl, ?_, hM.ents.mono hle.F, fun x hx => by cases hx⟩⟩, ⟨_, Env.new_same, rfl, rfl⟩⟩
  rw [leftOf_none]
theorem range_ok (hT : TabOk P X.tab) (h : SRel w0 foot base S E a w) (hc : TagsHold a ctx) {o : Oper} {t d : Nat} {x : Operand} (ho : o.op = .range t x) {r : Res}
  (hr : (do
   let _ ← mapTI X t
   rangeR d (← evC x) : RM Res).run S ctx = some r) (hn : ∀ i ∈ r.new, i ∉ S.used) : OpOk P w0 foot base S E a w o r := by
 obtain ⟨ke, h1, hr⟩ := RM.run_bind' hr
 obtain ⟨c, h2, hr⟩ := RM.run_bind' hr
 have hu := mapTI_sound hT h1
 have hv := evC_rep h hc h2
 have fin : ∀ {v w'}, (Instr.range t (a.eval x)).run P w = .ok v w' → (execOp a.eval o).run P w = .ok (.value v) w' := fun {v w'} hrun => by
  simp only [execOp, ho]
  rw [Sem.run_bind, hrun]
  rfl
 unfold rangeR at hr
 split at hr
 ·rename_i b c m
  cases hr
  obtain ⟨_, oo, h3, h4, h5⟩ := hv
  simp only [List.cons.injEq, and_true] at h3
  obtain ⟨E', w', k1, k2, k3, k4⟩ := begin_iter (b := b) (c := c) (m := m) (v := a.eval x) h.toHRel hu (hn d (by simp)) (by
   cases oo with
   | none => exact .inl ⟨h3, h4 rfl⟩
   | some n =>
    obtain ⟨es, cl, q1, q2, q3, q4, q5⟩ := h5 n rfl
    exact .inr ⟨n, es, cl, h3, q1, q2, q3, q4, q5⟩)
  exact OpOk.value (fin k1) ⟨k2, k3, k4⟩
 ·simp only [RM.run] at hr
  split at hr
  ·rename_i B hf
   split at hr
   ·rename_i n' hf' fro b c m cur
    cases hr
    obtain ⟨E1, l1, q1, f1, hH⟩ := h.toHRel.freezeMap hf
    obtain ⟨p, hp, hpn, hv⟩ := hv
    obtain ⟨p', hp', hB⟩ := hH.blks _ _ (find_put_same _ _ _)
    rw [q1, hp] at hp'
    cases hp'
    obtain ⟨_, es, cl, k1, k2, k3, _⟩ := hB
    obtain ⟨E', w', k1, k2, k3, k4⟩ := begin_iter (b := b) (c := c) (m := m) (v := a.eval x) hH hu (hn d (by simp)) (.inr ⟨_, es, cl, hv, k2 rfl, k3⟩)
    exact OpOk.value (fin k1) ⟨l1.trans k2, k3, k4⟩
   ·cases hr
  ·cases hr
 ·cases hr
theorem stamps_nodup {es : Array MapEntry} {cl : Nat} (h : Stamps es cl) : (es.toList.map (·.born)).Nodup := by
 unfold List.Nodup
 rw [List.pairwise_map]
 exact h.1.imp fun hlt => Nat.ne_of_lt hlt
theorem entry_ok (h : SRel w0 foot base S E a w) (hc : TagsHold a ctx) {o : Oper} {it : Operand} (ho : o.op = .entry it) {r : Res} (hr : (do entryR (← evC it) : RM Res).run S ctx = some r) : OpOk P w0 foot base S E a w o r := by
 obtain ⟨c, h2, hr⟩ := RM.run_bind' hr
 have hv := evC_rep h hc h2
 unfold entryR at hr
 split at hr
 ·rename_i d off
  simp only [RM.run] at hr
  split at hr
  ·rename_i B hf
   split at hr
   ·rename_i b c todo cur
    split at hr
    ·rename_i x ho0
     have ho0 := Nat.eq_of_beq_eq_true ho0
     subst ho0
     rw [pureV_spec hr]
     obtain ⟨p, hp, hn, hv⟩ := hv
     obtain ⟨p', hp', _, mo, si, se, la, k1, k2⟩ := h.blks _ _ hf
     rw [hp] at hp'; cases hp'
     rcases k2 with ⟨_, _, hcur⟩ | ⟨mb, es, cl, les, e1, e2, e3, e4, e5, e6, e7, e8⟩
     ·cases hcur
     ·obtain ⟨e, g1, g2, g3⟩ := e8 x rfl
      subst e1 e4 e5
      have hb := h.frz _ _ e2
      have hf : es.find? (·.born == e.born) = some e := by rw [← Array.find?_toList]; exact find_born e es.toList (stamps_nodup e3) g1
      refine OpOk.value (v := .tuple #[e.key, e.val]) (w' := w) ?_ (After.pure h.toHRel ⟨_, rfl, e.key, [e.val], rfl, KRep.part g3.1, e.val, [], rfl, KRep.part g3.2, rfl⟩)
      simp only [execOp, ho, hv]
      rw [Sem.run_bind]
      have : (Instr.entry (.pointer (some ⟨p.blk, 0, none⟩))).run P w = .ok (.tuple #[e.key, e.val]) w := by
       simp only [Instr.entry, getObj, Sem.run_bind, Sem.run, k1, hb, Result.andThen, g2, bne_self_eq_false, Bool.false_eq_true, if_false, hf]
       rfl
      rw [this]
      rfl
    ·cases hr
   ·cases hr
  ·cases hr
 ·cases hr
structure IterAt where
 d : Nat
 a : Ty
 b : Ty
 todo : List (a.den × b.den)
def iterAt (S : St) (o : Oper) : Option IterAt :=
 match o.op with
 | .next it false => (match (evC it).run S [] with
  | some (.ptr d 0) => (match find S.bl d with
   | some (.iter a b todo _) => some ⟨d, a, b, todo⟩
   | _ => none)
  | _ => none)
 | _ => none
def stepOver : Res := { val := some (.tup [(false, [.dat .bool false])]) }
def stepTo (d : Nat) (a b : Ty) (x : a.den × b.den) (rest : List (a.den × b.den)) : Res :=
 {val := some (.tup [(false, [.dat .bool true]), (a.isAgg, flat a x.1), (b.isAgg, flat b x.2)]), blks := [(d, .iter a b rest (some x))] }
theorem EntsAt.split {F : Mem} {b c : Ty} : ∀ {pre post : List MapEntry} {e : MapEntry} {m : List (b.den × c.den)}, EntsAt F b c m (pre ++ e :: post) →
  ∃ m1 x m2, m = m1 ++ x :: m2 ∧ EntsAt F b c m1 pre ∧ EntRep F b c x e ∧ EntsAt F b c m2 post
 | [], post, e, m, h => by
  cases h with
  | cons hh ht => exact ⟨[], _, _, rfl, .nil, hh, ht⟩
 | y :: pre, post, e, m, h => by
  cases h with
  | cons hh ht =>
   obtain ⟨m1, x, m2, rfl, k1, k2, k3⟩ := EntsAt.split ht
   exact ⟨_ :: m1, x, m2, rfl, .cons hh k1, k2, k3⟩
theorem EntsAt.append {F : Mem} {b c : Ty} {m1 m2 : List (b.den × c.den)} {l1 l2 : List MapEntry} (h : EntsAt F b c m1 l1) (k : EntsAt F b c m2 l2) : EntsAt F b c (m1 ++ m2) (l1 ++ l2) := by
 induction h with
 | nil => exact k
 | cons h _ ih => exact .cons h ih
theorem left_step {es : Array MapEntry} {seen : Array Nat} {cl : Nat} (hs : Stamps es cl) {pre post : List MapEntry} {e : MapEntry} (h : (pre ++ e :: post).Perm (leftOf es seen).toList) : (pre ++ post).Perm (leftOf es (seen.push e.born)).toList := by
 have e1 : (leftOf es (seen.push e.born)).toList = (leftOf es seen).toList.filter fun y => y.born != e.born := by
  unfold leftOf
  rw [Array.toList_filter, Array.toList_filter, List.filter_filter]
  refine List.filter_congr fun y _ => ?_
  simp only [Array.contains_push]
  cases seen.contains y.born <;> simp [bne, Bool.beq_comm]
  try (cases hq : (y.born == e.born) <;> cases hq' : (e.born == y.born) <;> simp_all)
 have hnd : ((leftOf es seen).toList.map (·.born)).Nodup := by
  unfold leftOf
  rw [Array.toList_filter]
  exact ((List.filter_sublist).map _).nodup (stamps_nodup hs)
 have hnd2 : ((pre ++ e :: post).map (·.born)).Nodup := (h.map _).nodup_iff.2 hnd
 have hne : ∀ y, y ∈ pre ∨ y ∈ post → (y.born != e.born) = true := fun y hy => by
  simp only [List.map_append, List.map_cons, List.nodup_append, List.nodup_cons] at hnd2
  simp only [bne_iff_ne]
  intro heq
  rcases hy with hy | hy
  ·exact hnd2.2.2 y.born (List.mem_map_of_mem hy) e.born (by simp) heq
  ·exact hnd2.2.1.1 (heq ▸ List.mem_map_of_mem hy)
 have e2 : (pre ++ e :: post).filter (fun y => y.born != e.born) = pre ++ post := by
  rw [List.filter_append, List.filter_cons]
  simp only [bne_self_eq_false, Bool.false_eq_true, if_false]
  rw [List.filter_eq_self.2 fun y hy => hne y (.inl hy), List.filter_eq_self.2 fun y hy => hne y (.inr hy)]
 rw [e1, ← e2]
 exact h.filter _
theorem iterAt_sound (h : SRel w0 foot base S E a w) {o : Oper} {i : IterAt} (hi : iterAt S o = some i) :
  (i.todo = [] ∧ OpOk P w0 foot base S E a w o stepOver) ∨ ∃ x rest, i.todo.Perm (x :: rest) ∧ OpOk P w0 foot base S E a w o (stepTo i.d i.a i.b x rest) := by
 unfold iterAt at hi
 split at hi
 ·rename_i it ho
  split at hi
  ·rename_i d hd
   split at hi
   ·rename_i b c todo cur hf
    cases hi
    simp only
    have hv := evC_rep h (fun t ht => by cases ht) hd
    obtain ⟨p, hp, hn, hv⟩ := hv
    obtain ⟨p', hp', _, mo, si, se, la, k1, k2⟩ := h.blks _ _ hf
    rw [hp] at hp'; cases hp'
    have over : (Instr.next (.pointer (some ⟨p.blk, 0, none⟩)) false o.type).run P w = .ok (.tuple #[.bool false]) w → OpOk P w0 foot base S E a w o stepOver := fun hrun => by
     refine OpOk.value (v := .tuple #[.bool false]) (w' := w) ?_ ⟨.refl _, h.toHRel, _, rfl, .bool false, [], rfl, ⟨_, rfl, rfl, rfl⟩, rfl⟩
     simp only [execOp, ho, hv]
     rw [Sem.run_bind, hrun]
     rfl
    rcases k2 with ⟨rfl, rfl, _⟩ | ⟨mb, es, cl, les, rfl, e2, e3, e4, e5, e6, e7, e8⟩
    ·refine .inl ⟨rfl, over ?_⟩
     simp only [Instr.next, getObj, Sem.run_bind, Sem.run, k1, Result.andThen]
     rfl
    ·rw [e4, e5] at k1
     have hb := h.frz _ _ e2
     have hold : ∀ x ∈ es.toList, x.born < cl := e3.2
     have htest := next_test_false se es cl cl hold (Nat.le_refl _)
     have hmem : ∀ x ∈ (leftOf es se).toList, x.born < cl := fun x hx => hold x (by unfold leftOf at hx; simp at hx ⊢; exact hx.1)
     have hL : es.filter (fun e => !se.contains e.born) = leftOf es se := rfl
     have f1 : (leftOf es se).filter (fun x => decide (x.born < cl)) = leftOf es se := Array.filter_eq_self.2 (fun x hx => by simpa using hmem x (by simpa using hx))
     have f2 : (leftOf es se).filter (fun x => decide (x.born ≥ cl)) = #[] := by
      rw [Array.filter_eq_empty_iff]
      intro x hx
      have := hmem x (by simpa using hx)
      simp
      omega
     by_cases h0 : (leftOf es se).size = 0
     ·have hnil : leftOf es se = #[] := Array.eq_empty_of_size_eq_zero h0
      rw [hnil] at e6
      have : les = [] := e6.eq_nil
      subst this
      cases e7
      refine .inl ⟨rfl, over ?_⟩
      simp only [Instr.next, getObj, Sem.run_bind, Sem.run, k1, hb, Result.andThen, htest, Bool.false_eq_true, if_false, hL, f1, f2, hnil]
      simp [choose, Sem.run, Question.forced]
     ·have hne : (leftOf es se).isEmpty = false := by simp [Array.isEmpty, h0]
      have hch : ∃ (j n : Nat), j < (leftOf es se).size ∧ (choose (Question.mapNext (leftOf es se).size)).run P w = .ok j { w with drawn := n } := by
       by_cases hf : (leftOf es se).size ≤ 1
       ·exact ⟨0, w.drawn, by omega, by simp [choose, Sem.run, Question.forced, hf]⟩
       ·exact ⟨_, w.drawn + 1, Nat.mod_lt _ (by omega), by
         simp only [choose, Sem.run, Question.forced, decide_eq_true_eq, hf, if_false, Question.cut]
         rfl⟩
      obtain ⟨j, n, hj, hrun⟩ := hch
      have hmemj : (leftOf es se)[j] ∈ les := e6.mem_iff.2 (by simp)
      obtain ⟨pre, post, hles⟩ := List.append_of_mem hmemj
      generalize hej : (leftOf es se)[j] = e at hmemj hles
      subst hles
      obtain ⟨m1, x, m2, rfl, g1, g2, g3⟩ := e7.split
      have hein : e ∈ es.toList := by
       have : e ∈ (leftOf es se).toList := by rw [← hej]; simp
       unfold leftOf at this
       simp at this ⊢
       exact this.1
      refine .inr ⟨x, m1 ++ m2, List.perm_middle, ?_⟩
      have hw := (h.toHRel.drew n).write (B' := .iter b c (m1 ++ m2) (some x)) (o := .mapIter (some mb) cl (se.push e.born) cl) hf hp hn rfl
       ⟨hn, _, _, _, _, setBlk_same (heap_lt k1), .inr ⟨mb, es, cl, pre ++ post, rfl, e2, e3, rfl, rfl, left_step e3 e6, g1.append g3, fun y hy => by cases hy; exact ⟨e, hein, by simp, g2⟩⟩⟩
      refine OpOk.value (v := .tuple #[.bool true, e.key, e.val]) (w' := setBlk { w with drawn := n } p.blk (.mapIter (some mb) cl (se.push e.born) cl)) ?_ ⟨.refl _, hw, _, rfl, ?_⟩
      ·have hget : (((leftOf es se).map some)[j]? : Option (Option MapEntry)) = some (some e) := by
        rw [Array.getElem?_map, Array.getElem?_eq_getElem hj, hej]; rfl
       have hset : (setObj p.blk (.mapIter (some mb) cl (se.push e.born) cl)).run P { w with drawn := n } = .ok () (setBlk { w with drawn := n } p.blk (.mapIter (some mb) cl (se.push e.born) cl)) := by
        have : ({ w with drawn := n } : World).heap[p.blk]? = some (.mapIter (some mb) cl se cl) := k1
        simp [setObj, Sem.run, this, setBlk]
       have hnext : (Instr.next (.pointer (some ⟨p.blk, 0, none⟩)) false o.type).run P w = .ok (.tuple #[.bool true, e.key, e.val]) (setBlk { w with drawn := n } p.blk (.mapIter (some mb) cl (se.push e.born) cl)) := by
        simp only [Instr.next, getObj, Sem.run_bind, Sem.run, k1, hb, Result.andThen, htest, Bool.false_eq_true, if_false, hL, f1, f2, Array.append_empty, hne, Array.empty_append, Array.size_map, hrun, hget, hset]
        rfl
       simp only [execOp, ho, hv]
       rw [Sem.run_bind, hnext]
       rfl
      ·exact ⟨.bool true, [e.key, e.val], rfl, ⟨_, rfl, rfl, rfl⟩, e.key, [e.val], rfl, KRep.part g2.1, e.val, [], rfl, KRep.part g2.2, rfl⟩
   ·cases hi
  ·cases hi
 ·cases hi
end Go.Vc
end

section
set_option linter.unusedVariables false
set_option linter.unusedSimpArgs false
namespace Go.Vc
open Go
variable {P : Program} {X : Ctx} {w0 : World} {foot : Foot} {base : Mem} {S : St} {E : Env} {a : Act} {w : World} {ctx : Tags}
theorem RowVals.set {F : Mem} {t : Ty} {xs : List t.den} {us : List Value} (h : RowVals F t xs us) {i : Nat} (hi : i < xs.length) {y : t.den} {ws : List Value} (hy : Rep F t y ws) :
  RowVals F t (xs.set i y) (us.take (i * t.size) ++ ws ++ us.drop (i * t.size + t.size)) := by
 have hw := hy.length
 have hm : (i + 1) * t.size ≤ xs.length * t.size := Nat.mul_le_mul_right _ (by omega)
 rw [Nat.succ_mul] at hm
 have hl := h.1
 refine ⟨by simp only [List.length_append, List.length_take, List.length_drop, List.length_set]; omega, fun k x hx => ?_⟩
 by_cases hk : i = k
 ·subst hk
  rw [List.getElem?_set_self hi] at hx
  cases hx
  refine ⟨ws, hy, hw, fun j u hu => ?_⟩
  have hj := (List.getElem?_eq_some_iff.1 hu).1
  rw [List.getElem?_append_left (by simp; omega), List.getElem?_append_right (by simp; omega), ← hu]
  congr 1
  simp only [List.length_take]
  omega
 ·rw [List.getElem?_set_ne hk] at hx
  obtain ⟨vs, k1, k2, k3⟩ := h.2 k x hx
  refine ⟨vs, k1, k2, fun j u hu => ?_⟩
  have hj := (List.getElem?_eq_some_iff.1 hu).1
  have := k3 j u hu
  rcases Nat.lt_or_gt_of_ne hk with hlt | hlt
  ·have hm2 : (i + 1) * t.size ≤ k * t.size := Nat.mul_le_mul_right _ (by omega)
   rw [Nat.succ_mul] at hm2
   rw [List.getElem?_append_right (by simp; omega), List.getElem?_drop, ← this]
   congr 1
   simp only [List.length_append, List.length_take]
   omega
  ·have hm2 : (k + 1) * t.size ≤ i * t.size := Nat.mul_le_mul_right _ (by omega)
   rw [Nat.succ_mul] at hm2
   rw [List.append_assoc, List.getElem?_append_left (by simp; omega), List.getElem?_take_of_lt (by omega)]
   exact this
theorem buildXs_froOk {t : Ty} : ∀ {ps : List (Nat × Operand)} {xs : List t.den} {r : List t.den × Fro}, (buildXs t ps xs).run S ctx = some r → FroOk S.bl r.2
 | [], xs, r, hr => by cases hr; exact .nil
 | (i, x) :: ps, xs, r, hr => by
  unfold buildXs at hr
  have hr0 := RM.run_bind' hr
  clear hr
  obtain ⟨s, h1, hr⟩ := hr0
  have hr0 := RM.run_bind' hr
  clear hr
  obtain ⟨v, h2, hr⟩ := hr0
  have hr0 := RM.run_bind' hr
  clear hr
  obtain ⟨y, h3, hr⟩ := hr0
  have hr0 := RM.run_bind' hr
  clear hr
  obtain ⟨u, h4, hr⟩ := hr0
  have hr0 := RM.run_bind' hr
  clear hr
  obtain ⟨q, h5, hr⟩ := hr0
  have hr0 := RM.run_bind' hr
  clear hr
  obtain ⟨_, h6, hr⟩ := hr0
  cases RM.run_pure' hr
  exact (reify_froOk (x := y.1) (fr := y.2) h3).append (buildXs_froOk h5) (run_guardR h6)
theorem buildXs_sound {t : Ty} (h : SRel w0 foot base S E a w) (hc : TagsHold a ctx) {E' : Env} (hle : E.le E') : ∀ {ps : List (Nat × Operand)} {xs : List t.den} {r : List t.den × Fro} {cells : Array Value},
  (buildXs t ps xs).run S ctx = some r → Frozen S.bl E' w r.2 → RowVals E'.F t xs cells.toList →
  ∃ cells', Instr.fill (fun i => some (i * t.size, t.size)) cells (ps.map fun (i, x) => (i, a.eval x)) = some cells' ∧ RowVals E'.F t r.1 cells'.toList ∧ r.1.length = xs.length
 | [], xs, r, cells, hr, _, hv => by cases hr; exact ⟨cells, rfl, hv, rfl⟩
 | (i, x) :: ps, xs, r, cells, hr, hf, hv => by
  unfold buildXs at hr
  have hr0 := RM.run_bind' hr
  clear hr
  obtain ⟨s, h1, hr⟩ := hr0
  have hr0 := RM.run_bind' hr
  clear hr
  obtain ⟨cs, h2, hr⟩ := hr0
  have hr0 := RM.run_bind' hr
  clear hr
  obtain ⟨y, h3, hr⟩ := hr0
  have hr0 := RM.run_bind' hr
  clear hr
  obtain ⟨u, h4, hr⟩ := hr0
  have hr0 := RM.run_bind' hr
  clear hr
  obtain ⟨q, h5, hr⟩ := hr0
  have hr0 := RM.run_bind' hr
  clear hr
  obtain ⟨_, _, hr⟩ := hr0
  cases RM.run_pure' hr
  have hi : i < xs.length := Nat.le_of_ble_eq_true (run_guardR h4)
  have hcs := (evCells_rep h hc h1 h2).mono hle
  have hy := reify_rep (x := y.1) (fr := y.2) h3 hcs hf.left
  have hyl := hy.length
  have hm : (i + 1) * t.size ≤ xs.length * t.size := Nat.mul_le_mul_right _ (by omega)
  rw [Nat.succ_mul] at hm
  have hcl := hv.1
  simp only [Array.length_toList] at hcl hyl
  have hfold := fill_foldl cells (i * t.size) (a.eval x).cells.toList 0 cells (by simp only [Array.length_toList]; omega)
  simp only [Nat.add_zero] at hfold
  have e : ((a.eval x).cells.zipIdx.foldl (fun cs (c, j) => cs.setIfInBounds (i * t.size + j) c) cells).toList = cells.toList.take (i * t.size) ++ (a.eval x).cells.toList ++ cells.toList.drop (i * t.size + t.size) := by
   rw [← Array.foldl_toList, Array.toList_zipIdx]
   rw [show t.size = (a.eval x).cells.toList.length by simp [hyl]] at *
   exact hfold
  obtain ⟨cells', k1, k2, k3⟩ := buildXs_sound h hc hle (cells := (a.eval x).cells.zipIdx.foldl (fun cs (c, j) => cs.setIfInBounds (i * t.size + j) c) cells) h5 hf.right (by rw [e]; exact hv.set hi hy)
  refine ⟨cells', ?_, k2, by rw [k3]; simp⟩
  simp only [List.map_cons, Instr.fill]
  rw [if_neg (by simp; omega)]
  exact k1
theorem buildSlice_ok (hT : TabOk P X.tab) (h : SRel w0 foot base S E a w) (hc : TagsHold a ctx) {o : Oper} {t n d : Nat} {ps : Array (Nat × Operand)} (ho : o.op = .buildSlice t n ps) {r : Res}
  (hr : (do
   let i ← ti X t
   match i.d with
   | .slice e => (do
    let j ← ti X e
    let ty ← RM.ofOption j.ty
    guardR (Nat.ble (n * j.size) 16777216)
    let z ← zeroD j ty
    let r ← buildXs ty ps.toList (List.replicate n z)
    .ret { val := some (.one (.row ty d)), blks := r.2 ++ [(d, .row false e ty r.1)], new := [d] })
   | _ => .fail : RM Res).run S ctx = some r) (hn : ∀ i ∈ r.new, i ∉ S.used) : OpOk P w0 foot base S E a w o r := by
 have hr0 := RM.run_bind' hr
 clear hr
 obtain ⟨i, h1, hr⟩ := hr0
 obtain ⟨hs, _⟩ := ti_spec hT h1
 split at hr
 ·rename_i e hd
  rw [hd] at hs
  have hr0 := RM.run_bind' hr
  clear hr
  obtain ⟨j, h2, hr⟩ := hr0
  have hr0 := RM.run_bind' hr
  clear hr
  obtain ⟨ty, h3, hr⟩ := hr0
  have hr0 := RM.run_bind' hr
  clear hr
  obtain ⟨u, h4, hr⟩ := hr0
  have hr0 := RM.run_bind' hr
  clear hr
  obtain ⟨z, h5, hr⟩ := hr0
  have hr0 := RM.run_bind' hr
  clear hr
  obtain ⟨q, h6, hr⟩ := hr0
  cases hr
  obtain ⟨j', g1, g2, g3, g4, g5, g6, g7, g8⟩ := zeroD_sound hT h2 h5
  have hsmall := Nat.le_of_ble_eq_true (run_guardR h4)
  have hfo := buildXs_froOk h6
  obtain ⟨E1, l1, q1, f1, hh⟩ := h.toHRel.applyFro hfo
  have hfz := Frozen.of_apply hfo hh
  have hmade := RowVals.made (n := n) (m := n) (g8 E1.F) (by omega) (Nat.le_refl _)
  rw [List.take_of_length_le (by simp [size_madeCells])] at hmade
  obtain ⟨cells', k1, k2, k3⟩ := buildXs_sound h hc l1 h6 hfz hmade
  have hlen : q.1.length = n := by rw [k3]; simp
  have hsz : cells'.size = n * ty.size := by rw [← Array.length_toList, k2.1, hlen]
  have hn63 : n ≤ maxLenI := by
   have : n * 1 ≤ n * j.size := Nat.mul_le_mul_left _ (by omega)
   unfold maxLenI
   omega
  obtain ⟨m1, m2, m3⟩ := new_row (S := { S with bl := applyFro q.2 S.bl }) (e := e) (cap := n) (rest := []) hh (hn d (by simp)) k2 hn63 (by omega) (by simp) hsz
  rw [hlen] at m1 m2 m3
  refine OpOk.value (v := _) (w' := _) ?_ ⟨l1.trans m2, by rw [applyBl_fro]; exact m1, m3⟩
  have k1' : Instr.fill (fun i => some (i * j'.size, j'.size)) (madeCells j.zero.cells (n * j'.size)) (ps.map fun x => (x.1, a.eval x.2)).toList = some cells' := by
   rw [Array.toList_map, g2, ← g5]
   exact k1
  have hgt : ¬ n * j'.size > 2 ^ 24 := by rw [g2]; omega
  by_cases hz : n * j'.size = 0
  ·rw [hz] at k1'
   have hm0 : madeCells j.zero.cells 0 = #[] := by simp [madeCells]
   rw [hm0] at k1'
   simp only [execOp, ho, Instr.buildSlice, Sem.run_bind, run_underlying (skel_slice hs), Result.andThen_ok, run_sizeOf' g1]
   rw [if_neg hgt, if_pos hz, hz]
   simp only [Sem.run_bind, Sem.run_pure, Result.andThen_ok]
   have hr0 : Array.map (fun x => (#[] : Array Value)[x % (#[] : Array Value).size]!) (Array.range 0) = #[] := by simp
   rw [hr0, k1']
   rfl
  ·simp only [execOp, ho, Instr.buildSlice, Sem.run_bind, run_underlying (skel_slice hs), Result.andThen_ok, run_sizeOf' g1]
   rw [if_neg hgt, if_neg hz]
   simp only [Sem.run_bind, Sem.run_pure, Result.andThen_ok, run_zeroValue' g1 g4]
   unfold madeCells at k1'
   rw [k1']
   rfl
 ·cases hr
theorem HRel.later {bl : List (Nat × Blk)} {used : List Nat} (h : HRel w0 foot base bl used E w) {w' : World} (hk : Keep (fun _ => False) w w') {F : Mem} (hF : E.F.le F) (hfrz : ∀ b o, F b = some o → w'.heap[b]? = some o)
  (hsrc : ∀ b o, F b = some o → E.F b = some o ∨ w.heap.size ≤ b) : HRel w0 foot base bl used { E with F := F } w' := by
 have hle : E.le { E with F := F } := ⟨hF, fun _ _ h => h⟩
 have hbrep : ∀ id B p, find bl id = some B → E.place id = some p → BRep E w p B := fun id B p hf hp => by
  obtain ⟨q, hq, k⟩ := h.blks id B hf
  rw [hp] at hq
  cases hq
  exact k
 refine ⟨h.keep.trans ⟨hk.os, hk.tape, hk.output, hk.size, fun k hk' _ => hk.block k hk' (fun h => h)⟩, hfrz, fun b o hb => ?_, fun id B hf => ?_, fun id B p hf hp hn => ?_, h.inj, h.used⟩
 ·rcases hsrc b o hb with h1 | h1
  ·exact h.src b o h1
  ·exact .inr (.inl (Nat.le_trans h.keep.size h1))
 ·obtain ⟨p, hp, k⟩ := h.blks id B hf
  exact ⟨p, hp, (k.mono hle).world fun hn => hk.block _ (k.lt hn) (fun h => h)⟩
 ·refine ⟨(h.own id B p hf hp hn).1, fun hm => ?_⟩
  show F p.blk = none
  cases hf' : F p.blk with
  | none => rfl
  | some o =>
   rcases hsrc _ _ hf' with h1 | h1
   ·rw [(h.own id B p hf hp hn).2 hm] at h1; cases h1
   ·have := (hbrep id B p hf hp).lt hn; omega
theorem buildSliceG_ok (hT : TabOk P X.tab) (h : SRel w0 foot base S E a w) (hc : TagsHold a ctx) {o : Oper} {t n : Nat} {ps : Array (Nat × Operand)} (ho : o.op = .buildSlice t n ps) {r : Res}
  (hr : (do
   let i ← ti X t
   match i.d with
   | .slice e => (do
    let j ← ti X e
    let ty ← RM.ofOption j.ty
    guardR (Nat.ble (n * j.size) 16777216)
    let z ← zeroD j ty
    let r ← buildXs ty ps.toList (List.replicate n z)
    guardR r.2.isEmpty
    pureV (.one (.dat (.list ty) r.1)))
   | _ => .fail : RM Res).run S ctx = some r) : OpOk P w0 foot base S E a w o r := by
 have hr0 := RM.run_bind' hr
 clear hr
 obtain ⟨i, h1, hr⟩ := hr0
 obtain ⟨hs, _⟩ := ti_spec hT h1
 split at hr
 ·rename_i e hd
  rw [hd] at hs
  have hr0 := RM.run_bind' hr
  clear hr
  obtain ⟨j, h2, hr⟩ := hr0
  have hr0 := RM.run_bind' hr
  clear hr
  obtain ⟨ty, h3, hr⟩ := hr0
  have hr0 := RM.run_bind' hr
  clear hr
  obtain ⟨u, h4, hr⟩ := hr0
  have hr0 := RM.run_bind' hr
  clear hr
  obtain ⟨z, h5, hr⟩ := hr0
  have hr0 := RM.run_bind' hr
  clear hr
  obtain ⟨q, h6, hr⟩ := hr0
  have hr0 := RM.run_bind' hr
  clear hr
  obtain ⟨_, h7, hr⟩ := hr0
  rw [pureV_spec hr]
  obtain ⟨j', g1, g2, g3, g4, g5, g6, g7, g8⟩ := zeroD_sound hT h2 h5
  have hsmall := Nat.le_of_ble_eq_true (run_guardR h4)
  have hq : q.2 = [] := List.isEmpty_iff.1 (run_guardR h7)
  have hfz : Frozen S.bl E w q.2 := by rw [hq]; exact fun _ hq => by cases hq
  have hmade := RowVals.made (n := n) (m := n) (g8 E.F) (by omega) (Nat.le_refl _)
  rw [List.take_of_length_le (by simp [size_madeCells])] at hmade
  obtain ⟨cells', k1, k2, k3⟩ := buildXs_sound h hc (.refl E) h6 hfz hmade
  have hlen : q.1.length = n := by rw [k3]; simp
  have hsz : cells'.size = n * ty.size := by rw [← Array.length_toList, k2.1, hlen]
  have hn63 : n ≤ maxLenI := by
   have : n * 1 ≤ n * j.size := Nat.mul_le_mul_left _ (by omega)
   unfold maxLenI
   omega
  have hnew : E.F w.heap.size = none := by
   cases he : E.F w.heap.size with
   | none => rfl
   | some o' => have := heap_lt (h.frz _ _ he); omega
  have hle : E.F.le (fun b => if b = w.heap.size then some (.cells cells' e (0, 0)) else E.F b) := fun b o' hb => by
   show (if b = w.heap.size then _ else E.F b) = _
   rw [if_neg (fun e => by rw [e, hnew] at hb; cases hb)]
   exact hb
  have hat : (fun b => if b = w.heap.size then some (Obj.cells cells' e (0, 0)) else E.F b) w.heap.size = some (Obj.cells cells' e (0, 0)) := by simp
  have hR := h.toHRel.later (w' := w.alloc (.cells cells' e)) (F := fun b => if b = w.heap.size then some (.cells cells' e (0, 0)) else E.F b)
   ⟨rfl, rfl, rfl, by simp, fun k hk _ => alloc_other hk⟩ hle (fun b o' hb => by
    by_cases hb' : b = w.heap.size
    ·have e1 : some (Obj.cells cells' e (0, 0)) = some o' := by
      have hb : (if b = w.heap.size then some (Obj.cells cells' e (0, 0)) else E.F b) = some o' := hb
      rw [if_pos hb'] at hb
      exact hb
     cases e1
     rw [hb']
     exact alloc_same
    ·have hb : (if b = w.heap.size then some (Obj.cells cells' e (0, 0)) else E.F b) = some o' := hb
     rw [if_neg hb'] at hb
     have := h.frz _ _ hb
     rw [alloc_other (heap_lt this)]
     exact this) (fun b o' hb => by
    by_cases hb' : b = w.heap.size
    ·exact .inr (by omega)
    ·have hb : (if b = w.heap.size then some (Obj.cells cells' e (0, 0)) else E.F b) = some o' := hb
     rw [if_neg hb'] at hb
     exact .inl hb)
  have k2' := k2.mono hle
  refine OpOk.value (v := .slice (some ⟨w.heap.size, 0, none⟩) n n) (w' := w.alloc (.cells cells' e)) (E' := { E with F := fun b => if b = w.heap.size then some (.cells cells' e (0, 0)) else E.F b }) ?_ ⟨⟨hle, fun _ _ h => h⟩, hR, ?_⟩
  ·have k1' : Instr.fill (fun i => some (i * j'.size, j'.size)) (madeCells j.zero.cells (n * j'.size)) (ps.map fun x => (x.1, a.eval x.2)).toList = some cells' := by
    rw [Array.toList_map, g2, ← g5]
    exact k1
   have hgt : ¬ n * j'.size > 2 ^ 24 := by rw [g2]; omega
   by_cases hz : n * j'.size = 0
   ·rw [hz] at k1'
    have hm0 : madeCells j.zero.cells 0 = #[] := by simp [madeCells]
    rw [hm0] at k1'
    simp only [execOp, ho, Instr.buildSlice, Sem.run_bind, run_underlying (skel_slice hs), Result.andThen_ok, run_sizeOf' g1]
    rw [if_neg hgt, if_pos hz, hz]
    simp only [Sem.run_bind, Sem.run_pure, Result.andThen_ok]
    have hr0 : Array.map (fun x => (#[] : Array Value)[x % (#[] : Array Value).size]!) (Array.range 0) = #[] := by simp
    rw [hr0, k1']
    rfl
   ·simp only [execOp, ho, Instr.buildSlice, Sem.run_bind, run_underlying (skel_slice hs), Result.andThen_ok, run_sizeOf' g1]
    rw [if_neg hgt, if_neg hz]
    simp only [Sem.run_bind, Sem.run_pure, Result.andThen_ok, run_zeroValue' g1 g4]
    unfold madeCells at k1'
    rw [k1']
    rfl
  ·refine ⟨rfl, some ⟨w.heap.size, 0, none⟩, n, ?_, ?_, hn63, fun h => (by cases h), fun p hp i x hx => ?_⟩
   ·show _ = [Value.slice _ (q.1.length) n]
    rw [hlen]
   ·show q.1.length ≤ n
    omega
   ·cases hp
    obtain ⟨ws, q1, q2, q3⟩ := k2'.2 i x hx
    refine ⟨rfl, ws, q1, q2, fun j u hu => ⟨cells', e, (0, 0), hat, ?_⟩⟩
    have := q3 j u hu
    rw [Array.getElem?_toList] at this
    rw [Nat.zero_add]
    exact this
 ·cases hr
def SReps (E : Env) : List SV → List Value → Prop
 | [], vs => vs = []
 | s :: ss, vs => ∃ v us, vs = v :: us ∧ SRep E s v ∧ SReps E ss us
theorem evAll_rep (h : SRel w0 foot base S E a w) (hc : TagsHold a ctx) : ∀ {xs : List Operand} {ss : List SV}, (evAll xs).run S ctx = some ss → SReps E ss (xs.map a.eval)
 | [], ss, hr => by cases hr; rfl
 | x :: xs, ss, hr => by
  unfold evAll at hr
  have hr0 := RM.run_bind' hr
  clear hr
  obtain ⟨s, h1, hr⟩ := hr0
  have hr0 := RM.run_bind' hr
  clear hr
  obtain ⟨ss', h2, hr⟩ := hr0
  cases RM.run_pure' hr
  exact ⟨_, _, rfl, ev_rep h hc h1, evAll_rep h hc h2⟩
structure ConOk (P : Program) (f : Nat) (con : Con) : Prop where
 fn : ∃ fn c, P.funcs[f]? = some fn ∧ (fn.name == "runtime.NumGoroutine") = false ∧ fn.body = some c
 calls : ∀ (w0 : World) (foot : Foot) (base : Mem) (S : St) (ctx : Tags) (E : Env) (w : World) (args : List SV) (vs : List Value) (d : Nat) (r : Res), HRel w0 foot base S.bl S.used E w → SReps E args vs →
  (con.run args d).run S ctx = some r → (∀ c ∈ r.conds, c) → (∀ i ∈ r.new, i ∉ S.used) →
  Calls P f vs.toArray w fun e w' => ∃ v E', e = .returned v ∧ After w0 foot base S.bl S.used E r E' w' v
theorem call_ok (hK : ∀ f con, X.con f = some con → ConOk P f con) (h : SRel w0 foot base S E a w) (hc : TagsHold a ctx) {o : Oper} {f d : Nat} {args : Array Operand} {ats : Array Nat} (ho : o.op = .call { callee := .value (.func f), args := args, argTypes := ats }) {r : Res}
  (hr : (do
   let con ← RM.ofOption (X.con f)
   let vs ← evAll args.toList
   con.run vs d : RM Res).run S ctx = some r) (hn : ∀ i ∈ r.new, i ∉ S.used) (hcond : ∀ c ∈ r.conds, c) : OpOk P w0 foot base S E a w o r := by
 have hr0 := RM.run_bind' hr
 clear hr
 obtain ⟨con, h1, hr⟩ := hr0
 have hr0 := RM.run_bind' hr
 clear hr
 obtain ⟨ss, h2, hr⟩ := hr0
 have hcon := hK f con (run_ofOption h1)
 obtain ⟨fn, c, hf, hname, hbody⟩ := hcon.fn
 intro next Q hnext
 unfold Oper.wp
 have hrun : (execOp a.eval o).run P w = .ok (.enter f (args.map a.eval)) w := by
  simp only [execOp, ho, resolve, Act.eval, Deferred.ofValue, Sem.run_bind, Sem.run_pure, Result.andThen_ok, invoke, callFunc, run_program, hf, hname, hbody]
  simp
 rw [hrun, Oper.upon_enter]
 have hcalls := hcon.calls w0 foot base S ctx E w ss (args.toList.map a.eval) d r h.toHRel (evAll_rep h hc h2) hr hcond hn
 have ea : (args.toList.map a.eval).toArray = args.map a.eval := by apply Array.ext'; simp
 rw [ea] at hcalls
 refine hcalls.mono fun e w' => ?_
 rintro ⟨v, E', rfl, hA⟩
 exact hnext _ _ _ hA
theorem SReps.append {E : Env} : ∀ {ss ts : List SV} {vs us : List Value}, SReps E ss vs → SReps E ts us → SReps E (ss ++ ts) (vs ++ us)
 | [], _, _, _, h, k => by have h : _ = _ := h; subst h; exact k
 | _ :: _, _, _, _, ⟨v, ws, hv, k1, k2⟩, k => ⟨v, ws ++ _, by rw [hv]; rfl, k1, SReps.append k2 k⟩
theorem capSVs_reps : ∀ {t : Ty} {x : t.den} {ss : List SV} {vs : List Value}, capSVs t x = some ss → Rep E.F t x vs → SReps E ss vs
 | .unit, x, ss, vs, h, hv => by
  cases h
  have hv : vs = [] := hv
  exact hv
 | .pair a b, x, ss, vs, h, hv => by
  unfold capSVs at h
  split at h
  ·rename_i c us hc hu
   cases h
   obtain ⟨vs1, vs2, rfl, h1, h2⟩ := hv
   have h3 := CReps_flat (E := E) h1
   rw [hc] at h3
   obtain ⟨v, rfl, h4⟩ := one_reps h3
   exact ⟨v, vs2, rfl, h4, capSVs_reps hu h2⟩
  ·cases h
 | .int _, _, _, _, h, _ => by cases h
 | .bool, _, _, _, h, _ => by cases h
 | .str, _, _, _, h, _ => by cases h
 | .list _, _, _, _, h, _ => by cases h
 | .ref _, _, _, _, h, _ => by cases h
 | .ptr _, _, _, _, h, _ => by cases h
 | .clo _ _, _, _, _, h, _ => by cases h
theorem oneCells_reps {E : Env} : ∀ {ss : List SV} {cs : List C} {vs : List Value}, (oneCells ss).run S ctx = some cs → SReps E ss vs → CReps E cs vs
 | [], cs, vs, hr, h => by cases hr; exact h
 | s :: ss, cs, vs, hr, h => by
  obtain ⟨v, us, rfl, k1, k2⟩ := h
  unfold oneCells at hr
  obtain ⟨c, h1, hr⟩ := RM.run_bind' hr
  obtain ⟨ds, h2, hr⟩ := RM.run_bind' hr
  cases RM.run_pure' hr
  exact ⟨v, us, rfl, asC_rep k1 h1, oneCells_reps h2 k2⟩
theorem ptrIds_rep {E : Env} : ∀ {cs : List C} {bs : List Nat} {vs : List Value}, (ptrIds cs).run S ctx = some bs → CReps E cs vs →
  ∃ ps : List Place, ps.length = bs.length ∧ (∀ (i : Nat) b, bs[i]? = some b → ∃ p, ps[i]? = some p ∧ E.place b = some p ∧ p.nil = false) ∧ vs = ps.map fun p => Value.pointer (some ⟨p.blk, 0, none⟩)
 | [], bs, vs, hr, h => by
  cases hr
  have h : _ = _ := h
  exact ⟨[], rfl, fun i b hb => by simp at hb, h⟩
 | c :: cs, bs, vs, hr, h => by
  unfold ptrIds at hr
  split at hr
  ·rename_i heq
   cases heq
  ·rename_i b o cs' heq
   cases heq
   split at hr
   ·rename_i ho
    have ho := Nat.eq_of_beq_eq_true ho
    subst ho
    obtain ⟨ds, h1, hr⟩ := RM.run_bind' hr
    cases RM.run_pure' hr
    obtain ⟨v, us, rfl, ⟨p, hp, hn, rfl⟩, k2⟩ := h
    obtain ⟨ps, g1, g2, rfl⟩ := ptrIds_rep h1 k2
    refine ⟨p :: ps, by simp [g1], fun i b' hb => ?_, rfl⟩
    cases i with
    | zero => simp at hb; subst hb; exact ⟨p, rfl, hp, hn⟩
    | succ i => simpa using g2 i b' (by simpa using hb)
   ·cases hr
  ·cases hr
theorem ptrs_reps {E : Env} : ∀ {bs : List Nat} {ps : List Place}, ps.length = bs.length → (∀ (i : Nat) b, bs[i]? = some b → ∃ p, ps[i]? = some p ∧ E.place b = some p ∧ p.nil = false) →
  SReps E (bs.map fun b => .one (.ptr b 0)) (ps.map fun p => Value.pointer (some ⟨p.blk, 0, none⟩))
 | [], [], _, _ => rfl
 | b :: bs, p :: ps, hl, h => by
  obtain ⟨q, h1, h2, h3⟩ := h 0 b rfl
  simp at h1
  subst h1
  exact ⟨_, _, rfl, ⟨p, h2, h3, rfl⟩, ptrs_reps (by simpa using hl) fun i b' hb => h (i + 1) b' (by simpa using hb)⟩
 | [], _ :: _, h, _ => by simp at h
 | _ :: _, [], h, _ => by simp at h
theorem makeFunc_ok (h : SRel w0 foot base S E a w) (hc : TagsHold a ctx) {o : Oper} {k : Nat} {first caught : Array Operand} (ho : o.op = .makeFunc (.func k) first caught) {r : Res}
  (hr : (match first.toList with
  | [] => do
   let vs ← evAll caught.toList
   let cs ← oneCells vs
   match has X.mclos k with
   | true => do
    let bs ← ptrIds cs
    pureC (.mclo k bs)
   | false => do
    let ty ← RM.ofOption (find X.clos k)
    let y ← reify ty cs
    .ret { val := some (.one (.dat (.clo k ty) y.1)), blks := y.2 }
  | _ => .fail : RM Res).run S ctx = some r) : OpOk P w0 foot base S E a w o r := by
 split at hr
 ·rename_i hfirst
  obtain ⟨vs, h2, hr⟩ := RM.run_bind' hr
  obtain ⟨cs, h3, hr⟩ := RM.run_bind' hr
  split at hr
  ·obtain ⟨bs, h4, hr⟩ := RM.run_bind' hr
   have hf : first.map a.eval = #[] := by
    apply Array.ext'
    simp [hfirst]
   have hcs := oneCells_reps h3 (evAll_rep h hc h2)
   obtain ⟨ps, k1, k2, k3⟩ := ptrIds_rep h4 hcs
   refine OpOk.value (v := .func (.func k) #[] (caught.map a.eval)) (w' := w) ?_ ((Reckons.pureC hr ⟨ps, k1, k2, ?_⟩).after h.toHRel)
   ·simp only [execOp, ho, Instr.makeFunc, hf]
    rfl
   ·congr 1
    apply Array.ext'
    rw [Array.toList_map, k3]
  obtain ⟨ty, h1, hr⟩ := RM.run_bind' hr
  obtain ⟨⟨y, fr⟩, h4, hr⟩ := RM.run_bind' hr
  cases hr
  have hfo := reify_froOk h4
  obtain ⟨E1, l1, q1, f1, h1'⟩ := h.toHRel.applyFro hfo
  have hrep := reify_rep h4 ((oneCells_reps h3 (evAll_rep h hc h2)).mono l1) (Frozen.of_apply hfo h1')
  have hf : first.map a.eval = #[] := by
   apply Array.ext'
   simp [hfirst]
  refine OpOk.value (v := .func (.func k) #[] (caught.map a.eval)) (w' := w) (E' := E1) ?_ ⟨l1, ?_, rfl, _, rfl, ?_⟩
  ·simp only [execOp, ho, Instr.makeFunc, hf]
   rfl
  ·exact h1'
  ·rw [Array.toList_map]
   exact hrep
 ·cases hr
theorem callDyn_ok (hK : ∀ f con, X.con f = some con → ConOk P f con) (h : SRel w0 foot base S E a w) (hc : TagsHold a ctx) {o : Oper} {f d : Nat} {args : Array Operand} {ats : Array Nat} (ho : o.op = .call { callee := .value (.tmp f), args := args, argTypes := ats }) {r : Res}
  (hr : (do
   match ← evC (.tmp f) with
   | .dat (.clo k ty) y => (do
    let con ← RM.ofOption (X.con k)
    let vs ← evAll args.toList
    let us ← RM.ofOption (capSVs ty y)
    con.run (vs ++ us) d)
   | .mclo k bs => (do
    let con ← RM.ofOption (X.con k)
    let vs ← evAll args.toList
    con.run (vs ++ bs.map fun b => .one (.ptr b 0)) d)
   | _ => .fail : RM Res).run S ctx = some r) (hn : ∀ i ∈ r.new, i ∉ S.used) (hcond : ∀ c ∈ r.conds, c) : OpOk P w0 foot base S E a w o r := by
 have hr0 := RM.run_bind' hr
 clear hr
 obtain ⟨cf, h0, hr⟩ := hr0
 have hcf := evC_rep h hc h0
 split at hr
 ·rename_i k ty y
  have hr0 := RM.run_bind' hr
  clear hr
  obtain ⟨con, h1, hr⟩ := hr0
  have hr0 := RM.run_bind' hr
  clear hr
  obtain ⟨ss, h2, hr⟩ := hr0
  have hr0 := RM.run_bind' hr
  clear hr
  obtain ⟨us, h3, hr⟩ := hr0
  obtain ⟨_, ws, hv, hrep⟩ := hcf
  simp only [List.cons.injEq, and_true] at hv
  have hcon := hK k con (run_ofOption h1)
  obtain ⟨fn, c, hf, hname, hbody⟩ := hcon.fn
  intro next Q hnext
  unfold Oper.wp
  have hrun : (execOp a.eval o).run P w = .ok (.enter k (args.map a.eval ++ ws)) w := by
   simp only [execOp, ho, resolve, hv, Deferred.ofValue, Sem.run_bind, Sem.run_pure, Result.andThen_ok, invoke, callFunc, run_program, hf, hname, hbody]
   simp
  rw [hrun, Oper.upon_enter]
  have hcalls := hcon.calls w0 foot base S ctx E w (ss ++ us) (args.toList.map a.eval ++ ws.toList) d r h.toHRel ((evAll_rep h hc h2).append (capSVs_reps (run_ofOption h3) hrep)) hr hcond hn
  have ea : (args.toList.map a.eval ++ ws.toList).toArray = args.map a.eval ++ ws := by apply Array.ext'; simp
  rw [ea] at hcalls
  refine hcalls.mono fun e w' => ?_
  rintro ⟨v, E', rfl, hA⟩
  exact hnext _ _ _ hA
 ·rename_i k bs
  have hr0 := RM.run_bind' hr
  clear hr
  obtain ⟨con, h1, hr⟩ := hr0
  have hr0 := RM.run_bind' hr
  clear hr
  obtain ⟨ss, h2, hr⟩ := hr0
  obtain ⟨ps, g1, g2, hv⟩ := hcf
  have hcon := hK k con (run_ofOption h1)
  obtain ⟨fn, c, hf, hname, hbody⟩ := hcon.fn
  intro next Q hnext
  unfold Oper.wp
  have hrun : (execOp a.eval o).run P w = .ok (.enter k (args.map a.eval ++ (ps.map fun p => Value.pointer (some ⟨p.blk, 0, none⟩)).toArray)) w := by
   simp only [execOp, ho, resolve, hv, Deferred.ofValue, Sem.run_bind, Sem.run_pure, Result.andThen_ok, invoke, callFunc, run_program, hf, hname, hbody]
   simp
  rw [hrun, Oper.upon_enter]
  have hcalls := hcon.calls w0 foot base S ctx E w (ss ++ bs.map fun b => .one (.ptr b 0)) (args.toList.map a.eval ++ ps.map fun p => Value.pointer (some ⟨p.blk, 0, none⟩)) d r h.toHRel ((evAll_rep h hc h2).append (ptrs_reps g1 g2)) hr hcond hn
  have ea : (args.toList.map a.eval ++ ps.map fun p => Value.pointer (some ⟨p.blk, 0, none⟩)).toArray = args.map a.eval ++ (ps.map fun p => Value.pointer (some ⟨p.blk, 0, none⟩)).toArray := by apply Array.ext'; simp
  rw [ea] at hcalls
  refine hcalls.mono fun e w' => ?_
  rintro ⟨v, E', rfl, hA⟩
  exact hnext _ _ _ hA
 ·cases hr
theorem RowVals.bytes {F : Mem} : ∀ {xs : List Int} {us : List Value}, RowVals F (.int .u8) xs us → us = xs.map (Value.int .u8) := fun {xs us} h => by
 obtain ⟨h1, h2⟩ := h
 have h1 : us.length = xs.length := by simpa [Ty.size] using h1
 apply List.ext_getElem?
 intro i
 by_cases hi : i < xs.length
 ·obtain ⟨ws, k1, k2, k3⟩ := h2 i xs[i] (List.getElem?_eq_getElem hi)
  obtain ⟨k1, _⟩ := k1
  subst k1
  have := k3 0 _ rfl
  simp only [Ty.size, Nat.mul_one, Nat.add_zero] at this
  rw [this]
  simp [List.getElem?_eq_getElem hi]
 ·rw [List.getElem?_eq_none (by omega), List.getElem?_eq_none (by simp; omega)]
theorem convert_ok (hT : TabOk P X.tab) (h : SRel w0 foot base S E a w) (hc : TagsHold a ctx) {o : Oper} {s t : Nat} {x : Operand} (ho : o.op = .convert s t x) {r : Res}
  (hr : (do
   let i' ← ti X s
   let i ← ti X t
   match i'.d, i.d, ← ev x with
   | .int _, .int k, .one (.dat (.int j) n) => (match kindLe j k with
    | true => pureC (.dat (.int k) n)
    | false => pureC (.dat (.int k) (k.wrap n)))
   | .slice e, .str, .one c => (do
    let j ← ti X e
    match j.d with
    | .int .u8 => (do
     let ys ← srcR (.int .u8) c
     pureC (.dat .str (ys.map fun (n : Int) => UInt8.ofNat n.toNat)))
    | _ => .fail)
   | _, _, _ => .fail : RM Res).run S ctx = some r) : OpOk P w0 foot base S E a w o r := by
 have hr0 := RM.run_bind' hr
 clear hr
 obtain ⟨i', h1, hr⟩ := hr0
 have hr0 := RM.run_bind' hr
 clear hr
 obtain ⟨i, h2, hr⟩ := hr0
 have hr0 := RM.run_bind' hr
 clear hr
 obtain ⟨sv, h3, hr⟩ := hr0
 obtain ⟨hs', _⟩ := ti_spec hT h1
 obtain ⟨hs, _⟩ := ti_spec hT h2
 have hx := ev_rep h hc h3
 split at hr
 ·rename_i k' k j n hd' hd
  rw [hd] at hs
  rw [hd'] at hs'
  obtain ⟨_, h4, h5⟩ := hx
  simp only [List.cons.injEq, and_true] at h4
  have hrun : (execOp a.eval o).run P w = .ok (.value (.int k (k.wrap n))) w := by
   simp [execOp, ho, convert, run_underlying (skel_int hs'), run_underlying (skel_int hs), h4, Conv.intToInt]
  split at hr
  ·rename_i hle
   rw [inR_wrap (kindLe_inR hle h5)] at hrun
   exact OpOk.value hrun ((Reckons.pureC hr ⟨rfl, rfl, kindLe_inR hle h5⟩).after h.toHRel)
  ·exact OpOk.value hrun ((Reckons.pureC hr ⟨rfl, rfl, wrap_inR _ _⟩).after h.toHRel)
 ·rename_i e c hd' hd
  rw [hd] at hs
  rw [hd'] at hs'
  have hr0 := RM.run_bind' hr
  clear hr
  obtain ⟨j, h4, hr⟩ := hr0
  obtain ⟨hse, _⟩ := ti_spec hT h4
  split at hr
  ·rename_i hdj
   rw [hdj] at hse
   have hr0 := RM.run_bind' hr
   clear hr
   obtain ⟨ys, h5, hr⟩ := hr0
   have hx : CRep E c (a.eval x) := hx
   have hu := skel_slice hs'
   have he := skel_int hse
   have hd := skel_str hs
   rcases src_sound h.toHRel (by decide) hx h5 with ⟨hv, hys⟩ | ⟨ad, cap, news, hv, hrow, hcell⟩
   ·subst hys
    refine OpOk.value (v := .string ⟨⟨[]⟩⟩) ?_ ((Reckons.pureC hr ⟨rfl, rfl, by simp [maxLenI]⟩).after h.toHRel)
    simp only [execOp, ho, hv]
    have := run_convert_bytes_nil (P := P) w s e hu he 0 0 t hd
    simp only [Sem.run_bind, this, Result.andThen_ok, Sem.run_pure]
    rfl
   ·have hb := RowVals.bytes hrow
    have hlen : ys.length ≤ maxLenI := by
     have hw := hx
     rw [hv] at hw
     have : (ys.length ≤ maxLenI) := by
      cases c with
      | dat tt z =>
       obtain ⟨hag, hw⟩ := hw
       cases tt with
       | list t => obtain ⟨a', cap', g1, g2, g3, _⟩ := hw; simp only [List.cons.injEq, Value.slice.injEq, and_true] at g1; omega
       | int _ => simp [Rep] at hw
       | bool => simp [Rep] at hw
       | str => simp [Rep] at hw
       | unit => simp [Rep] at hw
       | pair _ _ => simp [Ty.isAgg] at hag
       | ref _ => simp [Rep] at hw
       | ptr _ => simp [Rep] at hw
       | clo _ _ => simp [Rep] at hw
       | map _ _ => obtain ⟨_, g, _⟩ := hw; simp at g
      | row tt b =>
       obtain ⟨p, _, ⟨_, g, _⟩ | ⟨_, g, g1, g2⟩⟩ := hw
       ·cases g
       ·simp only [Value.slice.injEq] at g; omega
      | sub tt b lo len =>
       obtain ⟨p, _, g0, ⟨_, g, _⟩ | ⟨_, aa, g, g1, g2, _⟩⟩ := hw
       ·cases g
       ·simp only [Value.slice.injEq] at g; omega
      | ptr _ _ => obtain ⟨_, _, _, g⟩ := hw; cases g
      | rptr _ _ _ _ => obtain ⟨_, _, _, _, g⟩ := hw; cases g
      | elt _ _ _ _ => obtain ⟨_, _, _, g, _⟩ := hw; cases g
      | nilsl => cases hw
      | nilptr => cases hw
      | nilfn => cases hw
      | mclo _ _ => obtain ⟨_, _, _, g⟩ := hw; cases g
      | map _ _ _ => obtain ⟨_, _, _, g⟩ := hw; cases g
      | nilmap => cases hw
      | stamp _ => obtain ⟨_, _, _, g⟩ := hw; cases g
     exact this
    refine OpOk.value (v := .string (strOfNums ys)) ?_ ((Reckons.pureC hr ⟨rfl, ?_, by simpa using hlen⟩).after h.toHRel)
    ·have hl : (loadCells ad ys.length).run P w = .ok (ys.map (Value.int .u8)).toArray w := by
      have := run_loadCells_list (P := P) w ad (ys.map (Value.int .u8)) (fun j v hj => hcell j v (by rw [hb]; exact hj))
      simpa using this
     have hcv : (convert s t (.slice (some ad) ys.length cap)).run P w = .ok (.string (strOfNums ys)) w := by
      rw [run_convert_bytes_string w s t e _ ys.length cap hu he hd, run_bytesToString w _ ys.length cap ys hl, foldl_push_bytes]
      simp [strOfNums, ByteArray.empty, ByteArray.emptyWithCapacity]
      rfl
     simp only [execOp, ho, hv, Sem.run_bind, hcv, Result.andThen_ok, Sem.run_pure]
    ·simp [strOfNums]
  ·cases hr
 ·cases hr
theorem exOp_sound (hT : TabOk P X.tab) (hK : ∀ f con, X.con f = some con → ConOk P f con) (h : SRel w0 foot base S E a w) (hc : TagsHold a ctx) {o : Oper} {r : Res} (hr : (exOp X o).run S ctx = some r)
  (hn : ∀ i ∈ r.new, i ∉ S.used) (hcond : ∀ c ∈ r.conds, c) : OpOk P w0 foot base S E a w o r := by
 cases ho : o.op with
 | move x => simp only [exOp, ho] at hr; exact move_ok h hc (.inl ho) hr
 | assign x => simp only [exOp, ho] at hr; exact move_ok h hc (.inr ho) hr
 | pick c x y =>
  cases c with
  | tmp c => simp only [exOp, ho] at hr; exact pick_ok h hc ho hr
  | _ => simp only [exOp, ho] at hr; cases hr
 | alloc t => simp only [exOp, ho] at hr; exact allocA_ok hT h ho hr hn
 | box t x => simp only [exOp, ho] at hr; exact box_ok h hc ho hr hn
 | build t ps => simp only [exOp, ho] at hr; exact build_ok hT h hc ho hr
 | buildSlice t n ps =>
  simp only [exOp, ho] at hr
  split at hr
  ·exact buildSlice_ok hT h hc ho hr hn
  ·exact buildSliceG_ok hT h hc ho hr
 | load t x => simp only [exOp, ho] at hr; exact load_ok hT h hc ho hr
 | store t x v =>
  simp only [exOp, ho] at hr
  have hr0 := RM.run_bind' hr
  clear hr
  obtain ⟨i, h1, hr⟩ := hr0
  have hr0 := RM.run_bind' hr
  clear hr
  obtain ⟨s, h2, hr⟩ := hr0
  have hr0 := RM.run_bind' hr
  clear hr
  obtain ⟨cs, h3, hr⟩ := hr0
  split at hr
  ·obtain ⟨_, j, hj, e1, _⟩ := ti_spec hT h1
   exact storeA_ok h hc ho hj e1 h2 h3 hr hcond
  ·exact store_ok hT h hc ho h1 h2 h3 hr
 | makeMap t n =>
  cases n with
  | none => simp only [exOp, ho] at hr; exact makeMap_ok hT h ho hr hn
  | some _ => simp only [exOp, ho] at hr; cases hr
 | range t x => simp only [exOp, ho] at hr; exact range_ok hT h hc ho hr hn
 | entry it => simp only [exOp, ho] at hr; exact entry_ok h hc ho hr
 | lookup t x ix ok => simp only [exOp, ho] at hr; exact lookup_ok hT h hc ho hr
 | mapUpdate t m k v => simp only [exOp, ho] at hr; exact mapUpdate_ok hT h hc ho hr
 | mapEntry t m k => simp only [exOp, ho] at hr; exact mapEntry_ok hT h hc ho hr hn
 | entryStore t m s v => simp only [exOp, ho] at hr; exact entryStore_ok hT h hc ho hr
 | nilCheck x => simp only [exOp, ho] at hr; exact nilCheck_ok h hc ho hr hcond
 | makeFunc fn first caught =>
  cases fn with
  | func k => simp only [exOp, ho] at hr; exact makeFunc_ok h hc ho hr
  | _ => simp only [exOp, ho] at hr; cases hr
 | binOp op t x y yt => simp only [exOp, ho] at hr; exact binOp_ok hT h hc ho hr hcond
 | unOp op t x => simp only [exOp, ho] at hr; exact unOp_ok h hc ho hr hcond
 | convert s t x => simp only [exOp, ho] at hr; exact convert_ok hT h hc ho hr
 | makeSlice t l c => simp only [exOp, ho] at hr; exact makeSlice_ok hT h hc ho hr hn hcond
 | slice t x lo hi mx =>
  cases mx with
  | none => simp only [exOp, ho] at hr; exact slice_ok hT h hc ho hr hcond
  | some _ => simp only [exOp, ho] at hr; cases hr
 | fieldAddr s x f => simp only [exOp, ho] at hr; exact fieldAddr_ok hT h hc ho hr
 | field s x f => simp only [exOp, ho] at hr; exact field_ok hT h hc ho hr
 | indexAddr t x ix => simp only [exOp, ho] at hr; exact indexAddr_ok hT h hc ho hr hcond
 | index t x ix => simp only [exOp, ho] at hr; exact index_ok hT h hc ho hr hcond
 | extract x k => simp only [exOp, ho] at hr; exact extract_ok h hc ho hr
 | call c =>
  obtain ⟨callee, args, ats⟩ := c
  cases callee with
  | value f =>
   cases f with
   | func f => simp only [exOp, ho] at hr; exact call_ok hK h hc ho hr hn hcond
   | tmp f => simp only [exOp, ho] at hr; exact callDyn_ok hK h hc ho hr hn hcond
   | _ => simp only [exOp, ho] at hr; cases hr
  | invoke _ _ => simp only [exOp, ho] at hr; cases hr
  | builtin b =>
   cases b with
   | len =>
    simp only [exOp, ho] at hr
    split at hr
    ·rename_i x t h1 h2
     exact len_ok hT h hc ho h1 h2 hr
    ·cases hr
   | max =>
    simp only [exOp, ho] at hr
    split at hr
    ·rename_i x y h1
     exact minMax_ok (big := true) h hc ho h1 hr
    ·cases hr
   | min =>
    simp only [exOp, ho] at hr
    split at hr
    ·rename_i x y h1
     exact minMax_ok (big := false) h hc ho h1 hr
    ·cases hr
   | delete =>
    simp only [exOp, ho] at hr
    split at hr
    ·rename_i m k t t' h1 h2
     exact delete_ok hT h hc ho h1 h2 hr
    ·cases hr
   | append =>
    simp only [exOp, ho] at hr
    split at hr
    ·rename_i s x t u h1 h2
     have hr0 := RM.run_bind' hr
     clear hr
     obtain ⟨u', h3, hr⟩ := hr0
     have := Nat.eq_of_beq_eq_true (run_guardR h3)
     subst this
     exact append_ok hT h hc ho h1 h2 hr hn hcond
    ·cases hr
   | _ => simp only [exOp, ho] at hr; cases hr
 | _ => simp only [exOp, ho] at hr; cases hr
end Go.Vc
end

section
set_option linter.unusedVariables false
set_option linter.unusedSimpArgs false
namespace Go.Vc
open Go
variable {P : Program} {X : Ctx} {w0 : World} {foot : Foot} {base : Mem} {S : St} {E : Env} {a : Act} {w : World} {ctx : Tags}
def boolAt (S : St) (n : Nat) : Option Bool :=
 match find S.sl n with
 | some (_, .one (.dat .bool b)) => some (Ty.B b)
 | _ => none
def wrapP (S : St) : Tags → Prop → Prop
 | [], p => p
 | (n, want) :: ts, p => wrapP S ts (match boolAt S n with
  | some g => g = want → p
  | none => p)
def guardCtx (S : St) (ops : Array Oper) (o : Oper) : Option Tags :=
 match o.guard with
 | none => some []
 | some (j, want) => match (ops[j]?).bind (·.dst) with
  | some d => (match find S.sl d with
   | some (tags, _) => some ((d, want) :: tags)
   | none => none)
  | none => none
def mentions : Tags → Nat → Bool
 | [], _ => false
 | (m, _) :: l, n => match Nat.beq m n with
  | true => true
  | false => mentions l n
theorem mentions_spec : ∀ {l : Tags} {n : Nat}, mentions l n = false → ∀ t ∈ l, t.1 ≠ n
 | [], _, _, t, ht => by cases ht
 | (m, b) :: l, n, h, t, ht => by
  unfold mentions at h
  split at h
  ·cases h
  ·rename_i hb
   rcases List.mem_cons.1 ht with rfl | ht
   ·intro e; simp only at e; subst e; simp at hb
   ·exact mentions_spec h t ht
structure Rec where
 o : Oper
 ctx : Tags
 r : Res
 conds : List Prop
 rs : List Loc
def upd (S : St) (o : Oper) (ctx : Tags) (r : Res) : St :=
 {sl := (match o.dst with
   | none => S.sl
   | some d => (match r.val with
    | some v => put S.sl d (ctx, v)
    | none => rem S.sl d))
  bl := applyBl r S.bl
  used := r.new ++ S.used
  n := S.n
  pin := S.pin }
def noTag (d : Nat) : List (Nat × (Tags × SV)) → Bool
 | [] => true
 | (_, ts, _) :: l => match mentions ts d with
  | true => false
  | false => noTag d l
def allFresh (used : List Nat) : List Nat → Bool
 | [] => true
 | n :: l => match has used n || has l n with
  | true => false
  | false => allFresh used l
def dstOk (S : St) (ctx : Tags) (o : Oper) : Bool :=
 match o.dst with
 | none => true
 | some d => Nat.blt d S.n && (noTag d S.sl && !mentions ctx d)
def guardedOk (ctx : Tags) (r : Res) : Bool :=
 match ctx with
 | [] => true
 | _ => r.blks.isEmpty && (r.del.isEmpty && r.new.isEmpty)
def stepOp (X : Ctx) (ops : Array Oper) (S : St) (o : Oper) : Option Rec :=
 match guardCtx S ops o with
 | none => none
 | some ctx => match (exOp X o).run S ctx with
  | none => none
  | some r => match dstOk S ctx o && (allFresh S.used r.new && guardedOk ctx r) with
   | true => some { o, ctx, r, conds := r.conds.map (wrapP S ctx), rs := ctx.map (fun t => .slot t.1) ++ (exOp X o).reads S ctx }
   | false => none
def exSeq (X : Ctx) (ops : Array Oper) : List Oper → St → Option (List Rec × St)
 | [], S => some ([], S)
 | o :: l, S => match stepOp X ops S o with
  | none => none
  | some c => match exSeq X ops l (upd S o c.ctx c.r) with
   | none => none
   | some (cs, S') => some (c :: cs, S')
def condsOf (cs : List Rec) : List Prop := cs.flatMap (·.conds)
structure TRel (w0 : World) (foot : Foot) (base : Mem) (S : St) (E : Env) (a : Act) (w : World) : Prop extends SRel w0 foot base S E a w where
 untagged : ∀ n ts v, find S.sl n = some (ts, v) → ¬ TagsHold a ts → a.tmps.getD n undef = undef
theorem wrapP_elim (h : SRel w0 foot base S E a w) : ∀ {ts : Tags} {p : Prop}, TagsHold a ts → (∀ t ∈ ts, ∀ tags v, find S.sl t.1 = some (tags, v) → TagsHold a tags) → wrapP S ts p → p
 | [], p, _, _, hp => hp
 | (n, want) :: ts, p, ht, hd, hp => by
  have ih := wrapP_elim h (ts := ts) (fun t h' => ht t (List.mem_cons_of_mem _ h')) (fun t h' => hd t (List.mem_cons_of_mem _ h')) hp
  split at ih
  ·rename_i g hg
   refine ih ?_
   unfold boolAt at hg
   split at hg
   ·rename_i tags b hf
    cases hg
    have hv := h.slots _ _ _ hf (hd (n, want) List.mem_cons_self _ _ hf)
    have hn := ht (n, want) List.mem_cons_self
    simp only at hn
    rw [Array.getD_eq_getD_getElem?, hn] at hv
    obtain ⟨_, hv⟩ := hv
    simp only [Rep, Option.getD_some, List.cons.injEq, and_true] at hv
    exact (Value.bool.inj hv).symm
   ·cases hg
  ·exact ih
theorem tmps_put {d n : Nat} {v : Value} (h : n ≠ d) : (a.put (some d) v).tmps[n]? = a.tmps[n]? := by
 simp [Act.put, Array.getElem?_setIfInBounds_ne (Ne.symm h)]
theorem tmps_put_same {d : Nat} {v : Value} (h : d < a.tmps.size) : (a.put (some d) v).tmps[d]? = some v := by
 simp [Act.put, h]
theorem TagsHold.put {d : Nat} {v : Value} {ts : Tags} (h : ∀ t ∈ ts, t.1 ≠ d) : TagsHold (a.put (some d) v) ts ↔ TagsHold a ts :=
 ⟨fun k t ht => by have := k t ht; rwa [tmps_put (h t ht)] at this, fun k t ht => by rw [tmps_put (h t ht)]; exact k t ht⟩
theorem noTag_spec : ∀ {l : List (Nat × (Tags × SV))} {d : Nat}, noTag d l = true → ∀ n ts v, find l n = some (ts, v) → ∀ t ∈ ts, t.1 ≠ d
 | [], _, _, n, ts, v, h => by cases h
 | (m, ts', v') :: l, d, h, n, ts, v, hf => by
  unfold noTag at h
  split at h
  ·cases h
  ·rename_i hm
   unfold find at hf
   split at hf
   ·cases hf
    exact mentions_spec hm
   ·exact noTag_spec h n ts v hf
theorem allFresh_spec : ∀ {l used : List Nat}, allFresh used l = true → ∀ i ∈ l, i ∉ used
 | [], _, _, i, hi => by cases hi
 | n :: l, used, h, i, hi => by
  unfold allFresh at h
  split at h
  ·cases h
  ·rename_i hb
   simp only [Bool.or_eq_false_iff] at hb
   rcases List.mem_cons.1 hi with rfl | hi
   ·intro hu; rw [has_mem.2 hu] at hb; cases hb.1
   ·exact allFresh_spec h i hi
theorem SRel.heap_mono {S' : St} {E' : Env} {w' : World} (h : SRel w0 foot base S E a w) (hle : E.le E') (hh : HRel w0 foot base S'.bl S'.used E' w') (hs : S'.sl = S.sl) (hn : S'.n = S.n) (hp : S'.pin = S.pin) : SRel w0 foot base S' E' a w' :=
 {toHRel := hh, slots := fun n ts v hf ht => (h.slots n ts v (hs ▸ hf) ht).mono hle, size := hn ▸ h.size, defers := h.defers, pins := fun n p h1 => ⟨hp ▸ (h.pins n p h1).1, hle.place _ _ (h.pins n p h1).2⟩ }
def DstOk (S : St) (ctx : Tags) (o : Oper) : Prop :=
 ∀ d, o.dst = some d → d < S.n ∧ (∀ n ts v, find S.sl n = some (ts, v) → ∀ t ∈ ts, t.1 ≠ d) ∧ ∀ t ∈ ctx, t.1 ≠ d
theorem dstOk_spec {S : St} {ctx : Tags} {o : Oper} (h : dstOk S ctx o = true) : DstOk S ctx o := fun d hd => by
 unfold dstOk at h
 rw [hd] at h
 simp only [Bool.and_eq_true, Bool.not_eq_true'] at h
 exact ⟨Nat.le_of_ble_eq_true h.1, noTag_spec h.2.1, mentions_spec h.2.2⟩
theorem TRel.step (h : TRel w0 foot base S E a w) {o : Oper} {r : Res} {E' : Env} {w' : World} {v : Value} (hd : DstOk S ctx o) (hc : TagsHold a ctx) (hA : After w0 foot base S.bl S.used E r E' w' v) :
  TRel w0 foot base (upd S o ctx r) E' (a.put o.dst v) w' := by
 cases ho : o.dst with
 | none =>
  have hs : (upd S o ctx r).sl = S.sl := by simp [upd, ho]
  exact { toSRel := h.toSRel.heap_mono hA.le hA.heap hs rfl rfl, untagged := fun n ts u hf hn => h.untagged n ts u (hs ▸ hf) hn }
 | some d =>
  obtain ⟨hlt, hno, hctx⟩ := hd d ho
  rw [← h.size] at hlt
  have old : ∀ n ts u, n ≠ d → find S.sl n = some (ts, u) → (TagsHold (a.put (some d) v) ts → SRep E' u ((a.put (some d) v).tmps.getD n undef)) ∧ (¬ TagsHold (a.put (some d) v) ts → (a.put (some d) v).tmps.getD n undef = undef) := fun n ts u hn hf => by
   rw [TagsHold.put (hno n ts u hf), Array.getD_eq_getD_getElem?, tmps_put hn, ← Array.getD_eq_getD_getElem?]
   exact ⟨fun ht => (h.slots n ts u hf ht).mono hA.le, h.untagged n ts u hf⟩
  have size : (a.put (some d) v).tmps.size = S.n := by simp [Act.put, h.size]
  cases hv : r.val with
  | none =>
   have hs : (upd S o ctx r).sl = rem S.sl d := by simp [upd, ho, hv]
   refine { toHRel := hA.heap, slots := fun n ts u hf ht => ?_, size := size, defers := h.defers, pins := fun n p h1 => ⟨(h.pins n p h1).1, hA.le.place _ _ (h.pins n p h1).2⟩, untagged := fun n ts u hf ht => ?_ }
   ·rw [hs] at hf
    obtain ⟨hf, hn⟩ := find_rem_some hf
    exact (old n ts u (Ne.symm hn) hf).1 ht
   ·rw [hs] at hf
    obtain ⟨hf, hn⟩ := find_rem_some hf
    exact (old n ts u (Ne.symm hn) hf).2 ht
  | some s =>
   have hs : (upd S o ctx r).sl = put S.sl d (ctx, s) := by simp [upd, ho, hv]
   have hval := hA.val
   rw [hv] at hval
   refine { toHRel := hA.heap, slots := fun n ts u hf ht => ?_, size := size, defers := h.defers, pins := fun n p h1 => ⟨(h.pins n p h1).1, hA.le.place _ _ (h.pins n p h1).2⟩, untagged := fun n ts u hf ht => ?_ }
   ·rw [hs] at hf
    by_cases hn : n = d
    ·subst hn
     rw [find_put_same] at hf
     cases hf
     rw [Array.getD_eq_getD_getElem?, tmps_put_same hlt]
     exact hval
    ·rw [find_put_other _ _ _ _ (Ne.symm hn)] at hf
     exact (old n ts u hn hf).1 ht
   ·rw [hs] at hf
    by_cases hn : n = d
    ·subst hn
     rw [find_put_same] at hf
     cases hf
     exact absurd ((TagsHold.put hctx).2 hc) ht
    ·rw [find_put_other _ _ _ _ (Ne.symm hn)] at hf
     exact (old n ts u hn hf).2 ht
theorem TRel.skip (h : TRel w0 foot base S E a w) {o : Oper} {r : Res} (hd : DstOk S ctx o) (hg : guardedOk ctx r = true) (hc : ¬ TagsHold a ctx) :
  TRel w0 foot base (upd S o ctx r) E (a.put o.dst undef) w := by
 have hne : r.blks = [] ∧ r.del = [] ∧ r.new = [] := by
  unfold guardedOk at hg
  split at hg
  ·exact absurd (fun t ht => by cases ht) hc
  ·simpa using hg
 have hb : applyBl r S.bl = S.bl := by simp [applyBl, hne.1, hne.2.1]
 have hheap : HRel w0 foot base (applyBl r S.bl) (r.new ++ S.used) E w := by rw [hb, hne.2.2]; exact h.toHRel
 cases ho : o.dst with
 | none =>
  have hs : (upd S o ctx r).sl = S.sl := by simp [upd, ho]
  exact { toSRel := h.toSRel.heap_mono (.refl _) hheap hs rfl rfl, untagged := fun n ts u hf hn => h.untagged n ts u (hs ▸ hf) hn }
 | some d =>
  obtain ⟨hlt, hno, hctx⟩ := hd d ho
  rw [← h.size] at hlt
  have old : ∀ n ts u, n ≠ d → find S.sl n = some (ts, u) → (TagsHold (a.put (some d) undef) ts → SRep E u ((a.put (some d) undef).tmps.getD n undef)) ∧ (¬ TagsHold (a.put (some d) undef) ts → (a.put (some d) undef).tmps.getD n undef = undef) := fun n ts u hn hf => by
   rw [TagsHold.put (hno n ts u hf), Array.getD_eq_getD_getElem?, tmps_put hn, ← Array.getD_eq_getD_getElem?]
   exact ⟨fun ht => h.slots n ts u hf ht, h.untagged n ts u hf⟩
  have size : (a.put (some d) undef).tmps.size = S.n := by simp [Act.put, h.size]
  cases hv : r.val with
  | none =>
   have hs : (upd S o ctx r).sl = rem S.sl d := by simp [upd, ho, hv]
   refine { toHRel := hheap, slots := fun n ts u hf ht => ?_, size := size, defers := h.defers, pins := h.pins, untagged := fun n ts u hf ht => ?_ }
   ·rw [hs] at hf
    obtain ⟨hf, hn⟩ := find_rem_some hf
    exact (old n ts u (Ne.symm hn) hf).1 ht
   ·rw [hs] at hf
    obtain ⟨hf, hn⟩ := find_rem_some hf
    exact (old n ts u (Ne.symm hn) hf).2 ht
  | some s =>
   have hs : (upd S o ctx r).sl = put S.sl d (ctx, s) := by simp [upd, ho, hv]
   refine { toHRel := hheap, slots := fun n ts u hf ht => ?_, size := size, defers := h.defers, pins := h.pins, untagged := fun n ts u hf ht => ?_ }
   ·rw [hs] at hf
    by_cases hn : n = d
    ·subst hn
     rw [find_put_same] at hf
     cases hf
     exact absurd ((TagsHold.put hctx).1 ht) hc
    ·rw [find_put_other _ _ _ _ (Ne.symm hn)] at hf
     exact (old n ts u hn hf).1 ht
   ·rw [hs] at hf
    by_cases hn : n = d
    ·subst hn
     rw [Array.getD_eq_getD_getElem?, tmps_put_same hlt]
     rfl
    ·rw [find_put_other _ _ _ _ (Ne.symm hn)] at hf
     exact (old n ts u hn hf).2 ht
theorem stepOp_spec {ops : Array Oper} {o : Oper} {c : Rec} (h : stepOp X ops S o = some c) :
  guardCtx S ops o = some c.ctx ∧ (exOp X o).run S c.ctx = some c.r ∧ dstOk S c.ctx o = true ∧ allFresh S.used c.r.new = true ∧ guardedOk c.ctx c.r = true ∧ c.conds = c.r.conds.map (wrapP S c.ctx) ∧ c.o = o ∧
   c.rs = c.ctx.map (fun t => .slot t.1) ++ (exOp X o).reads S c.ctx := by
 unfold stepOp at h
 split at h
 ·cases h
 ·rename_i ctx hg
  split at h
  ·cases h
  ·rename_i r hr
   split at h
   ·rename_i hb
    cases h
    simp only [Bool.and_eq_true] at hb
    exact ⟨hg, hr, hb.1, hb.2.1, hb.2.2, rfl, rfl, rfl⟩
   ·cases h
theorem wpOp_sound (hT : TabOk P X.tab) (hK : ∀ f con, X.con f = some con → ConOk P f con) (h : TRel w0 foot base S E a w) {ops : Array Oper} {i : Nat} {o : Oper} {r : Res} (hi : ops[i]? = some o)
  (hg : guardCtx S ops o = some ctx) (hr : (exOp X o).run S ctx = some r) (hd : DstOk S ctx o) (hn : ∀ i ∈ r.new, i ∉ S.used) (hgo : guardedOk ctx r = true) (hcond : ∀ c ∈ r.conds, wrapP S ctx c)
  {Q : Exit → Act → World → Prop} {K : Act → World → Prop} (hK' : ∀ E' a' w', TRel w0 foot base (upd S o ctx r) E' a' w' → K a' w') : wpOp P ops Q i K a w := by
 unfold wpOp
 simp only [hi]
 have htag : Region.wanted o (yielded ops a.tmps) = true → TagsHold a ctx ∧ ∀ t ∈ ctx, ∀ tags v, find S.sl t.1 = some (tags, v) → TagsHold a tags := fun hw => by
  have gen : ∀ n b tags v, a.tmps[n]? = some (.bool b) → find S.sl n = some (tags, v) → TagsHold a tags := fun n b tags v hv hf => by
   refine Classical.byContradiction fun hn => ?_
   have := h.untagged n tags v hf hn
   rw [Array.getD_eq_getD_getElem?, hv] at this
   simp [undef] at this
  have all : TagsHold a ctx := by
   unfold guardCtx at hg
   cases hog : o.guard with
   | none => rw [hog] at hg; cases hg; intro t ht; cases ht
   | some jw =>
    obtain ⟨j, want⟩ := jw
    rw [hog] at hg
    simp only at hg
    split at hg
    ·rename_i d hd'
     split at hg
     ·rename_i tags v hf
      cases hg
      have hv : a.tmps[d]? = some (.bool want) := by
       unfold Region.wanted at hw
       rw [hog] at hw
       simp only [yielded, hd', Option.bind_some, beq_iff_eq] at hw
       split at hw
       ·rename_i b hb
        cases hw
        exact hb
       ·cases hw
      intro t ht
      rcases List.mem_cons.1 ht with rfl | ht
      ·exact hv
      ·exact gen d want tags v hv hf t ht
     ·cases hg
    ·cases hg
  exact ⟨all, fun t ht tags v hf => gen t.1 t.2 tags v (all t ht) hf⟩
 split
 ·rename_i hw
  obtain ⟨ht, htt⟩ := htag hw
  refine .inl (exOp_sound hT hK h.toSRel ht hr hn (fun c hc => wrapP_elim h.toSRel ht htt (hcond c hc)) K Q fun E' w' v hA => hK' E' _ _ (h.step hd ht hA))
 ·rename_i hw
  refine hK' E _ _ (h.skip hd hgo fun ht => hw ?_)
  unfold Region.wanted
  unfold guardCtx at hg
  cases hog : o.guard with
  | none => rfl
  | some jw =>
   obtain ⟨j, want⟩ := jw
   rw [hog] at hg
   simp only at hg ⊢
   split at hg
   ·rename_i d hd'
    split at hg
    ·cases hg
     have := ht (d, want) List.mem_cons_self
     simp only at this
     simp [yielded, hd', this]
    ·cases hg
   ·cases hg
end Go.Vc
end

section
set_option linter.unusedVariables false
set_option linter.unusedSimpArgs false
namespace Go.Vc
open Go
variable {P : Program} {X : Ctx} {w0 : World} {foot : Foot} {base : Mem} {S : St} {E : Env} {a : Act} {w : World} {ctx : Tags}
theorem condsOf_cons {c : Rec} {cs : List Rec} (h : ∀ p ∈ condsOf (c :: cs), p) : (∀ p ∈ c.conds, p) ∧ ∀ p ∈ condsOf cs, p := by
 simp only [condsOf, List.flatMap_cons, List.mem_append] at h
 exact ⟨fun p hp => h p (.inl hp), fun p hp => h p (.inr hp)⟩
theorem exSeq_sound (hT : TabOk P X.tab) (hK : ∀ f con, X.con f = some con → ConOk P f con) {ops : Array Oper} {Q : Exit → Act → World → Prop} :
  ∀ {l : List Oper} {k : Nat} {S : St} {E : Env} {a : Act} {w : World} {cs : List Rec} {S' : St}, (∀ j, l[j]? = ops[k + j]?) → exSeq X ops l S = some (cs, S') → TRel w0 foot base S E a w → (∀ p ∈ condsOf cs, p) →
  (∀ E' a' w', TRel w0 foot base S' E' a' w' → Q .normal a' w') → wpOps P ops Q (List.range' k l.length) a w
 | [], k, S, E, a, w, cs, S', _, hr, h, _, hQ => by
  cases hr
  exact hQ _ _ _ h
 | o :: l, k, S, E, a, w, cs, S', hl, hr, h, hc, hQ => by
  unfold exSeq at hr
  split at hr
  ·cases hr
  ·rename_i c hs
   split at hr
   ·cases hr
   ·rename_i cs' S'' hr'
    cases hr
    obtain ⟨h1, h2, h3, h4, h5, h6, _, _⟩ := stepOp_spec hs
    obtain ⟨c1, c2⟩ := condsOf_cons hc
    have hk : ops[k]? = some o := by have := hl 0; simpa using this.symm
    simp only [List.length_cons, List.range'_succ]
    rw [wpOps_cons]
    refine wpOp_sound hT hK h hk h1 h2 (dstOk_spec h3) (allFresh_spec h4) h5 (fun p hp => c1 _ (by rw [h6]; exact List.mem_map_of_mem hp)) fun E' a' w' h' => ?_
    exact exSeq_sound hT hK (fun j => by have := hl (j + 1); simpa [Nat.add_assoc, Nat.add_comm 1 j] using this) hr' h' c2 hQ
def Res.ws (o : Oper) (r : Res) : List Loc :=
 (match o.dst with
  | none => []
  | some d => [.slot d]) ++ (r.blks.map (fun p => .blk p.1) ++ r.del.map .blk)
def locIn : List Loc → Loc → Bool
 | [], _ => false
 | m :: l, n => match m.beq n with
  | true => true
  | false => locIn l n
def meet : List Loc → List Loc → Bool
 | [], _ => false
 | m :: l, k => match locIn k m with
  | true => true
  | false => meet l k
theorem locIn_spec : ∀ {l : List Loc} {n : Loc}, locIn l n = true ↔ n ∈ l
 | [], n => by simp [locIn]
 | m :: l, n => by
  unfold locIn
  split
  ·rename_i h
   rw [Loc.beq_eq h]
   simp
  ·rename_i h
   have : n ≠ m := fun e => by rw [e, Loc.beq_refl] at h; cases h
   rw [locIn_spec]
   simp [this]
theorem meet_spec : ∀ {l k : List Loc}, meet l k = false → ∀ n ∈ l, n ∉ k
 | [], _, _, n, hn => by cases hn
 | m :: l, k, h, n, hn => by
  unfold meet at h
  split at h
  ·cases h
  ·rename_i hm
   rcases List.mem_cons.1 hn with rfl | hn
   ·intro hk; rw [locIn_spec.2 hk] at hm; cases hm
   ·exact meet_spec h n hn
def preds (o : Oper) : List Nat := (o.after.toList.filter (Region.binds .any ·)).map (·.on)
def dd : List Nat → List Nat → List Nat
 | [], acc => acc
 | n :: l, acc => match has acc n with
  | true => dd l acc
  | false => dd l (n :: acc)
theorem dd_mem : ∀ {l acc : List Nat} {p : Nat}, p ∈ dd l acc → p ∈ l ∨ p ∈ acc
 | [], acc, p, h => .inr h
 | n :: l, acc, p, h => by
  unfold dd at h
  split at h
  ·exact (dd_mem h).imp_left (List.mem_cons_of_mem _)
  ·rcases dd_mem h with h | h
   ·exact .inl (List.mem_cons_of_mem _ h)
   ·rcases List.mem_cons.1 h with rfl | h
    ·exact .inl List.mem_cons_self
    ·exact .inr h
def ancs : List Oper → List (List Nat) → List (List Nat)
 | [], acc => acc
 | o :: l, acc => ancs l (acc ++ [dd ((preds o).flatMap fun p => p :: acc.getD p []) []])
def apartAll (recs : List Rec) (an : List (List Nat)) : Nat → Bool
 | 0 => true
 | j + 1 => apartAll recs an j && (List.range j).all fun i =>
  has (an.getD j []) i || match recs[i]?, recs[j]? with
   | some c, some d => !(meet (Res.ws c.o c.r) (d.rs ++ Res.ws d.o d.r)) && !(meet (Res.ws d.o d.r) c.rs)
   | _, _ => true
def tagsApart (recs : List Rec) : Nat → Bool
 | 0 => true
 | j + 1 => tagsApart recs j && (List.range j).all fun i => match recs[i]?, recs[j]? with
   | some c, some d => (match d.o.dst with
    | none => true
    | some t => !mentions c.ctx t)
   | _, _ => true
def predsOk (ops : List Oper) : Nat → Bool
 | 0 => true
 | i + 1 => predsOk ops i && match ops[i]? with
  | some o => (preds o).all (Nat.blt · i)
  | none => true
def clean : List (Nat × (Tags × SV)) → Bool
 | [] => true
 | (_, [], _) :: l => clean l
 | _ => false
def exDraw (X : Ctx) (ops : Array Oper) (S : St) : Option (List Rec × St) :=
 match exSeq X ops ops.toList S with
 | none => none
 | some (recs, S') => match predsOk ops.toList ops.size && (clean S.sl && (tagsApart recs ops.size && apartAll recs (ancs ops.toList []) ops.size)) with
  | true => some (recs, S')
  | false => none
def stX (L : Nat → Bool) : List Rec → St → St
 | [], S => S
 | c :: cs, S => stX (fun j => L (j + 1)) cs (match L 0 with
  | true => upd S c.o c.ctx c.r
  | false => S)
theorem Agree.refl (S : St) (l : Loc) : Agree S S l := by cases l <;> rfl
theorem Agree.symm {S S' : St} {l : Loc} (h : Agree S S' l) : Agree S' S l := by cases l <;> exact Eq.symm h
theorem Agree.trans {S S' S'' : St} {l : Loc} (h : Agree S S' l) (k : Agree S' S'' l) : Agree S S'' l := by cases l <;> exact Eq.trans k h
theorem applyBl_other {r : Res} {b : Nat} (h : .blk b ∉ r.blks.map (fun p => Loc.blk p.1) ++ r.del.map Loc.blk) (bl : List (Nat × Blk)) : find (applyBl r bl) b = find bl b := by
 simp only [List.mem_append, List.mem_map, not_or, not_exists, not_and, Loc.blk.injEq] at h
 have h1 : ∀ (l : List (Nat × Blk)) (bl : List (Nat × Blk)), (∀ p ∈ l, p.1 ≠ b) → find (l.foldl (fun l p => put l p.1 p.2) bl) b = find bl b := by
  intro l
  induction l with
  | nil => intro bl _; rfl
  | cons p l ih =>
   intro bl hp
   simp only [List.foldl_cons]
   rw [ih _ fun q hq => hp q (List.mem_cons_of_mem _ hq), find_put_other _ _ _ _ (hp p List.mem_cons_self)]
 have h2 : ∀ (l : List Nat) (bl : List (Nat × Blk)), (∀ p ∈ l, p ≠ b) → find (l.foldl rem bl) b = find bl b := by
  intro l
  induction l with
  | nil => intro bl _; rfl
  | cons p l ih =>
   intro bl hp
   simp only [List.foldl_cons]
   rw [ih _ fun q hq => hp q (List.mem_cons_of_mem _ hq), find_rem_other _ _ _ (hp p List.mem_cons_self)]
 unfold applyBl
 rw [h1 _ _ fun p hp => h.1 p hp, h2 _ _ fun p hp => h.2 p hp]
theorem applyBl_same {r : Res} {b : Nat} (h : .blk b ∈ r.blks.map (fun p => Loc.blk p.1) ++ r.del.map Loc.blk) (bl bl' : List (Nat × Blk)) : find (applyBl r bl) b = find (applyBl r bl') b := by
 have h1 : ∀ (l : List (Nat × Blk)) (bl bl' : List (Nat × Blk)), (find bl b = find bl' b ∨ ∃ p ∈ l, p.1 = b) → find (l.foldl (fun l p => put l p.1 p.2) bl) b = find (l.foldl (fun l p => put l p.1 p.2) bl') b := by
  intro l
  induction l with
  | nil => intro bl bl' hp; rcases hp with hp | ⟨p, hp, _⟩; exact hp; cases hp
  | cons p l ih =>
   intro bl bl' hp
   simp only [List.foldl_cons]
   refine ih _ _ ?_
   by_cases hb : p.1 = b
   ·exact .inl (by rw [← hb, find_put_same, find_put_same])
   ·rcases hp with hp | ⟨q, hq, hqb⟩
    ·exact .inl (by rw [find_put_other _ _ _ _ hb, find_put_other _ _ _ _ hb, hp])
    ·rcases List.mem_cons.1 hq with rfl | hq
     ·exact absurd hqb hb
     ·exact .inr ⟨q, hq, hqb⟩
 have h2 : ∀ (l : List Nat) (bl : List (Nat × Blk)), (find bl b = none ∨ b ∈ l) → find (l.foldl rem bl) b = none := by
  intro l
  induction l with
  | nil => intro bl hp; rcases hp with hp | hp; exact hp; cases hp
  | cons p l ih =>
   intro bl hp
   simp only [List.foldl_cons]
   refine ih _ ?_
   by_cases hb : p = b
   ·exact .inl (by rw [← hb, find_rem_same])
   ·rcases hp with hp | hp
    ·exact .inl (by rw [find_rem_other _ _ _ hb]; exact hp)
    ·rcases List.mem_cons.1 hp with rfl | hp
     ·exact absurd rfl hb
     ·exact .inr hp
 unfold applyBl
 refine h1 _ _ _ ?_
 by_cases hm : ∃ p ∈ r.blks, p.1 = b
 ·exact .inr hm
 ·refine .inl ?_
  rcases List.mem_append.1 h with h | h
  ·obtain ⟨p, hp, he⟩ := List.mem_map.1 h
   exact absurd ⟨p, hp, by simpa using he⟩ hm
  ·have : b ∈ r.del := by
    obtain ⟨p, hp, he⟩ := List.mem_map.1 h
    simp only [Loc.blk.injEq] at he
    exact he ▸ hp
   rw [h2 _ _ (.inr this), h2 _ _ (.inr this)]
theorem upd_other {o : Oper} {r : Res} {l : Loc} (h : l ∉ Res.ws o r) : Agree S (upd S o ctx r) l := by
 cases l with
 | slot n =>
  show find (upd S o ctx r).sl n = find S.sl n
  unfold upd
  simp only
  cases ho : o.dst with
  | none => rfl
  | some d =>
   have hn : d ≠ n := fun e => h (by simp [Res.ws, ho, e])
   simp only
   split
   ·exact find_put_other _ _ _ _ hn
   ·exact find_rem_other _ _ _ hn
 | blk b =>
  show find (applyBl r S.bl) b = find S.bl b
  exact applyBl_other (fun hm => h (by unfold Res.ws; exact List.mem_append_right _ hm)) _
theorem upd_same {S' : St} {o : Oper} {r : Res} {l : Loc} (h : l ∈ Res.ws o r) : Agree (upd S o ctx r) (upd S' o ctx r) l := by
 cases l with
 | slot n =>
  show find (upd S' o ctx r).sl n = find (upd S o ctx r).sl n
  unfold Res.ws at h
  unfold upd
  simp only
  cases ho : o.dst with
  | none => rw [ho] at h; simp at h
  | some d =>
   rw [ho] at h
   have hn : n = d := by simpa using h
   subst hn
   simp only
   split
   ·rw [find_put_same, find_put_same]
   ·rw [find_rem_same, find_rem_same]
 | blk b =>
  refine applyBl_same ?_ _ _
  unfold Res.ws at h
  rcases List.mem_append.1 h with h | h
  ·split at h
   ·cases h
   ·simp at h
  ·exact h
theorem stX_agree : ∀ {recs : List Rec} {L M : Nat → Bool} {S S' : St} {l : Loc}, Agree S S' l → (∀ i c, recs[i]? = some c → l ∈ Res.ws c.o c.r → L i = M i) → Agree (stX L recs S) (stX M recs S') l
 | [], _, _, _, _, _, h, _ => h
 | c :: cs, L, M, S, S', l, h, hw => by
  refine stX_agree (recs := cs) ?_ fun i d hi hl => hw (i + 1) d (by simpa using hi) hl
  by_cases hl : l ∈ Res.ws c.o c.r
  ·rw [← hw 0 c rfl hl]
   split
   ·exact upd_same hl
   ·exact h
  ·have h1 : ∀ (b : Bool) (S : St), Agree S (match b with | true => upd S c.o c.ctx c.r | false => S) l := fun b S => by
    cases b
    ·exact .refl _ _
    ·exact upd_other hl
   exact ((h1 (L 0) S).symm.trans h).trans (h1 (M 0) S')
theorem stX_last : ∀ {recs : List Rec} {L : Nat → Bool} {S S' : St} {l : Loc} {i : Nat} {c : Rec}, recs[i]? = some c → L i = true → l ∈ Res.ws c.o c.r → (∀ j d, i < j → recs[j]? = some d → l ∈ Res.ws d.o d.r → L j = false) →
  Agree (upd S' c.o c.ctx c.r) (stX L recs S) l
 | [], _, _, _, _, i, _, h, _, _, _ => by simp at h
 | d :: cs, L, S, S', l, 0, c, h, hL, hl, hj => by
  simp only [List.getElem?_cons_zero, Option.some.injEq] at h
  subst h
  unfold stX
  rw [hL]
  have h1 : Agree (stX (fun _ => false) cs (upd S d.o d.ctx d.r)) (stX (fun j => L (j + 1)) cs (upd S d.o d.ctx d.r)) l :=
   stX_agree (.refl _ _) fun i e hi hl' => (hj (i + 1) e (by omega) (by simpa using hi) hl').symm
  have h2 : ∀ (cs : List Rec) (S : St), stX (fun _ => false) cs S = S := by
   intro cs
   induction cs with
   | nil => intro S; rfl
   | cons c cs ih => intro S; exact ih S
  rw [h2] at h1
  exact (upd_same hl).trans h1
 | d :: cs, L, S, S', l, i + 1, c, h, hL, hl, hj =>
  stX_last (recs := cs) (L := fun j => L (j + 1)) (by simpa using h) hL hl fun j e hij he hl' => hj (j + 1) e (by omega) (by simpa using he) hl'
theorem stX_used : ∀ {recs : List Rec} {L : Nat → Bool} {S : St} {id : Nat}, id ∈ (stX L recs S).used ↔ id ∈ S.used ∨ ∃ i c, recs[i]? = some c ∧ L i = true ∧ id ∈ c.r.new
 | [], L, S, id => by simp [stX]
 | c :: cs, L, S, id => by
  unfold stX
  rw [stX_used]
  constructor
  ·rintro (h | ⟨i, d, h1, h2, h3⟩)
   ·split at h
    ·rename_i hL
     rcases List.mem_append.1 h with h | h
     ·exact .inr ⟨0, c, rfl, hL, h⟩
     ·exact .inl h
    ·exact .inl h
   ·exact .inr ⟨i + 1, d, by simpa using h1, h2, h3⟩
  ·rintro (h | ⟨i, d, h1, h2, h3⟩)
   ·refine .inl ?_
    split
    ·exact List.mem_append_right _ h
    ·exact h
   ·cases i with
    | zero =>
     simp only [List.getElem?_cons_zero, Option.some.injEq] at h1
     subst h1
     refine .inl ?_
     rw [h2]
     exact List.mem_append_left _ h3
    | succ i => exact .inr ⟨i, d, by simpa using h1, h2, h3⟩
theorem stX_n : ∀ {recs : List Rec} {L : Nat → Bool} {S : St}, (stX L recs S).n = S.n
 | [], _, _ => rfl
 | c :: cs, L, S => by unfold stX; rw [stX_n]; split <;> rfl
theorem stX_pin : ∀ {recs : List Rec} {L : Nat → Bool} {S : St}, (stX L recs S).pin = S.pin
 | [], _, _ => rfl
 | c :: cs, L, S => by unfold stX; rw [stX_pin]; split <;> rfl
theorem stX_slots : ∀ {recs : List Rec} {L : Nat → Bool} {S : St} {n : Nat} {ts : Tags} {v : SV}, find (stX L recs S).sl n = some (ts, v) → find S.sl n = some (ts, v) ∨ ∃ i c, recs[i]? = some c ∧ L i = true ∧ ts = c.ctx
 | [], L, S, n, ts, v, h => .inl h
 | c :: cs, L, S, n, ts, v, h => by
  unfold stX at h
  rcases stX_slots h with h | ⟨i, d, h1, h2, h3⟩
  ·split at h
   ·rename_i hL
    by_cases hn : Loc.slot n ∈ Res.ws c.o c.r
    ·unfold upd at h
     simp only at h
     unfold Res.ws at hn
     cases ho : c.o.dst with
     | none => rw [ho] at h; exact .inl h
     | some d =>
      rw [ho] at h
      simp only at h
      split at h
      ·by_cases hnd : n = d
       ·subst hnd
        rw [find_put_same] at h
        cases h
        exact .inr ⟨0, c, rfl, hL, rfl⟩
       ·rw [find_put_other _ _ _ _ (Ne.symm hnd)] at h
        exact .inl h
      ·exact .inl (find_rem_some h).1
    ·have := upd_other (S := S) (ctx := c.ctx) hn
     have : find (upd S c.o c.ctx c.r).sl n = find S.sl n := this
     rw [this] at h
     exact .inl h
   ·exact .inl h
  ·exact .inr ⟨i + 1, d, by simpa using h1, h2, h3⟩
theorem exSeq_at {ops : Array Oper} : ∀ {l : List Oper} {S : St} {recs : List Rec} {S' : St}, exSeq X ops l S = some (recs, S') →
  recs.length = l.length ∧ S' = stX (fun _ => true) recs S ∧ ∀ i o, l[i]? = some o → ∃ c, recs[i]? = some c ∧ stepOp X ops (stX (fun j => decide (j < i)) recs S) o = some c
 | [], S, recs, S', h => by
  cases h
  exact ⟨rfl, rfl, fun i o hi => by simp at hi⟩
 | o :: l, S, recs, S', h => by
  unfold exSeq at h
  split at h
  ·cases h
  ·rename_i c hc
   split at h
   ·cases h
   ·rename_i cs S'' hcs
    cases h
    obtain ⟨h1, h2, h3⟩ := exSeq_at hcs
    have hco := (stepOp_spec hc).2.2.2.2.2.2.1
    refine ⟨by simp [h1], ?_, fun i o' hi => ?_⟩
    ·rw [h2, ← hco]
     rfl
    ·cases i with
     | zero =>
      simp only [List.getElem?_cons_zero, Option.some.injEq] at hi
      subst hi
      have h2 : ∀ (cs : List Rec) (S : St), stX (fun j => decide (j < 0)) cs S = S := by
       intro cs S
       have : (fun j => decide (j < 0)) = fun _ => false := by funext j; simp
       rw [this]
       induction cs generalizing S with
       | nil => rfl
       | cons c cs ih => exact ih S
      exact ⟨c, rfl, by rw [h2]; exact hc⟩
     | succ i =>
      obtain ⟨d, h4, h5⟩ := h3 i o' (by simpa using hi)
      refine ⟨d, by simpa using h4, ?_⟩
      have e : stX (fun j => decide (j < i + 1)) (c :: cs) S = stX (fun j => decide (j < i)) cs (upd S o c.ctx c.r) := by
       show stX (fun j => decide (j + 1 < i + 1)) cs (upd S c.o c.ctx c.r) = _
       rw [hco]
       congr 1
       funext j
       simp
      rw [e]
      exact h5
end Go.Vc
end

section
set_option linter.unusedVariables false
set_option linter.unusedSimpArgs false
namespace Go.Vc
open Go
variable {P : Program} {X : Ctx} {w0 : World} {foot : Foot} {base : Mem} {S : St} {E : Env} {a : Act} {w : World} {ctx : Tags}
theorem TRel.congr {S' : St} (h : TRel w0 foot base S E a w) (hs : ∀ n, find S'.sl n = find S.sl n) (hb : ∀ b, find S'.bl b = find S.bl b) (hu : ∀ i, i ∈ S.used → i ∈ S'.used) (hn : S'.n = S.n) (hp : S'.pin = S.pin) : TRel w0 foot base S' E a w :=
 {toHRel := h.toHRel.congr (fun id B hf => by rwa [hb] at hf) hu
  slots := fun n ts v hf ht => h.slots n ts v (by rwa [hs] at hf) ht
  size := hn ▸ h.size
  defers := h.defers
  pins := fun n p h1 => ⟨hp ▸ (h.pins n p h1).1, (h.pins n p h1).2⟩
  untagged := fun n ts v hf ht => h.untagged n ts v (by rwa [hs] at hf) ht }
theorem apartAll_spec {recs : List Rec} {an : List (List Nat)} : ∀ {n : Nat}, apartAll recs an n = true → ∀ i j c d, i < j → j < n → recs[i]? = some c → recs[j]? = some d →
  i ∈ an.getD j [] ∨ ((∀ l ∈ Res.ws c.o c.r, l ∉ d.rs ++ Res.ws d.o d.r) ∧ ∀ l ∈ Res.ws d.o d.r, l ∉ c.rs)
 | 0, _, i, j, c, d, hij, hj, _, _ => by omega
 | n + 1, h, i, j, c, d, hij, hj, hc, hd => by
  simp only [apartAll, Bool.and_eq_true, List.all_eq_true] at h
  by_cases hn : j = n
  ·subst hn
   have := h.2 i (List.mem_range.2 hij)
   rw [hc, hd] at this
   simp only [Bool.or_eq_true, Bool.and_eq_true, Bool.not_eq_true'] at this
   rcases this with h1 | ⟨h1, h2⟩
   ·exact .inl (has_mem.1 h1)
   ·exact .inr ⟨meet_spec h1, meet_spec h2⟩
  ·exact apartAll_spec h.1 i j c d hij (by omega) hc hd
theorem tagsApart_spec {recs : List Rec} : ∀ {n : Nat}, tagsApart recs n = true → ∀ i j c d t, i < j → j < n → recs[i]? = some c → recs[j]? = some d → d.o.dst = some t → ∀ x ∈ c.ctx, x.1 ≠ t
 | 0, _, i, j, c, d, t, hij, hj, _, _, _ => by omega
 | n + 1, h, i, j, c, d, t, hij, hj, hc, hd, ht => by
  simp only [tagsApart, Bool.and_eq_true, List.all_eq_true] at h
  by_cases hn : j = n
  ·subst hn
   have := h.2 i (List.mem_range.2 hij)
   rw [hc, hd] at this
   simp only [ht, Bool.not_eq_true'] at this
   exact mentions_spec this
  ·exact tagsApart_spec h.1 i j c d t hij (by omega) hc hd ht
theorem predsOk_spec {ops : List Oper} : ∀ {n : Nat}, predsOk ops n = true → ∀ i o, i < n → ops[i]? = some o → ∀ p ∈ preds o, p < i
 | 0, _, i, o, hi, _ => by omega
 | n + 1, h, i, o, hi, ho => by
  simp only [predsOk, Bool.and_eq_true] at h
  by_cases hn : i = n
  ·subst hn
   rw [ho] at h
   intro p hp
   have := List.all_eq_true.1 h.2 p hp
   exact Nat.le_of_ble_eq_true this
  ·exact predsOk_spec h.1 i o (by omega) ho
theorem clean_spec : ∀ {l : List (Nat × (Tags × SV))}, clean l = true → ∀ n ts v, find l n = some (ts, v) → ts = []
 | [], _, n, ts, v, h => by cases h
 | (m, ts', v') :: l, h, n, ts, v, hf => by
  unfold clean at h
  split at h
  ·rename_i heq; cases heq
  ·rename_i l' heq
   cases heq
   unfold find at hf
   split at hf
   ·cases hf; rfl
   ·exact clean_spec h n ts v hf
  ·cases h
theorem ancs_get : ∀ {l : List Oper} {acc : List (List Nat)} (j : Nat), (ancs l acc).getD j [] = if j < acc.length then acc.getD j [] else
  match l[j - acc.length]? with
  | some o => dd ((preds o).flatMap fun p => p :: ((ancs l acc).take j).getD p []) []
  | none => []
 | [], acc, j => by
  simp only [ancs]
  split
  ·rfl
  ·rename_i h
   rw [List.getD_eq_getElem?_getD, List.getElem?_eq_none (by omega)]
   simp
 | o :: l, acc, j => by
  simp only [ancs]
  rw [ancs_get (l := l)]
  simp only [List.length_append, List.length_singleton]
  have hpre : ∀ (l : List Oper) (acc : List (List Nat)), (ancs l acc).take acc.length = acc := by
   intro l
   induction l with
   | nil => intro acc; simp [ancs]
   | cons o l ih =>
    intro acc
    have := ih (acc ++ [dd ((preds o).flatMap fun p => p :: acc.getD p []) []])
    simp only [List.length_append, List.length_singleton] at this
    simp only [ancs]
    have h2 := congrArg (List.take acc.length) this
    rw [List.take_take, Nat.min_eq_left (by omega)] at h2
    rw [h2]
    simp
  split
  ·rename_i hj
   by_cases h2 : j < acc.length
   ·rw [if_pos h2, List.getD_eq_getElem?_getD, List.getElem?_append_left h2, ← List.getD_eq_getElem?_getD]
   ·have hj' : j = acc.length := by omega
    subst hj'
    rw [if_neg h2]
    simp only [Nat.sub_self, List.getElem?_cons_zero]
    rw [List.getD_eq_getElem?_getD, List.getElem?_append_right (by omega)]
    simp only [Nat.sub_self, List.getElem?_cons_zero, Option.getD_some]
    have := hpre (o :: l) acc
    simp only [ancs] at this
    rw [this]
  ·rename_i hj
   rw [if_neg (by omega)]
   have e : j - acc.length = (j - (acc.length + 1)) + 1 := by omega
   rw [e, List.getElem?_cons_succ]
theorem ancs_closed {ops : List Oper} {L : Nat → Bool} (hp : predsOk ops ops.length = true) (hcl : ∀ i o, ops[i]? = some o → L i = true → ∀ p ∈ preds o, L p = true) :
  ∀ (i : Nat), L i = true → ∀ p ∈ (ancs ops []).getD i [], L p = true := by
 intro i
 induction i using Nat.strongRecOn with
 | _ i ih =>
  intro hL p hm
  rw [ancs_get] at hm
  simp only [List.length_nil, Nat.not_lt_zero, if_false, Nat.sub_zero] at hm
  split at hm
  ·rename_i o ho
   obtain ⟨q, hq, hm⟩ := List.mem_flatMap.1 ((dd_mem hm).resolve_right (by simp))
   have hLq := hcl i o ho hL q hq
   have hi := (List.getElem?_eq_some_iff.1 ho).1
   have hqi := predsOk_spec hp i o hi ho q hq
   rcases List.mem_cons.1 hm with rfl | hm
   ·exact hLq
   ·rw [List.getD_eq_getElem?_getD, List.getElem?_take_of_lt hqi, ← List.getD_eq_getElem?_getD] at hm
    exact ih q hqi hLq p hm
  ·cases hm
def andOne (L : Nat → Bool) (i : Nat) : Nat → Bool := fun j => L j || decide (j = i)
theorem draw_step (hT : TabOk P X.tab) (hK : ∀ f con, X.con f = some con → ConOk P f con) {ops : Array Oper} {recs : List Rec} {S' : St} (hseq : exSeq X ops ops.toList S = some (recs, S')) (hp : predsOk ops.toList ops.size = true) (hcl : clean S.sl = true)
  (htg : tagsApart recs ops.size = true) (hap : apartAll recs (ancs ops.toList []) ops.size = true) (hcond : ∀ p ∈ condsOf recs, p) {L : Nat → Bool} (hL : ∀ i o, ops[i]? = some o → L i = true → ∀ p ∈ preds o, L p = true)
  {i : Nat} (hi : i < ops.size) (hLi : L i = false) (hpre : ∀ o, ops[i]? = some o → ∀ p ∈ preds o, L p = true) (h : TRel w0 foot base (stX L recs S) E a w) {Q : Exit → Act → World → Prop} {K : Act → World → Prop}
  (hK' : ∀ E' a' w', TRel w0 foot base (stX (andOne L i) recs S) E' a' w' → K a' w') : wpOp P ops Q i K a w := by
 obtain ⟨hlen, hS', hat⟩ := exSeq_at hseq
 have ho : ops[i]? = some ops[i] := Array.getElem?_eq_getElem hi
 have hto : ∀ {j : Nat} (hj : j < ops.size), ops.toList[j]? = some ops[j] := fun hj => by simp
 obtain ⟨c, hc, hstep⟩ := hat i ops[i] (hto hi)
 obtain ⟨h1, h2, h3, h4, h5, h6, h7, h8⟩ := stepOp_spec hstep
 have hp' : predsOk ops.toList ops.toList.length = true := by simpa using hp
 have hLl : ∀ i o, ops.toList[i]? = some o → L i = true → ∀ p ∈ preds o, L p = true := fun i o ho => hL i o (by simpa using ho)
 have hanc := ancs_closed hp' hLl
 have hanci : ∀ p ∈ (ancs ops.toList []).getD i [], L p = true := by
  intro p hm
  rw [ancs_get] at hm
  simp only [List.length_nil, Nat.not_lt_zero, if_false, Nat.sub_zero] at hm
  split at hm
  ·rename_i o ho'
   obtain ⟨q, hq, hm⟩ := List.mem_flatMap.1 ((dd_mem hm).resolve_right (by simp))
   have hLq := hpre o (by simpa using ho') q hq
   have hqi := predsOk_spec hp i o hi ho' q hq
   rcases List.mem_cons.1 hm with rfl | hm
   ·exact hLq
   ·rw [List.getD_eq_getElem?_getD, List.getElem?_take_of_lt hqi, ← List.getD_eq_getElem?_getD] at hm
    exact hanc q hLq p hm
  ·cases hm
 have hjlt : ∀ {j : Nat} {d : Rec}, recs[j]? = some d → j < ops.size := fun {j d} hd => by
  have := (List.getElem?_eq_some_iff.1 hd).1
  rw [hlen] at this
  simpa using this
 have hwr : ∀ l ∈ c.rs, ∀ j d, recs[j]? = some d → l ∈ Res.ws d.o d.r → L j = decide (j < i) := fun l hl j d hd hld => by
  rcases Nat.lt_trichotomy j i with hji | hji | hji
  ·rw [decide_eq_true hji]
   rcases apartAll_spec hap j i d c hji hi hd hc with hm | ⟨hm, _⟩
   ·exact hanci j hm
   ·exact absurd (List.mem_append_left _ hl) (hm l hld)
  ·subst hji; rw [hLi]; simp
  ·rw [decide_eq_false (by omega)]
   rcases apartAll_spec hap i j c d hji (hjlt hd) hc hd with hm | ⟨_, hm⟩
   ·cases hLj : L j with
    | false => rfl
    | true => have := hanc j hLj i hm; rw [hLi] at this; cases this
   ·exact absurd hl (hm l hld)
 have hagree : ∀ l ∈ c.rs, Agree (stX (fun j => decide (j < i)) recs S) (stX L recs S) l := fun l hl =>
  stX_agree (.refl _ _) fun j d hd hld => (hwr l hl j d hd hld).symm
 have hctxs : ∀ t ∈ c.ctx, find (stX L recs S).sl t.1 = find (stX (fun j => decide (j < i)) recs S).sl t.1 := fun t ht =>
  hagree (.slot t.1) (by rw [h8]; exact List.mem_append_left _ (List.mem_map_of_mem ht))
 have hg : guardCtx (stX L recs S) ops ops[i] = some c.ctx := by
  unfold guardCtx at h1 ⊢
  cases hog : ops[i].guard with
  | none => rw [hog] at h1; exact h1
  | some jw =>
   obtain ⟨j, want⟩ := jw
   rw [hog] at h1
   simp only at h1 ⊢
   cases hd : (ops[j]?).bind (·.dst) with
   | none => rw [hd] at h1; cases h1
   | some d =>
    rw [hd] at h1
    simp only at h1 ⊢
    cases hf : find (stX (fun j => decide (j < i)) recs S).sl d with
    | none => rw [hf] at h1; cases h1
    | some tv =>
     obtain ⟨tags, v⟩ := tv
     rw [hf] at h1
     have hcc : c.ctx = (d, want) :: tags := (Option.some.inj h1).symm
     have := hctxs (d, want) (by rw [hcc]; exact List.mem_cons_self)
     simp only at this
     rw [this, hf, hcc]
 have hrun : (exOp X ops[i]).run (stX L recs S) c.ctx = some c.r := by
  rw [← h2]
  exact RM.run_agree fun l hl => hagree l (by rw [h8]; exact List.mem_append_right _ hl)
 have hwrap : ∀ (ts : Tags) (p : Prop), (∀ t ∈ ts, t ∈ c.ctx) → wrapP (stX L recs S) ts p = wrapP (stX (fun j => decide (j < i)) recs S) ts p := by
  intro ts
  induction ts with
  | nil => intro p _; rfl
  | cons t ts ih =>
   intro p hts
   obtain ⟨n, want⟩ := t
   have e : boolAt (stX L recs S) n = boolAt (stX (fun j => decide (j < i)) recs S) n := by
    unfold boolAt
    rw [hctxs (n, want) (hts _ List.mem_cons_self)]
   unfold wrapP
   rw [e]
   exact ih _ fun t ht => hts t (List.mem_cons_of_mem _ ht)
 have hmemc : c ∈ recs := List.mem_of_getElem? hc
 have hconds : ∀ q ∈ c.r.conds, wrapP (stX L recs S) c.ctx q := fun q hq => by
  rw [hwrap _ _ fun t ht => ht]
  refine hcond _ ?_
  exact List.mem_flatMap.2 ⟨c, hmemc, by rw [h6]; exact List.mem_map_of_mem hq⟩
 have hnew : ∀ id ∈ c.r.new, id ∉ (stX L recs S).used := fun id hid hu => by
  rcases stX_used.1 hu with hu | ⟨j, d, hd, hLj, hidd⟩
  ·exact allFresh_spec h4 id hid (stX_used.2 (.inl hu))
  ·rcases Nat.lt_trichotomy j i with hji | hji | hji
   ·exact allFresh_spec h4 id hid (stX_used.2 (.inr ⟨j, d, hd, by simpa using hji, hidd⟩))
   ·subst hji; rw [hLi] at hLj; cases hLj
   ·have hjs := hjlt hd
    obtain ⟨d', hd', hstep'⟩ := hat j ops[j] (hto hjs)
    rw [hd] at hd'
    cases hd'
    have := (stepOp_spec hstep').2.2.2.1
    exact allFresh_spec this id hidd (stX_used.2 (.inr ⟨i, c, hc, by simpa using hji, hid⟩))
 have hdst : DstOk (stX L recs S) c.ctx ops[i] := fun t ht => by
  obtain ⟨g1, g2, g3⟩ := dstOk_spec h3 t ht
  refine ⟨by rw [stX_n] at g1 ⊢; exact g1, fun n ts v hf x hx => ?_, g3⟩
  rcases stX_slots hf with hf | ⟨j, d, hd, hLj, rfl⟩
  ·rw [clean_spec hcl n ts v hf] at hx; cases hx
  ·rcases Nat.lt_trichotomy j i with hji | hji | hji
   ·exact tagsApart_spec htg j i d c t hji hi hd hc (by rw [h7]; exact ht) x hx
   ·subst hji; rw [hLi] at hLj; cases hLj
   ·intro e
    have hld : Loc.slot t ∈ d.rs := by
     have hjs := hjlt hd
     obtain ⟨d', hd', hstep'⟩ := hat j ops[j] (hto hjs)
     rw [hd] at hd'
     cases hd'
     rw [(stepOp_spec hstep').2.2.2.2.2.2.2]
     exact List.mem_append_left _ (List.mem_map.2 ⟨x, hx, by rw [e]⟩)
    have hlc : Loc.slot t ∈ Res.ws c.o c.r := by
     rw [h7]; unfold Res.ws; rw [ht]; simp
    rcases apartAll_spec hap i j c d hji (hjlt hd) hc hd with hm | ⟨hm, _⟩
    ·have := hanc j hLj i hm; rw [hLi] at this; cases this
    ·exact hm _ hlc (List.mem_append_left _ hld)
 refine wpOp_sound hT hK h ho hg hrun hdst hnew h5 hconds fun E' a' w' h' => hK' E' a' w' ?_
 have hall : ∀ l, Agree (upd (stX L recs S) ops[i] c.ctx c.r) (stX (andOne L i) recs S) l := fun l => by
  rw [← h7]
  by_cases hl : l ∈ Res.ws c.o c.r
  ·refine stX_last hc (by simp [andOne]) hl fun j d hji hd hld => ?_
   have hne : j ≠ i := by omega
   simp only [andOne, hne, decide_false, Bool.or_false]
   rcases apartAll_spec hap i j c d hji (hjlt hd) hc hd with hm | ⟨hm, _⟩
   ·cases hLj : L j with
    | false => rfl
    | true => have := hanc j hLj i hm; rw [hLi] at this; cases this
   ·exact absurd (List.mem_append_right _ hld) (hm l hl)
  ·refine (upd_other hl).symm.trans (stX_agree (.refl _ _) fun j d hd hld => ?_)
   have hne : j ≠ i := fun e => by subst e; rw [hc] at hd; cases hd; exact hl hld
   simp [andOne, hne]
 refine h'.congr (fun n => hall (.slot n)) (fun b => hall (.blk b)) (fun id hid => ?_) (by rw [stX_n]; show S.n = (stX L recs S).n; rw [stX_n]) (by rw [stX_pin]; show S.pin = (stX L recs S).pin; rw [stX_pin])
 rcases List.mem_append.1 hid with hid | hid
 ·exact stX_used.2 (.inr ⟨i, c, hc, by simp [andOne], hid⟩)
 ·rcases stX_used.1 hid with hu | ⟨j, d, hd, hLj, hidd⟩
  ·exact stX_used.2 (.inl hu)
  ·exact stX_used.2 (.inr ⟨j, d, hd, by simp [andOne, hLj], hidd⟩)
theorem getD_set {listed : Array Bool} {i j : Nat} (hi : i < listed.size) : (listed.setIfInBounds i true).getD j false = andOne (fun k => listed.getD k false) i j := by
 unfold andOne
 simp only [Array.getD_eq_getD_getElem?, Array.getElem?_setIfInBounds]
 by_cases hj : i = j
 ·subst hj; simp [hi]
 ·simp [hj, Ne.symm hj]
theorem mem_ready {ops : Array Oper} {listed : Array Bool} (hs : listed.size = ops.size) {i : Nat} : i ∈ Region.ready .any ops listed ↔ ∃ o, ops[i]? = some o ∧ listed.getD i false = false ∧ ∀ p ∈ preds o, listed.getD p false = true := by
 unfold Region.ready
 simp only [List.mem_filter, List.mem_range, Bool.and_eq_true, Bool.not_eq_true']
 constructor
 ·rintro ⟨hi, h1, h2⟩
  refine ⟨ops[i], Array.getElem?_eq_getElem hi, ?_, ?_⟩
  ·rw [Array.getD_eq_getD_getElem?] at h1 ⊢
   rw [Array.getElem?_eq_getElem (by omega)] at h1 ⊢
   exact h1
  ·rw [Array.getElem?_eq_getElem hi] at h2
   simp only [Option.map_some, Option.getD_some] at h2
   intro p hp
   unfold preds at hp
   obtain ⟨e, he, rfl⟩ := List.mem_map.1 hp
   obtain ⟨he1, he2⟩ := List.mem_filter.1 he
   have := Array.all_eq_true_iff_forall_mem.1 h2 e (by simpa using he1)
   rw [he2] at this
   simpa using this
 ·rintro ⟨o, ho, h1, h2⟩
  have hi := (Array.getElem?_eq_some_iff.1 ho).1
  refine ⟨hi, ?_, ?_⟩
  ·rw [Array.getD_eq_getD_getElem?] at h1 ⊢
   rw [Array.getElem?_eq_getElem (by omega)] at h1 ⊢
   exact h1
  ·rw [ho]
   simp only [Option.map_some, Option.getD_some]
   refine Array.all_eq_true_iff_forall_mem.2 fun e he => ?_
   cases hb : Region.binds .any e with
   | false => simp
   | true =>
    have := h2 e.on (by
     unfold preds
     exact List.mem_map_of_mem (List.mem_filter.2 ⟨by simpa using he, hb⟩))
    simpa using this
theorem exDraw_sound (hT : TabOk P X.tab) (hK : ∀ f con, X.con f = some con → ConOk P f con) {ops : Array Oper} {recs : List Rec} {S' : St} (hr : exDraw X ops S = some (recs, S')) (h : TRel w0 foot base S E a w) (hcond : ∀ p ∈ condsOf recs, p)
  {Q : Exit → Act → World → Prop} (hQ : ∀ E' a' w', TRel w0 foot base S' E' a' w' → Q .normal a' w') : wpAny P .any ops Q ops.size (Array.replicate ops.size false) a w := by
 unfold exDraw at hr
 split at hr
 ·cases hr
 ·rename_i recs' S'' hseq
  split at hr
  ·rename_i hb
   cases hr
   simp only [Bool.and_eq_true] at hb
   obtain ⟨hp, hcl, htg, hap⟩ := hb
   obtain ⟨hlen, hS', hat⟩ := exSeq_at hseq
   have hlen' : recs.length = ops.size := by simpa using hlen
   have least : ∀ (L : Nat → Bool), (∃ i, i < ops.size ∧ L i = false) → ∃ i, i < ops.size ∧ L i = false ∧ ∀ j, j < i → L j = true := fun L ⟨i, hi, hL⟩ => by
    induction i using Nat.strongRecOn with
    | _ i ih =>
     by_cases hex : ∃ j, j < i ∧ L j = false
     ·obtain ⟨j, hj, hLj⟩ := hex
      exact ih j hj (by omega) hLj
     ·refine ⟨i, hi, hL, fun j hj => ?_⟩
      cases hLj : L j with
      | true => rfl
      | false => exact absurd ⟨j, hj, hLj⟩ hex
   have all : ∀ (fuel : Nat) (listed : Array Bool) (E : Env) (a : Act) (w : World), listed.size = ops.size → ((List.range ops.size).filter fun i => !listed.getD i false).length = fuel →
     (∀ i o, ops[i]? = some o → listed.getD i false = true → ∀ p ∈ preds o, listed.getD p false = true) → TRel w0 foot base (stX (fun i => listed.getD i false) recs S) E a w → wpAny P .any ops Q fuel listed a w := by
    intro fuel
    have fin : ∀ (listed : Array Bool) (E : Env) (a : Act) (w : World), listed.size = ops.size → TRel w0 foot base (stX (fun i => listed.getD i false) recs S) E a w → Region.ready .any ops listed = [] → Q .normal a w := fun listed E a w hs h hready => by
     refine hQ E a w ?_
     have hfull : ∀ i, i < ops.size → listed.getD i false = true := fun i hi => by
      cases hLi : listed.getD i false with
      | true => rfl
      | false =>
       obtain ⟨k, hk, hLk, hbelow⟩ := least (fun i => listed.getD i false) ⟨i, hi, hLi⟩
       have : k ∈ Region.ready .any ops listed := (mem_ready hs).2 ⟨ops[k], Array.getElem?_eq_getElem hk, hLk, fun p hpp => hbelow p (predsOk_spec hp k ops[k] hk (by simp) p hpp)⟩
       rw [hready] at this
       cases this
     have hag : ∀ l, Agree (stX (fun i => listed.getD i false) recs S) S' l := fun l => by
      rw [hS']
      exact stX_agree (.refl _ _) fun i c hc _ => hfull i (by rw [← hlen']; exact (List.getElem?_eq_some_iff.1 hc).1)
     refine h.congr (fun n => hag (.slot n)) (fun b => hag (.blk b)) (fun id hid => ?_) (by rw [hS', stX_n, stX_n]) (by rw [hS', stX_pin, stX_pin])
     rw [hS']
     rcases stX_used.1 hid with hu | ⟨j, d, hd, _, hidd⟩
     ·exact stX_used.2 (.inl hu)
     ·exact stX_used.2 (.inr ⟨j, d, hd, rfl, hidd⟩)
    induction fuel with
    | zero =>
     intro listed E a w hs hcount hclosed h
     have hready : Region.ready .any ops listed = [] := by
      refine List.eq_nil_iff_forall_not_mem.2 fun i hi => ?_
      obtain ⟨o, ho, hL, _⟩ := (mem_ready hs).1 hi
      have hi' := (Array.getElem?_eq_some_iff.1 ho).1
      have : i ∈ (List.range ops.size).filter fun i => !listed.getD i false := List.mem_filter.2 ⟨List.mem_range.2 hi', by simp [hL]⟩
      rw [List.eq_nil_of_length_eq_zero hcount] at this
      cases this
     exact ⟨hready, fin listed E a w hs h hready⟩
    | succ fuel ih =>
     intro listed E a w hs hcount hclosed h
     refine ⟨fin listed E a w hs h, fun i hi => ?_⟩
     obtain ⟨o, ho, hL, hpre⟩ := (mem_ready hs).1 hi
     have hi' := (Array.getElem?_eq_some_iff.1 ho).1
     have hfun : (fun j => (listed.setIfInBounds i true).getD j false) = andOne (fun k => listed.getD k false) i := by
      funext j; exact getD_set (by omega)
     refine draw_step hT hK hseq hp hcl htg hap hcond (L := fun i => listed.getD i false) hclosed hi' hL (fun o' ho' p hpp => hpre p (by rw [ho] at ho'; cases ho'; exact hpp)) h fun E' a' w' h' => ?_
     refine ih _ E' a' w' (by simpa using hs) ?_ (fun j o' ho' hj p hpp => ?_) (by rw [hfun]; exact h')
     ·have hperm : ((List.range ops.size).filter fun j => !(listed.setIfInBounds i true).getD j false).length + 1 = ((List.range ops.size).filter fun j => !listed.getD j false).length := by
       have e1 : ((List.range ops.size).filter fun j => !(listed.setIfInBounds i true).getD j false) = ((List.range ops.size).filter fun j => !listed.getD j false).erase i := by
        rw [List.Nodup.erase_eq_filter (List.nodup_range.filter _), List.filter_filter]
        refine List.filter_congr fun j _ => ?_
        rw [getD_set (by omega)]
        unfold andOne
        by_cases hji : j = i
        ·simp [hji]
        ·simp [hji]
       rw [e1, List.length_erase_of_mem (List.mem_filter.2 ⟨List.mem_range.2 hi', by simp [hL]⟩)]
       omega
      omega
     ·rw [getD_set (by omega)] at hj ⊢
      unfold andOne at hj ⊢
      simp only [Bool.or_eq_true, decide_eq_true_eq] at hj ⊢
      rcases hj with hj | rfl
      ·exact .inl (hclosed j o' ho' hj p hpp)
      ·rw [ho] at ho'
       cases ho'
       exact .inl (hpre p hpp)
   refine all ops.size _ E a w (by simp) ?_ (fun i o ho hi => ?_) ?_
   ·have : ((List.range ops.size).filter fun i => !(Array.replicate ops.size false).getD i false) = List.range ops.size := by
     refine List.filter_eq_self.2 fun i _ => ?_
     simp only [Array.getD_eq_getD_getElem?, Array.getElem?_replicate]
     split <;> rfl
    rw [this, List.length_range]
   ·have : (Array.replicate ops.size false).getD i false = false := by
     simp only [Array.getD_eq_getD_getElem?, Array.getElem?_replicate]
     split <;> rfl
    rw [this] at hi
    cases hi
   ·have e : (fun i => (Array.replicate ops.size false).getD i false) = fun _ => false := by
     funext i
     simp only [Array.getD_eq_getD_getElem?, Array.getElem?_replicate]
     split <;> rfl
    have h2 : ∀ (cs : List Rec) (S : St), stX (fun _ => false) cs S = S := by
     intro cs
     induction cs with
     | nil => intro S; rfl
     | cons c cs ih => intro S; exact ih S
    rw [e, h2]
    exact h
  ·cases hr
end Go.Vc
end

section
set_option linter.unusedVariables false
set_option linter.unusedSimpArgs false
namespace Go.Vc
open Go
variable {P : Program} {X : Ctx} {w0 : World} {foot : Foot} {base : Mem} {S : St} {E : Env} {a : Act} {w : World} {ctx : Tags}
def dropTags : List (Nat × (Tags × SV)) → List (Nat × (Tags × SV))
 | [] => []
 | (n, [], v) :: l => (n, [], v) :: dropTags l
 | (_, _ :: _, _) :: l => dropTags l
def keysOnce : List (Nat × (Tags × SV)) → Bool
 | [] => true
 | (n, _) :: l => (match find l n with
  | some _ => false
  | none => true) && keysOnce l
theorem find_dropTags : ∀ {l : List (Nat × (Tags × SV))} {n : Nat} {ts : Tags} {v : SV}, keysOnce l = true → find (dropTags l) n = some (ts, v) → find l n = some (ts, v) ∧ ts = []
 | [], _, _, _, _, h => by cases h
 | (m, [], u) :: l, n, ts, v, hk, h => by
  simp only [keysOnce, Bool.and_eq_true] at hk
  unfold dropTags find at h
  unfold find
  split at h
  ·rename_i hb; cases h; simp [hb]
  ·exact find_dropTags hk.2 h
 | (m, t :: ts', u) :: l, n, ts, v, hk, h => by
  simp only [keysOnce, Bool.and_eq_true] at hk
  unfold dropTags at h
  obtain ⟨h1, h2⟩ := find_dropTags hk.2 h
  refine ⟨?_, h2⟩
  unfold find
  split
  ·rename_i hb
   have := Nat.eq_of_beq_eq_true hb
   subst this
   rw [h1] at hk
   cases hk.1
  ·exact h1
def cleaned (S : St) : St := { S with sl := dropTags S.sl }
theorem TRel.cleaned (h : TRel w0 foot base S E a w) (hk : keysOnce S.sl = true) : TRel w0 foot base (cleaned S) E a w :=
 {toHRel := h.toHRel
  slots := fun n ts v hf ht => h.slots n ts v (find_dropTags hk hf).1 ht
  size := h.size
  defers := h.defers
  pins := h.pins
  untagged := fun n ts v hf ht => h.untagged n ts v (find_dropTags hk hf).1 ht }
def region (X : Ctx) (ops : Array Oper) (draw : Bool) (S : St) : Option (List Rec × St) :=
 match (match draw with
  | true => exDraw X ops S
  | false => exSeq X ops ops.toList S) with
 | none => none
 | some (recs, S') => match keysOnce S'.sl && clean S.sl with
  | true => some (recs, cleaned S')
  | false => none
theorem region_sound (hT : TabOk P X.tab) (hK : ∀ f con, X.con f = some con → ConOk P f con) {id : Nat} {ops : Array Oper} {draw : Bool} {recs : List Rec} {S' : St} (hr : region X ops draw S = some (recs, S')) (h : TRel w0 foot base S E a w)
  (hc : ∀ p ∈ condsOf recs, p) {Q : Exit → Act → World → Prop} (hQ : ∀ E' a' w', TRel w0 foot base S' E' a' w' → Q .normal a' w') : (Code.region id ops draw).wp P Q a w := by
 unfold region at hr
 cases draw with
 | false =>
  simp only at hr
  split at hr
  ·cases hr
  ·rename_i recs' S'' hs
   split at hr
   ·rename_i hk
    cases hr
    simp only [Bool.and_eq_true] at hk
    replace hk := hk.1
    refine wp_region ?_
    rw [List.range_eq_range']
    have := exSeq_sound (Q := Q) hT hK (k := 0) (fun j => by simp) hs h hc fun E' a' w' h' => hQ E' a' w' (h'.cleaned hk)
    simpa using this
   ·cases hr
 | true =>
  simp only at hr
  split at hr
  ·cases hr
  ·rename_i recs' S'' hs
   split at hr
   ·rename_i hk
    cases hr
    simp only [Bool.and_eq_true] at hk
    replace hk := hk.1
    refine wp_region_any hT.mixed ?_
    refine exDraw_sound (E := E) hT hK hs ?_ hc fun E' a' w' h' => hQ E' a' w' (h'.cleaned hk)
    exact { toHRel := h.toHRel.drew _, slots := h.slots, size := h.size, defers := h.defers, pins := h.pins, untagged := h.untagged }
   ·cases hr
def joinC (b : Bool) : C → C → Option C
 | .dat t x, .dat t' y => (Ty.as t y).map fun y' => .dat t (bif b then x else y')
 | .row t i, .row t' j => (match t.beq t' && Nat.beq i j with
  | true => some (.row t i)
  | false => none)
 | .ptr i o, .ptr j o' => (match Nat.beq i j && Nat.beq o o' with
  | true => some (.ptr i o)
  | false => none)
 | .nilsl, .nilsl => some .nilsl
 | .nilptr, .nilptr => some .nilptr
 | .map a b n, .map _ _ m => (match Nat.beq n m with
  | true => some (.map a b n)
  | false => none)
 | .nilmap, .nilmap => some .nilmap
 | .dat (.list t) xs, .nilsl => some (.dat (.list t) (lit (bif b then Ty.L xs else [])))
 | .nilsl, .dat (.list t) xs => some (.dat (.list t) (lit (bif b then [] else Ty.L xs)))
 | _, _ => none
def joinCs (b : Bool) : List C → List C → Option (List C)
 | [], [] => some []
 | c :: cs, d :: ds => match joinC b c d, joinCs b cs ds with
  | some e, some es => some (e :: es)
  | _, _ => none
 | _, _ => none
def joinTup (b : Bool) : List (Bool × List C) → List (Bool × List C) → Option (List (Bool × List C))
 | [], [] => some []
 | (g, cs) :: l, (h, ds) :: k => match g == h, joinCs b cs ds, joinTup b l k with
  | true, some es, some r => some ((g, es) :: r)
  | _, _, _ => none
 | _, _ => none
def joinSV (b : Bool) : SV → SV → Option SV
 | .one c, .one d => (joinC b c d).map .one
 | .agg cs, .agg ds => (joinCs b cs ds).map .agg
 | .tup l, .tup k => (joinTup b l k).map .tup
 | _, _ => none
def joinBlk (b : Bool) : Blk → Blk → Option Blk
 | .cells cs, .cells ds => (joinCs b cs ds).map .cells
 | .row fro e t xs, .row fro' e' t' ys => (match fro == fro' && (Nat.beq e e') with
  | true => (Ty.as (a := .list t') (.list t) (lit ys)).map fun ys' => .row fro e t (bif b then xs else Ty.L ys')
  | false => none)
 | .map fro k v m _, .map fro' k' v' m' _ => (match fro == fro' with
  | true => (Ty.as (a := .map k' v') (.map k v) m').map fun n => .map fro k v (bif b then m else Ty.M n) none
  | false => none)
 | _, _ => none
def joinSl (b : Bool) (ch : List Loc) (s2 : List (Nat × (Tags × SV))) : List (Nat × (Tags × SV)) → List (Nat × (Tags × SV))
 | [] => []
 | (n, ts, v) :: l => match locIn ch (.slot n) with
  | false => (n, ts, v) :: joinSl b ch s2 l
  | true => match ts, find s2 n with
   | [], some ([], v') => (match joinSV b v v' with
    | some u => (n, [], u) :: joinSl b ch s2 l
    | none => joinSl b ch s2 l)
   | _, _ => joinSl b ch s2 l
def joinBl (b : Bool) (ch : List Loc) (b2 : List (Nat × Blk)) : List (Nat × Blk) → Option (List (Nat × Blk))
 | [] => some []
 | (n, B) :: l => match joinBl b ch b2 l with
  | none => none
  | some r => match locIn ch (.blk n) with
   | false => some ((n, B) :: r)
   | true => match find b2 n with
    | none => some r
    | some B' => (match joinBlk b B B' with
     | some D => some ((n, D) :: r)
     | none => none)
def blOnce : List (Nat × Blk) → Bool
 | [] => true
 | (n, _) :: l => (match find l n with
  | some _ => false
  | none => true) && blOnce l
def join (b : Bool) (ch : List Loc) (S1 S2 : St) : Option St :=
 match keysOnce S1.sl && (blOnce S1.bl && (keysOnce S2.sl && (blOnce S2.bl && natsEq S1.pin S2.pin))), joinBl b ch S2.bl S1.bl with
 | true, some bl => some { sl := joinSl b ch S2.sl S1.sl, bl := bl, used := S1.used ++ S2.used, n := S1.n, pin := S1.pin }
 | _, _ => none
def orP (b want : Bool) (p : Prop) : Prop := b = want → p
def ex (X : Ctx) : Code → St → Option (List Prop × List Loc × St)
 | .skip, S => some ([], [], S)
 | .region _ ops draw, S => match region X ops draw S with
  | some (recs, S') => some (condsOf recs, recs.flatMap (fun c => Res.ws c.o c.r), S')
  | none => none
 | .seq a b, S => match ex X a S with
  | some (c1, h1, S1) => (match ex X b S1 with
   | some (c2, h2, S2) => some (c1 ++ c2, h1 ++ h2, S2)
   | none => none)
  | none => none
 | .cond c x y, S => match (do asB (← ev c) : RM Bool).run S [] with
  | some b => (match ex X x S, ex X y S with
   | some (c1, h1, S1), some (c2, h2, S2) => (match join b (h1 ++ h2) S1 S2 with
    | some S' => some (c1.map (orP b true) ++ c2.map (orP b false), h1 ++ h2, S')
    | none => none)
   | _, _ => none)
  | none => none
 | .block _ c, S => ex X c S
 | .scope c, S => ex X c S
 | .label _, S => some ([], [], S)
 | _, _ => none
theorem joinC_rep {b : Bool} {c d e : C} {v : Value} (h : joinC b c d = some e) (hv : CRep E (bif b then c else d) v) : CRep E e v := by
 unfold joinC at h
 split at h
 ·obtain ⟨y', h1, rfl⟩ := Option.map_eq_some_iff.1 h
  obtain ⟨ee, rfl⟩ := Ty.as_some h1
  subst ee
  cases b <;> exact hv
 ·split at h
  ·rename_i hb
   simp only [Bool.and_eq_true] at hb
   cases h
   have h1 := Ty.beq_eq hb.1
   have h2 := Nat.eq_of_beq_eq_true hb.2
   subst h1 h2
   cases b <;> exact hv
  ·cases h
 ·split at h
  ·rename_i hb
   simp only [Bool.and_eq_true] at hb
   cases h
   have h1 := Nat.eq_of_beq_eq_true hb.1
   have h2 := Nat.eq_of_beq_eq_true hb.2
   subst h1 h2
   cases b <;> exact hv
  ·cases h
 ·cases h; cases b <;> exact hv
 ·cases h; cases b <;> exact hv
 ·split at h
  ·rename_i hb
   cases h
   have h1 := Nat.eq_of_beq_eq_true hb
   subst h1
   cases b <;> exact hv
  ·cases h
 ·cases h; cases b <;> exact hv
 ·cases h
  cases b
  ·have hv : v = _ := hv
   subst hv
   exact ⟨rfl, none, 0, rfl, Nat.le_refl _, by simp [maxLenI], fun _ => rfl, fun p hp => by cases hp⟩
  ·exact hv
 ·cases h
  cases b
  ·exact hv
  ·have hv : v = _ := hv
   subst hv
   exact ⟨rfl, none, 0, rfl, Nat.le_refl _, by simp [maxLenI], fun _ => rfl, fun p hp => by cases hp⟩
 ·cases h
theorem joinCs_rep {b : Bool} : ∀ {cs ds es : List C} {vs : List Value}, joinCs b cs ds = some es → CReps E (bif b then cs else ds) vs → CReps E es vs
 | [], [], es, vs, h, hv => by cases h; cases b <;> exact hv
 | c :: cs, d :: ds, es, vs, h, hv => by
  unfold joinCs at h
  split at h
  ·rename_i e es' h1 h2
   cases h
   cases b
   ·obtain ⟨v, us, rfl, k1, k2⟩ := hv
    exact ⟨v, us, rfl, joinC_rep h1 k1, joinCs_rep h2 k2⟩
   ·obtain ⟨v, us, rfl, k1, k2⟩ := hv
    exact ⟨v, us, rfl, joinC_rep h1 k1, joinCs_rep h2 k2⟩
  ·cases h
 | [], _ :: _, es, vs, h, hv => by cases h
 | _ :: _, [], es, vs, h, hv => by cases h
theorem joinCs_one {b : Bool} {c d : C} {es : List C} (h : joinCs b [c] [d] = some es) : ∃ e, es = [e] ∧ joinC b c d = some e := by
 unfold joinCs at h
 split at h
 ·rename_i e es' h1 h2
  cases h
  cases h2
  exact ⟨e, rfl, h1⟩
 ·cases h
theorem joinCs_len {b : Bool} : ∀ {cs ds es : List C}, joinCs b cs ds = some es → cs.length = ds.length
 | [], [], es, h => rfl
 | c :: cs, d :: ds, es, h => by
  unfold joinCs at h
  split at h
  ·rename_i e es' h1 h2
   simp [joinCs_len h2]
  ·cases h
 | [], _ :: _, es, h => by cases h
 | _ :: _, [], es, h => by cases h
theorem joinPart_rep {g : Bool} {cs ds es : List C} {b : Bool} (h1 : joinCs b cs ds = some es) {v : Value} (hp : match (generalizing := false) g with | true => ∃ ws, v = .agg ws ∧ CReps E (bif b then cs else ds) ws.toList | false => ∃ c, (bif b then cs else ds) = [c] ∧ CRep E c v) :
  (match (generalizing := false) g with | true => ∃ ws, v = Value.agg ws ∧ CReps E es ws.toList | false => ∃ c, es = [c] ∧ CRep E c v) := by
 cases g with
 | true => obtain ⟨ws, rfl, hp⟩ := hp; exact ⟨ws, rfl, joinCs_rep h1 hp⟩
 | false =>
  obtain ⟨c, hc, hp⟩ := hp
  have hl := joinCs_len h1
  cases b with
  | true =>
   simp only [cond_true] at hc
   subst hc
   obtain ⟨d, rfl⟩ : ∃ d, ds = [d] := by
    cases ds with
    | nil => simp at hl
    | cons d ds' => cases ds' with
     | nil => exact ⟨d, rfl⟩
     | cons _ _ => simp at hl
   obtain ⟨e, rfl, he⟩ := joinCs_one h1
   exact ⟨e, rfl, joinC_rep he hp⟩
  | false =>
   simp only [cond_false] at hc
   subst hc
   obtain ⟨d, rfl⟩ : ∃ d, cs = [d] := by
    cases cs with
    | nil => simp at hl
    | cons d ds' => cases ds' with
     | nil => exact ⟨d, rfl⟩
     | cons _ _ => simp at hl
   obtain ⟨e, rfl, he⟩ := joinCs_one h1
   exact ⟨e, rfl, joinC_rep he hp⟩
theorem joinTup_rep {b : Bool} : ∀ {l k r : List (Bool × List C)} {vs : List Value}, joinTup b l k = some r → SRep.go E (bif b then l else k) vs → SRep.go E r vs
 | [], [], r, vs, h, hv => by cases h; cases b <;> exact hv
 | (g, cs) :: l, (g', ds) :: k, r, vs, h, hv => by
  unfold joinTup at h
  split at h
  ·rename_i es r' hg h1 h2
   cases h
   have hg : g = g' := by simpa using hg
   subst hg
   cases b with
   | true =>
    obtain ⟨v, us, rfl, k1, k2⟩ := hv
    exact ⟨v, us, rfl, joinPart_rep h1 k1, joinTup_rep (b := true) h2 k2⟩
   | false =>
    obtain ⟨v, us, rfl, k1, k2⟩ := hv
    exact ⟨v, us, rfl, joinPart_rep h1 k1, joinTup_rep (b := false) h2 k2⟩
  ·cases h
 | [], _ :: _, r, vs, h, hv => by cases h
 | _ :: _, [], r, vs, h, hv => by cases h
theorem joinSV_rep {b : Bool} {s t u : SV} {v : Value} (h : joinSV b s t = some u) (hv : SRep E (bif b then s else t) v) : SRep E u v := by
 unfold joinSV at h
 split at h
 ·obtain ⟨c, h1, rfl⟩ := Option.map_eq_some_iff.1 h
  exact joinC_rep h1 (by cases b <;> exact hv)
 ·obtain ⟨c, h1, rfl⟩ := Option.map_eq_some_iff.1 h
  cases b
  ·obtain ⟨vs, rfl, k⟩ := hv; exact ⟨vs, rfl, joinCs_rep h1 k⟩
  ·obtain ⟨vs, rfl, k⟩ := hv; exact ⟨vs, rfl, joinCs_rep h1 k⟩
 ·obtain ⟨c, h1, rfl⟩ := Option.map_eq_some_iff.1 h
  cases b
  ·obtain ⟨vs, rfl, k⟩ := hv; exact ⟨vs, rfl, joinTup_rep h1 k⟩
  ·obtain ⟨vs, rfl, k⟩ := hv; exact ⟨vs, rfl, joinTup_rep h1 k⟩
 ·cases h
theorem joinBlk_rep {b : Bool} {B B' D : Blk} {p : Place} (h : joinBlk b B B' = some D) (hv : BRep E w p (bif b then B else B')) : BRep E w p D ∧ D.mut = (bif b then B else B').mut := by
 unfold joinBlk at h
 split at h
 ·obtain ⟨c, h1, rfl⟩ := Option.map_eq_some_iff.1 h
  cases b
  ·obtain ⟨h0, vs, e, k1, k2⟩ := hv; exact ⟨⟨h0, vs, e, k1, joinCs_rep h1 k2⟩, rfl⟩
  ·obtain ⟨h0, vs, e, k1, k2⟩ := hv; exact ⟨⟨h0, vs, e, k1, joinCs_rep h1 k2⟩, rfl⟩
 ·split at h
  ·rename_i hb
   simp only [Bool.and_eq_true, beq_iff_eq] at hb
   obtain ⟨ys', h1, rfl⟩ := Option.map_eq_some_iff.1 h
   obtain ⟨h2, h3⟩ := hb
   have h3 := Nat.eq_of_beq_eq_true h3
   subst h2 h3
   obtain ⟨ee, rfl⟩ := Ty.as_some h1
   cases ee
   cases b
   ·exact ⟨hv, rfl⟩
   ·exact ⟨hv, rfl⟩
  ·cases h
 ·split at h
  ·rename_i hb
   simp only [beq_iff_eq] at hb
   obtain ⟨n, h1, rfl⟩ := Option.map_eq_some_iff.1 h
   subst hb
   obtain ⟨ee, rfl⟩ := Ty.as_some h1
   cases ee
   cases b
   ·obtain ⟨h0, es, cl, k1, k2, k3, k4⟩ := hv; exact ⟨⟨h0, es, cl, k1, k2, k3, fun _ _ h => by cases h⟩, rfl⟩
   ·obtain ⟨h0, es, cl, k1, k2, k3, k4⟩ := hv; exact ⟨⟨h0, es, cl, k1, k2, k3, fun _ _ h => by cases h⟩, rfl⟩
  ·cases h
 ·cases h
theorem joinSl_find {b : Bool} {ch : List Loc} {s2 : List (Nat × (Tags × SV))} : ∀ {l : List (Nat × (Tags × SV))} {n : Nat} {ts : Tags} {u : SV}, keysOnce l = true → find (joinSl b ch s2 l) n = some (ts, u) →
  (find l n = some (ts, u) ∧ locIn ch (.slot n) = false) ∨ ∃ v v', find l n = some ([], v) ∧ find s2 n = some ([], v') ∧ joinSV b v v' = some u ∧ ts = []
 | [], _, _, _, _, h => by cases h
 | (m, ts', v) :: l, n, ts, u, hk, h => by
  simp only [keysOnce, Bool.and_eq_true] at hk
  have step : find (joinSl b ch s2 l) n = some (ts, u) → (find ((m, ts', v) :: l) n = some (ts, u) ∧ locIn ch (.slot n) = false) ∨ ∃ v1 v', find ((m, ts', v) :: l) n = some ([], v1) ∧ find s2 n = some ([], v') ∧ joinSV b v1 v' = some u ∧ ts = [] := fun h => by
   have hmn : ∀ x, find l n = some x → find ((m, ts', v) :: l) n = some x := fun x hx => by
    unfold find
    split
    ·rename_i hb
     have := Nat.eq_of_beq_eq_true hb
     subst this
     rw [hx] at hk
     cases hk.1
    ·exact hx
   rcases joinSl_find hk.2 h with ⟨h1, h2⟩ | ⟨v1, v', h1, h2⟩
   ·exact .inl ⟨hmn _ h1, h2⟩
   ·exact .inr ⟨v1, v', hmn _ h1, h2⟩
  unfold joinSl at h
  split at h
  ·rename_i hc
   unfold find at h
   split at h
   ·rename_i hb
    cases h
    have := Nat.eq_of_beq_eq_true hb
    subst this
    exact .inl ⟨by simp [find], hc⟩
   ·exact step h
  ·split at h
   ·rename_i v' hf
    split at h
    ·rename_i u' hu
     unfold find at h
     split at h
     ·rename_i hb
      cases h
      have := Nat.eq_of_beq_eq_true hb
      subst this
      exact .inr ⟨v, v', by simp [find], hf, hu, rfl⟩
     ·exact step h
    ·exact step h
   ·exact step h
theorem joinBl_find {b : Bool} {ch : List Loc} {b2 : List (Nat × Blk)} : ∀ {l r : List (Nat × Blk)} {n : Nat} {D : Blk}, blOnce l = true → joinBl b ch b2 l = some r → find r n = some D →
  (find l n = some D ∧ locIn ch (.blk n) = false) ∨ ∃ B B', find l n = some B ∧ find b2 n = some B' ∧ joinBlk b B B' = some D
 | [], r, n, D, _, h, hf => by cases h; cases hf
 | (m, B) :: l, r, n, D, hk, h, hf => by
  simp only [blOnce, Bool.and_eq_true] at hk
  unfold joinBl at h
  split at h
  ·cases h
  ·rename_i r' hr'
   have step : find r' n = some D → (find ((m, B) :: l) n = some D ∧ locIn ch (.blk n) = false) ∨ ∃ B1 B', find ((m, B) :: l) n = some B1 ∧ find b2 n = some B' ∧ joinBlk b B1 B' = some D := fun hf => by
    have hmn : ∀ x, find l n = some x → find ((m, B) :: l) n = some x := fun x hx => by
     unfold find
     split
     ·rename_i hb
      have := Nat.eq_of_beq_eq_true hb
      subst this
      rw [hx] at hk
      cases hk.1
     ·exact hx
    rcases joinBl_find hk.2 hr' hf with ⟨h1, h2⟩ | ⟨v1, v', h1, h2⟩
    ·exact .inl ⟨hmn _ h1, h2⟩
    ·exact .inr ⟨v1, v', hmn _ h1, h2⟩
   split at h
   ·rename_i hc
    cases h
    unfold find at hf
    split at hf
    ·rename_i hb
     cases hf
     have := Nat.eq_of_beq_eq_true hb
     subst this
     exact .inl ⟨by simp [find], hc⟩
    ·exact step hf
   ·split at h
    ·cases h; exact step hf
    ·rename_i B' hB'
     split at h
     ·rename_i D' hD'
      cases h
      unfold find at hf
      split at hf
      ·rename_i hb
       cases hf
       have := Nat.eq_of_beq_eq_true hb
       subst this
       exact .inr ⟨B, B', by simp [find], hB', hD'⟩
      ·exact step hf
     ·cases h
theorem join_sound {b : Bool} {ch : List Loc} {S1 S2 S' : St} (hj : join b ch S1 S2 = some S') (hsame : ∀ l, l ∉ ch → Agree S1 S2 l) (hn : S1.n = S2.n) (h : TRel w0 foot base (bif b then S1 else S2) E a w) : TRel w0 foot base S' E a w := by
 unfold join at hj
 split at hj
 ·rename_i bl hk hbl
  cases hj
  simp only [Bool.and_eq_true] at hk
  have hpin := natsEq_eq hk.2.2.2.2
  obtain ⟨k1, k2, k3, k4⟩ := hk
  have hnot : ∀ l, locIn ch l = false → l ∉ ch := fun l hl hm => by rw [locIn_spec.2 hm] at hl; cases hl
  have hblk : ∀ n D, find bl n = some D → ∃ B, find (bif b then S1 else S2).bl n = some B ∧ (∀ p, BRep E w p B → BRep E w p D ∧ D.mut = B.mut) := fun n D hf => by
   rcases joinBl_find k2 hbl hf with ⟨h1, h2⟩ | ⟨B, B', h1, h2, h3⟩
   ·have hag := hsame (.blk n) (hnot _ h2)
    have hag : find S2.bl n = find S1.bl n := hag
    refine ⟨D, ?_, fun p hp => ⟨hp, rfl⟩⟩
    cases b
    ·show find S2.bl n = _; rw [hag]; exact h1
    ·exact h1
   ·refine ⟨bif b then B else B', ?_, fun p hp => joinBlk_rep h3 hp⟩
    cases b
    ·exact h2
    ·exact h1
  have hslot : ∀ n ts u, find (joinSl b ch S2.sl S1.sl) n = some (ts, u) → ∃ v, find (bif b then S1 else S2).sl n = some (ts, v) ∧ (∀ x, SRep E v x → SRep E u x) := fun n ts u hf => by
   rcases joinSl_find k1 hf with ⟨h1, h2⟩ | ⟨v, v', h1, h2, h3, rfl⟩
   ·have hag := hsame (.slot n) (hnot _ h2)
    have hag : find S2.sl n = find S1.sl n := hag
    refine ⟨u, ?_, fun x hx => hx⟩
    cases b
    ·show find S2.sl n = _; rw [hag]; exact h1
    ·exact h1
   ·refine ⟨bif b then v else v', ?_, fun x hx => joinSV_rep h3 hx⟩
    cases b
    ·exact h2
    ·exact h1
  refine { keep := h.keep, frz := h.frz, src := h.src, blks := fun id D hf => ?_, own := fun id D p hf hp hpn => ?_, inj := fun id id' D D' p p' hf hf' hp hp' hpn hpn' hne => ?_, used := fun id p hp => ?_, slots := fun n ts u hf ht => ?_, size := ?_, defers := h.defers, pins := fun n p h1 => ?_, untagged := fun n ts u hf ht => ?_ }
  ·obtain ⟨B, hB, hto⟩ := hblk id D hf
   obtain ⟨p, hp, k⟩ := h.blks id B hB
   exact ⟨p, hp, (hto p k).1⟩
  ·obtain ⟨B, hB, hto⟩ := hblk id D hf
   obtain ⟨q, hq, k⟩ := h.blks id B hB
   rw [hp] at hq
   cases hq
   have := h.own id B p hB hp hpn
   exact ⟨this.1, fun hm => this.2 (by rw [← (hto p k).2]; exact hm)⟩
  ·obtain ⟨B, hB, _⟩ := hblk id D hf
   obtain ⟨B', hB', _⟩ := hblk id' D' hf'
   exact h.inj id id' B B' p p' hB hB' hp hp' hpn hpn' hne
  ·have := h.used id p hp
   cases b
   ·exact List.mem_append_right _ this
   ·exact List.mem_append_left _ this
  ·obtain ⟨v, hv, hto⟩ := hslot n ts u hf
   exact hto _ (h.slots n ts v hv ht)
  ·have := h.size
   cases b
   ·rw [this]; exact hn.symm
   ·exact this
  ·have := h.pins n p h1
   cases b
   ·exact ⟨by show n ∈ S1.pin; rw [hpin]; exact this.1, this.2⟩
   ·exact this
  ·obtain ⟨v, hv, _⟩ := hslot n ts u hf
   exact h.untagged n ts v hv ht
 ·cases hj
theorem find_skip {α : Type} {m n : Nat} {x : α} {l : List (Nat × α)} (h : m ≠ n) : find ((m, x) :: l) n = find l n := by
 have : Nat.beq m n = false := by
  cases hb : Nat.beq m n with
  | false => rfl
  | true => exact absurd (Nat.eq_of_beq_eq_true hb) h
 simp only [find, this]
theorem find_cons_congr {α : Type} {m n : Nat} {x : α} {l k : List (Nat × α)} (h : find l n = find k n) : find ((m, x) :: l) n = find ((m, x) :: k) n := by
 simp only [find, h]
theorem joinSl_agree {b : Bool} {ch : List Loc} {s2 : List (Nat × (Tags × SV))} : ∀ {l : List (Nat × (Tags × SV))} {n : Nat}, locIn ch (.slot n) = false → find (joinSl b ch s2 l) n = find l n
 | [], _, _ => rfl
 | (m, ts, v) :: l, n, h => by
  have ih := joinSl_agree (b := b) (s2 := s2) (l := l) h
  unfold joinSl
  split
  ·exact find_cons_congr ih
  ·rename_i hm
   have hne : m ≠ n := fun e => by subst e; rw [h] at hm; cases hm
   rw [find_skip hne]
   split
   ·split
    ·rw [find_skip hne]; exact ih
    ·exact ih
   ·exact ih
theorem joinBl_agree {b : Bool} {ch : List Loc} {b2 : List (Nat × Blk)} : ∀ {l r : List (Nat × Blk)} {n : Nat}, locIn ch (.blk n) = false → joinBl b ch b2 l = some r → find r n = find l n
 | [], r, _, _, h => by cases h; rfl
 | (m, B) :: l, r, n, hn, h => by
  unfold joinBl at h
  split at h
  ·cases h
  ·rename_i r' hr'
   have ih := joinBl_agree hn hr'
   split at h
   ·cases h; exact find_cons_congr ih
   ·rename_i hm
    have hne : m ≠ n := fun e => by subst e; rw [hn] at hm; cases hm
    rw [find_skip hne]
    split at h
    ·cases h; exact ih
    ·split at h
     ·cases h
      rw [find_skip hne]; exact ih
     ·cases h
theorem join_agree {b : Bool} {ch : List Loc} {S1 S2 S' : St} (hj : join b ch S1 S2 = some S') {l : Loc} (hl : l ∉ ch) : Agree S1 S' l := by
 have hl : locIn ch l = false := by
  cases h : locIn ch l with
  | false => rfl
  | true => exact absurd (locIn_spec.1 h) hl
 unfold join at hj
 split at hj
 ·rename_i bl hk hbl
  cases hj
  cases l with
  | slot n => exact joinSl_agree hl
  | blk n => exact joinBl_agree hl hbl
 ·cases hj
theorem join_n {b : Bool} {ch : List Loc} {S1 S2 S' : St} (hj : join b ch S1 S2 = some S') : S'.n = S1.n := by
 unfold join at hj
 split at hj
 ·cases hj; rfl
 ·cases hj
theorem find_dropTags_keep : ∀ {l : List (Nat × (Tags × SV))} {n : Nat} {v : SV}, find l n = some ([], v) → find (dropTags l) n = some ([], v)
 | [], _, _, h => by cases h
 | (m, [], u) :: l, n, v, h => by
  unfold dropTags
  by_cases e : m = n
  ·subst e
   simpa [find] using h
  ·rw [find_skip e] at h ⊢
   exact find_dropTags_keep h
 | (m, t :: ts', u) :: l, n, v, h => by
  unfold dropTags
  unfold find at h
  split at h
  ·cases h
  ·exact find_dropTags_keep h
theorem cleaned_agree {S S' : St} (hk : keysOnce S'.sl = true) (hcl : Go.Vc.clean S.sl = true) {l : Loc} (h : Agree S S' l) : Agree S (cleaned S') l := by
 cases l with
 | blk n => exact h
 | slot n =>
  have h : find S'.sl n = find S.sl n := h
  show find (dropTags S'.sl) n = find S.sl n
  rw [← h]
  cases hf : find S'.sl n with
  | none =>
   cases hd : find (dropTags S'.sl) n with
   | none => rfl
   | some x =>
    obtain ⟨ts, v⟩ := x
    rw [(find_dropTags hk hd).1] at hf
    cases hf
  | some x =>
   obtain ⟨ts, v⟩ := x
   have := clean_spec hcl n ts v (h ▸ hf)
   subst this
   exact find_dropTags_keep hf
theorem exSeq_frame {ops : Array Oper} : ∀ {l : List Oper} {S : St} {recs : List Rec} {S' : St}, exSeq X ops l S = some (recs, S') → (∀ loc, loc ∉ recs.flatMap (fun c => Res.ws c.o c.r) → Agree S S' loc) ∧ S'.n = S.n
 | [], S, recs, S', h => by
  cases h
  exact ⟨fun loc _ => Agree.refl _ _, rfl⟩
 | o :: l, S, recs, S', h => by
  unfold exSeq at h
  split at h
  ·cases h
  ·rename_i c hc
   split at h
   ·cases h
   ·rename_i cs S'' hs
    cases h
    obtain ⟨h1, h2⟩ := exSeq_frame hs
    obtain ⟨_, _, _, _, _, _, ho, _⟩ := stepOp_spec hc
    refine ⟨fun loc hl => ?_, h2⟩
    simp only [List.flatMap_cons, List.mem_append, not_or] at hl
    rw [ho] at hl
    exact (upd_other hl.1).trans (h1 loc hl.2)
theorem region_frame {ops : Array Oper} {draw : Bool} {recs : List Rec} {S S' : St} (hr : region X ops draw S = some (recs, S')) : (∀ loc, loc ∉ recs.flatMap (fun c => Res.ws c.o c.r) → Agree S S' loc) ∧ S'.n = S.n := by
 unfold region at hr
 have key : ∀ S'', exSeq X ops ops.toList S = some (recs, S'') → keysOnce S''.sl = true → Go.Vc.clean S.sl = true → cleaned S'' = S' → (∀ loc, loc ∉ recs.flatMap (fun c => Res.ws c.o c.r) → Agree S S' loc) ∧ S'.n = S.n := fun S'' hs hk hcl e => by
  subst e
  obtain ⟨h1, h2⟩ := exSeq_frame hs
  exact ⟨fun loc hl => cleaned_agree hk hcl (h1 loc hl), h2⟩
 split at hr
 ·cases hr
 ·rename_i recs' S'' hs
  split at hr
  ·rename_i hk
   cases hr
   simp only [Bool.and_eq_true] at hk
   cases draw with
   | false => exact key _ hs hk.1 hk.2 rfl
   | true =>
    simp only at hs
    unfold exDraw at hs
    split at hs
    ·cases hs
    ·rename_i r1 S1 hs1
     split at hs
     ·cases hs
      exact key _ hs1 hk.1 hk.2 rfl
     ·cases hs
  ·cases hr
theorem ex_sound (hT : TabOk P X.tab) (hK : ∀ f con, X.con f = some con → ConOk P f con) : ∀ {c : Code} {S S' : St} {cs : List Prop} {ch : List Loc}, ex X c S = some (cs, ch, S') →
  ((∀ l, l ∉ ch → Agree S S' l) ∧ S'.n = S.n) ∧ ∀ {E : Env} {a : Act} {w : World}, TRel w0 foot base S E a w → (∀ p ∈ cs, p) → ∀ {Q : Exit → Act → World → Prop}, (∀ E' a' w', TRel w0 foot base S' E' a' w' → Q .normal a' w') → c.wp P Q a w
 | .skip, S, S', cs, ch, h => by
  cases h
  exact ⟨⟨fun l _ => Agree.refl _ _, rfl⟩, fun hR _ Q hQ => wp_skip (hQ _ _ _ hR)⟩
 | .region id ops draw, S, S', cs, ch, h => by
  unfold ex at h
  split at h
  ·rename_i recs S'' hr
   cases h
   exact ⟨region_frame hr, fun hR hc Q hQ => region_sound hT hK hr hR hc hQ⟩
  ·cases h
 | .seq x y, S, S', cs, ch, h => by
  unfold ex at h
  split at h
  ·rename_i c1 h1 S1 hx
   split at h
   ·rename_i c2 h2 S2 hy
    cases h
    obtain ⟨⟨fx, nx⟩, sx⟩ := ex_sound hT hK hx
    obtain ⟨⟨fy, ny⟩, sy⟩ := ex_sound hT hK hy
    refine ⟨⟨fun l hl => ?_, ny.trans nx⟩, fun hR hc Q hQ => ?_⟩
    ·simp only [List.mem_append, not_or] at hl
     exact (fx l hl.1).trans (fy l hl.2)
    ·refine wp_seq (sx hR (fun p hp => hc p (List.mem_append_left _ hp)) fun E' a' w' h' => ?_)
     exact sy h' (fun p hp => hc p (List.mem_append_right _ hp)) hQ
   ·cases h
  ·cases h
 | .cond c x y, S, S', cs, ch, h => by
  unfold ex at h
  split at h
  ·rename_i b hb
   split at h
   ·rename_i c1 h1 S1 c2 h2 S2 hx hy
    split at h
    ·rename_i Sj hj
     cases h
     obtain ⟨⟨fx, nx⟩, sx⟩ := ex_sound hT hK hx
     obtain ⟨⟨fy, ny⟩, sy⟩ := ex_sound hT hK hy
     have hsame : ∀ l, l ∉ h1 ++ h2 → Agree S1 S2 l := fun l hl => by
      simp only [List.mem_append, not_or] at hl
      exact (fx l hl.1).symm.trans (fy l hl.2)
     have hnn : S1.n = S2.n := nx.trans ny.symm
     refine ⟨⟨fun l hl => ?_, ?_⟩, fun {E a w} hR hc Q hQ => ?_⟩
     ·exact (fx l (fun hm => hl (List.mem_append_left _ hm))).trans (join_agree hj hl)
     ·exact (join_n hj).trans nx
     ·obtain ⟨s, e1, e2⟩ := RM.run_bind' hb
      have hv := asB_rep (ev_rep hR.toSRel (fun t ht => by cases ht) e1) e2
      refine wp_cond_split hv (fun ht => ?_) (fun ht => ?_)
      ·refine sx hR (fun p hp => ?_) fun E' a' w' h' => ?_
       ·exact hc (orP b true p) (List.mem_append_left _ (List.mem_map_of_mem hp)) ht
       ·exact hQ E' a' w' (join_sound hj hsame hnn (by rw [ht]; exact h'))
      ·refine sy hR (fun p hp => ?_) fun E' a' w' h' => ?_
       ·exact hc (orP b false p) (List.mem_append_right _ (List.mem_map_of_mem hp)) ht
       ·exact hQ E' a' w' (join_sound hj hsame hnn (by rw [ht]; exact h'))
    ·cases h
   ·cases h
  ·cases h
 | .block id c, S, S', cs, ch, h => by
  unfold ex at h
  obtain ⟨f, s⟩ := ex_sound hT hK h
  exact ⟨f, fun hR hc Q hQ => wp_block (s hR hc fun E' a' w' h' => hQ E' a' w' h')⟩
 | .loop _, _, _, _, _, h => by cases h
 | .rangeFunc _ _ _ _, _, _, _, _, h => by cases h
 | .exit _, _, _, _, _, h => by cases h
 | .scope c, S, S', cs, ch, h => by
  unfold ex at h
  obtain ⟨f, s⟩ := ex_sound hT hK h
  exact ⟨f, fun hR hc Q hQ => wp_scope_straight (s hR hc fun E' a' w' h' => hQ E' a' w' h')⟩
 | .label _, S, S', cs, ch, h => by
  cases h
  exact ⟨⟨fun l _ => Agree.refl _ _, rfl⟩, fun hR _ Q hQ => wp_label (hQ _ _ _ hR)⟩
 | .goto _, _, _, _, _, h => by cases h
 | .ret, _, _, _, _, h => by cases h
end Go.Vc
end

section
set_option linter.unusedVariables false
set_option linter.unusedSimpArgs false
namespace Go.Vc
open Go
variable {P : Program} {X : Ctx} {w0 : World} {foot : Foot} {base : Mem} {S : St} {E : Env} {a : Act} {w : World} {ctx : Tags}
def conjP : List Prop → Prop → Prop
 | [], q => q
 | p :: ps, q => p ∧ conjP ps q
theorem conjP_elim : ∀ {ps : List Prop} {q : Prop}, conjP ps q → (∀ p ∈ ps, p) ∧ q
 | [], q, h => ⟨fun p hp => (by cases hp), h⟩
 | p :: ps, q, h => ⟨fun r hr => by
   rcases List.mem_cons.1 hr with rfl | hr
   ·exact h.1
   ·exact (conjP_elim h.2).1 r hr, (conjP_elim h.2).2⟩
abbrev Known := List (Nat × Bool)
def DHold (D : Known) (a : Act) : Prop := ∀ t v, find D t = some v → a.tmps[t]? = some (.bool v)
def knownX (D : Known) : Operand → Option Bool
 | .tmp t => find D t
 | .const (.bool v) => some v
 | _ => none
def setD (D : Known) (dst : Option Nat) (v : Option Bool) : Known :=
 match dst with
 | none => D
 | some d => match v with
  | some b => put D d b
  | none => rem D d
def wayOp (X : Ctx) (D : Known) (o : Oper) : RM Res × Option Bool :=
 match o.op with
 | .pick (.tmp c) x y => (match find D c with
  | some true => (do pureV (← ev x), knownX D x)
  | some false => (do pureV (← ev y), knownX D y)
  | none => (exOp X o, none))
 | .move x => (do pureV (← ev x), knownX D x)
 | .assign x => (do pureV (← ev x), knownX D x)
 | _ => (exOp X o, none)
def isNilSlice : Operand → Bool
 | .const (.slice none 0 0) => true
 | _ => false
def nilCmp (X : Ctx) (S : St) (o : Oper) : Option (Bool × Prop) :=
 match o.op with
 | .binOp op t x y _ => (match isNilSlice y, op with
  | true, .eql => (match (do let i ← ti X t; let s ← ev x; return (i.d, s) : RM (TD × SV)).run S [] with
   | some (.slice _, .one (.dat (.list _) xs)) => some (false, Ty.L xs = [])
   | _ => none)
  | true, .neq => (match (do let i ← ti X t; let s ← ev x; return (i.d, s) : RM (TD × SV)).run S [] with
   | some (.slice _, .one (.dat (.list _) xs)) => some (true, Ty.L xs = [])
   | _ => none)
  | _, _ => none)
 | _ => none
def negIf (neg b : Bool) : Bool :=
 match neg with
 | true => !b
 | false => b
def wayRun0 (X : Ctx) (o : Oper) (S : St) (D : Known) (next : St → Known → Prop) : Prop :=
 match nilCmp X S o with
 | some (neg, p) => (match dstOk S [] o with
  | true => ∀ b : Bool, (b = true → p) → next (upd S o [] { val := some (.one (.dat .bool (negIf neg b))) }) (setD D o.dst none)
  | false => False)
 | none => match (wayOp X D o).1.run S [] with
  | none => False
  | some r => (match dstOk S [] o && allFresh S.used r.new with
   | true => conjP r.conds (next (upd S o [] r) (setD D o.dst (wayOp X D o).2))
   | false => False)
def wayRun (X : Ctx) (o : Oper) (S : St) (D : Known) (next : St → Known → Prop) : Prop :=
 match iterAt S o with
 | some i => (match dstOk S [] o with
  | true => (i.todo = [] → next (upd S o [] stepOver) (setD D o.dst none)) ∧
    ∀ (x : i.a.den × i.b.den) (rest : List (i.a.den × i.b.den)), i.todo.Perm (x :: rest) → next (upd S o [] (stepTo i.d i.a i.b x rest)) (setD D o.dst none)
  | false => False)
 | none => wayRun0 X o S D next
def boolAt0 (S : St) (n : Nat) : Option Bool :=
 match find S.sl n with
 | some ([], .one (.dat .bool b)) => some (Ty.B b)
 | _ => none
def dropS (S : St) (dst : Option Nat) : St :=
 match dst with
 | none => S
 | some d => { S with sl := rem S.sl d }
def vcOps (X : Ctx) (ops : Array Oper) : List Oper → St → Known → (St → Prop) → Prop
 | [], S, D, k => k S
 | o :: l, S, D, k => match o.guard with
  | none => wayRun X o S D (fun S D => vcOps X ops l S D k)
  | some (j, want) => match (ops[j]?).bind (·.dst) with
   | none => False
   | some d => match find D d with
    | some v => (match v == want with
     | true => wayRun X o S D (fun S D => vcOps X ops l S D k)
     | false => vcOps X ops l (dropS S o.dst) (setD D o.dst none) k)
    | none => match boolAt0 S d with
     | some b => (b = want → wayRun X o S (put D d want) (fun S D => vcOps X ops l S D k)) ∧ (b = !want → vcOps X ops l (dropS S o.dst) (setD (put D d (!want)) o.dst none) k)
     | none => False
theorem knownX_eval {D : Known} (hD : DHold D a) {x : Operand} {b : Bool} (h : knownX D x = some b) : a.eval x = .bool b := by
 unfold knownX at h
 split at h
 ·rename_i t
  have := hD t b h
  show a.tmps.getD t undef = _
  rw [Array.getD_eq_getD_getElem?, this]
  rfl
 ·cases h; rfl
 ·cases h
theorem DHold.put {D : Known} (hD : DHold D a) {d : Nat} {v : Bool} (h : a.tmps[d]? = some (.bool v)) : DHold (Go.Vc.put D d v) a := fun t u hf => by
 by_cases e : d = t
 ·subst e
  rw [find_put_same] at hf
  cases hf
  exact h
 ·rw [find_put_other _ _ _ _ e] at hf
  exact hD t u hf
theorem DHold.set {D : Known} (hD : DHold D a) {dst : Option Nat} {kn : Option Bool} {v : Value} (hk : ∀ b, kn = some b → v = .bool b) (hlt : ∀ d, dst = some d → d < a.tmps.size) : DHold (setD D dst kn) (a.put dst v) := by
 cases dst with
 | none => exact hD
 | some d =>
  have old : ∀ t u, t ≠ d → find D t = some u → (a.put (some d) v).tmps[t]? = some (.bool u) := fun t u hn hf => by
   rw [tmps_put hn]; exact hD t u hf
  cases kn with
  | none =>
   intro t u hf
   obtain ⟨h1, h2⟩ := find_rem_some (l := D) hf
   exact old t u (Ne.symm h2) h1
  | some b =>
   have hv := hk b rfl
   subst hv
   intro t u hf
   have hf : find (Go.Vc.put D d b) t = some u := hf
   by_cases e : d = t
   ·subst e
    rw [find_put_same] at hf
    cases hf
    exact tmps_put_same (hlt d rfl)
   ·rw [find_put_other _ _ _ _ e] at hf
    exact old t u (Ne.symm e) hf
theorem noTags (a : Act) : TagsHold a [] := fun t ht => by cases ht
def OpOkK (P : Program) (w0 : World) (foot : Foot) (base : Mem) (S : St) (E : Env) (a : Act) (w : World) (o : Oper) (r : Res) (kn : Option Bool) : Prop :=
 ∀ (next : Act → World → Prop) (Q : Exit → Act → World → Prop), (∀ E' w' v, After w0 foot base S.bl S.used E r E' w' v → (∀ b, kn = some b → v = .bool b) → next (a.put o.dst v) w') → o.wp P a w next Q
theorem OpOk.none {o : Oper} {r : Res} (h : OpOk P w0 foot base S E a w o r) : OpOkK P w0 foot base S E a w o r none :=
 fun next Q hn => h next Q fun E' w' v hA => hn E' w' v hA fun b hb => by cases hb
theorem move_known (h : SRel w0 foot base S E a w) {D : Known} (hD : DHold D a) {o : Oper} {x : Operand} (hrun : (execOp a.eval o).run P w = .ok (.value (a.eval x)) w) {r : Res}
  (hr : (do pureV (← ev x) : RM Res).run S [] = some r) : OpOkK P w0 foot base S E a w o r (knownX D x) := by
 obtain ⟨s, h1, hr⟩ := RM.run_bind' hr
 rw [pureV_spec hr]
 intro next Q hn
 unfold Oper.wp
 rw [hrun]
 exact hn _ _ _ (After.pure h.toHRel (ev_rep h (noTags a) h1)) fun b hb => knownX_eval hD hb
theorem known_getD {D : Known} (hD : DHold D a) {c : Nat} {v : Bool} (h : find D c = some v) : a.eval (.tmp c) = .bool v := knownX_eval hD (x := .tmp c) h
theorem wayOp_cases {D : Known} (hD : DHold D a) (o : Oper) : (∃ x, (execOp a.eval o).run P w = .ok (.value (a.eval x)) w ∧ wayOp X D o = (do pureV (← ev x), knownX D x)) ∨ wayOp X D o = (exOp X o, none) := by
 cases ho : o.op with
 | pick c x y =>
  cases c with
  | tmp c =>
   cases hc : find D c with
   | none => right; simp [wayOp, ho, hc]
   | some v =>
    left
    cases v with
    | true => exact ⟨x, by simp [execOp, ho, known_getD hD hc, asBool], by simp only [wayOp, ho, hc]⟩
    | false => exact ⟨y, by simp [execOp, ho, known_getD hD hc, asBool], by simp only [wayOp, ho, hc]⟩
  | _ => right; simp [wayOp, ho]
 | move x => left; exact ⟨x, by simp [execOp, ho], by simp only [wayOp, ho]⟩
 | assign x => left; exact ⟨x, by simp [execOp, ho], by simp only [wayOp, ho]⟩
 | _ => right; simp [wayOp, ho]
theorem wayOp_sound (hT : TabOk P X.tab) (hK : ∀ f con, X.con f = some con → ConOk P f con) (h : SRel w0 foot base S E a w) {D : Known} (hD : DHold D a) {o : Oper} {r : Res} (hr : (wayOp X D o).1.run S [] = some r)
  (hn : ∀ i ∈ r.new, i ∉ S.used) (hcond : ∀ c ∈ r.conds, c) : OpOkK P w0 foot base S E a w o r (wayOp X D o).2 := by
 rcases wayOp_cases (P := P) (X := X) (w := w) hD o with ⟨x, hrun, e⟩ | e
 ·rw [e] at hr ⊢
  exact move_known h hD hrun hr
 ·rw [e] at hr ⊢
  exact (exOp_sound hT hK h (noTags a) hr hn hcond).none
theorem run_equalIn_nil {t e : Nat} (hu : P.underlying t = some (.slice e)) (d : Nat) (p : Option Addr) (n c : Nat) : (Op.equalIn (d + 1) t (.slice p n c) (.slice none 0 0)).run P w = .ok p.isNone w := by
 cases p with
 | none => simp only [Op.equalIn, Sem.run_bind, run_underlying hu, Result.andThen_ok]; rfl
 | some q => simp only [Op.equalIn, Sem.run_bind, run_underlying hu, Result.andThen_ok]; rfl
theorem run_eqGuard_slice (op : BinOp) (t : Nat) (x y : Operand) (p : Option Addr) (n c : Nat) : (eqGuard op t x y (.slice p n c) (.slice none 0 0)).run P w = .ok () w := by
 unfold eqGuard
 split <;> rfl
theorem run_eq_nil {t e : Nat} (hu : P.underlying t = some (.slice e)) (x y : Operand) (p : Option Addr) (n c : Nat) :
  (do eqGuard .eql t x y (.slice p n c) (.slice none 0 0); binOp .eql t (.slice p n c) (.slice none 0 0) : Sem Value).run P w = .ok (.bool p.isNone) w := by
 rw [Sem.run_bind, run_eqGuard_slice, Result.andThen_ok]
 show (do pure (.bool (← Op.equal t (.slice p n c) (.slice none 0 0))) : Sem Value).run P w = _
 rw [Sem.run_bind, show Op.equal t (.slice p n c) (.slice none 0 0) = Op.equalIn (9999 + 1) t (.slice p n c) (.slice none 0 0) from rfl, run_equalIn_nil hu]
 rfl
theorem run_ne_nil {t e : Nat} (hu : P.underlying t = some (.slice e)) (x y : Operand) (p : Option Addr) (n c : Nat) :
  (do eqGuard .neq t x y (.slice p n c) (.slice none 0 0); binOp .neq t (.slice p n c) (.slice none 0 0) : Sem Value).run P w = .ok (.bool (!p.isNone)) w := by
 rw [Sem.run_bind, run_eqGuard_slice, Result.andThen_ok]
 show (do pure (.bool (!(← Op.equal t (.slice p n c) (.slice none 0 0)))) : Sem Value).run P w = _
 rw [Sem.run_bind, show Op.equal t (.slice p n c) (.slice none 0 0) = Op.equalIn (9999 + 1) t (.slice p n c) (.slice none 0 0) from rfl, run_equalIn_nil hu]
 rfl
theorem nilCmp_sound (hT : TabOk P X.tab) (h : SRel w0 foot base S E a w) {o : Oper} {neg : Bool} {p : Prop} (hc : nilCmp X S o = some (neg, p)) :
  ∃ b : Bool, (b = true → p) ∧ OpOk P w0 foot base S E a w o { val := some (.one (.dat .bool (negIf neg b))) } := by
 have nil : ∀ {op : BinOp} {t yt : Nat} {x y : Operand} {e : Nat} {tt : Ty} {xs : (Ty.list tt).den}, o.op = .binOp op t x y yt → isNilSlice y = true → (do let i ← ti X t; let s ← ev x; return (i.d, s) : RM (TD × SV)).run S [] = some (.slice e, .one (.dat (.list tt) xs)) →
   ∃ q n c, a.eval x = .slice q n c ∧ a.eval y = .slice none 0 0 ∧ P.underlying t = some (.slice e) ∧ (q.isNone = true → Ty.L xs = []) := fun {op t yt x y e tt xs} ho hy hx => by
  obtain ⟨i, h1, hx⟩ := RM.run_bind' hx
  obtain ⟨s, h2, hx⟩ := RM.run_bind' hx
  have hx := RM.run_pure' hx
  obtain ⟨hs, _⟩ := ti_spec hT h1
  have hv := ev_rep h (noTags a) h2
  obtain ⟨hd, hse⟩ := Prod.mk.injEq .. ▸ hx
  rw [hse] at hv
  obtain ⟨_, q, cap, h3, h4, h5, h6, _⟩ := hv
  simp only [List.cons.injEq, and_true] at h3
  refine ⟨q, _, cap, h3, ?_, skel_slice (hs.trans hd), fun hq => ?_⟩
  ·unfold isNilSlice at hy
   split at hy
   ·rfl
   ·cases hy
  ·have : q = none := by simpa using hq
   have := h6 this
   exact List.length_eq_zero_iff.1 (by omega)
 unfold nilCmp at hc
 split at hc
 ·rename_i op t x y yt ho
  split at hc
  ·rename_i hy
   split at hc
   ·rename_i e tt xs hx
    cases hc
    obtain ⟨q, n, c, h1, h2, h3, h4⟩ := nil ho hy hx
    refine ⟨q.isNone, h4, OpOk.value (v := .bool q.isNone) (w' := w) ?_ (After.pure h.toHRel ⟨rfl, rfl⟩)⟩
    simp only [execOp, ho, h1, h2]
    rw [Sem.run_bind, run_eq_nil h3]
    rfl
   ·cases hc
  ·rename_i hy
   split at hc
   ·rename_i e tt xs hx
    cases hc
    obtain ⟨q, n, c, h1, h2, h3, h4⟩ := nil ho hy hx
    refine ⟨q.isNone, h4, OpOk.value (v := .bool (!q.isNone)) (w' := w) ?_ (After.pure h.toHRel ⟨rfl, rfl⟩)⟩
    simp only [execOp, ho, h1, h2]
    rw [Sem.run_bind, run_ne_nil h3]
    rfl
   ·cases hc
  ·cases hc
 ·cases hc
def CleanF (S : St) : Prop := ∀ n ts v, find S.sl n = some (ts, v) → ts = []
theorem CleanF.upd (h : CleanF S) (o : Oper) (r : Res) : CleanF (Go.Vc.upd S o [] r) := fun n ts v hf => by
 unfold Go.Vc.upd at hf
 simp only at hf
 split at hf
 ·exact h n ts v hf
 ·rename_i d _
  split at hf
  ·by_cases e : d = n
   ·subst e; rw [find_put_same] at hf; cases hf; rfl
   ·rw [find_put_other _ _ _ _ e] at hf; exact h n ts v hf
  ·exact h n ts v (find_rem_some hf).1
theorem wayRun0_sound (hT : TabOk P X.tab) (hK : ∀ f con, X.con f = some con → ConOk P f con) {o : Oper} {D : Known} {next : St → Known → Prop} (hv : wayRun0 X o S D next) (h : TRel w0 foot base S E a w) (hD : DHold D a)
  (hcl : CleanF S) {Q : Exit → Act → World → Prop} {K : Act → World → Prop} (hK' : ∀ S' D' E' a' w', next S' D' → CleanF S' → TRel w0 foot base S' E' a' w' → DHold D' a' → K a' w') : o.wp P a w K Q := by
 have hsz : ∀ {r : Res}, dstOk S [] o = true → ∀ d, o.dst = some d → d < a.tmps.size := fun hd d hdd => by
  rw [h.size]; exact (dstOk_spec hd d hdd).1
 unfold wayRun0 at hv
 split at hv
 ·rename_i neg p hc
  split at hv
  ·rename_i hd
   obtain ⟨b, hb, hok⟩ := nilCmp_sound (P := P) hT h.toSRel hc
   refine hok _ _ fun E' w' v hA => ?_
   exact hK' _ _ _ _ _ (hv b hb) (hcl.upd _ _) (h.step (dstOk_spec hd) (noTags a) hA) (hD.set (fun b hb => by cases hb) (hsz (r := {}) hd))
  ·cases hv
 ·split at hv
  ·cases hv
  ·rename_i r hr
   split at hv
   ·rename_i hd
    simp only [Bool.and_eq_true] at hd
    obtain ⟨h1, h2⟩ := conjP_elim hv
    refine wayOp_sound hT hK h.toSRel hD hr (allFresh_spec hd.2) h1 _ _ fun E' w' v hA hk => ?_
    exact hK' _ _ _ _ _ h2 (hcl.upd _ _) (h.step (dstOk_spec hd.1) (noTags a) hA) (hD.set hk (hsz (r := {}) hd.1))
   ·cases hv
theorem wayRun_sound (hT : TabOk P X.tab) (hK : ∀ f con, X.con f = some con → ConOk P f con) {o : Oper} {D : Known} {next : St → Known → Prop} (hv : wayRun X o S D next) (h : TRel w0 foot base S E a w) (hD : DHold D a)
  (hcl : CleanF S) {Q : Exit → Act → World → Prop} {K : Act → World → Prop} (hK' : ∀ S' D' E' a' w', next S' D' → CleanF S' → TRel w0 foot base S' E' a' w' → DHold D' a' → K a' w') : o.wp P a w K Q := by
 unfold wayRun at hv
 split at hv
 ·rename_i i hi
  split at hv
  ·rename_i hd
   have hsz : ∀ d, o.dst = some d → d < a.tmps.size := fun d hdd => by
    rw [h.size]; exact (dstOk_spec hd d hdd).1
   rcases iterAt_sound (P := P) h.toSRel hi with ⟨ht, hok⟩ | ⟨x, rest, ht, hok⟩
   ·refine hok _ _ fun E' w' v hA => ?_
    exact hK' _ _ _ _ _ (hv.1 ht) (hcl.upd _ _) (h.step (dstOk_spec hd) (noTags a) hA) (hD.set (fun b hb => by cases hb) hsz)
   ·refine hok _ _ fun E' w' v hA => ?_
    exact hK' _ _ _ _ _ (hv.2 x rest ht) (hcl.upd _ _) (h.step (dstOk_spec hd) (noTags a) hA) (hD.set (fun b hb => by cases hb) hsz)
  ·cases hv
 ·exact wayRun0_sound hT hK hv h hD hcl hK'
theorem dropS_rel (hcl : CleanF S) (h : TRel w0 foot base S E a w) {dst : Option Nat} : TRel w0 foot base (dropS S dst) E (a.put dst undef) w ∧ CleanF (dropS S dst) := by
 cases dst with
 | none => exact ⟨h, hcl⟩
 | some d =>
  have hf : ∀ n ts v, find (rem S.sl d) n = some (ts, v) → ts = [] ∧ n ≠ d ∧ find S.sl n = some (ts, v) := fun n ts v hf => by
   obtain ⟨h1, h2⟩ := find_rem_some hf
   exact ⟨hcl n ts v h1, Ne.symm h2, h1⟩
  refine ⟨{ toHRel := h.toHRel, slots := fun n ts v hfd ht => ?_, size := by simp [Act.put, h.size, dropS], defers := h.defers, pins := h.pins, untagged := fun n ts v hfd ht => ?_ }, fun n ts v hfd => (hf n ts v hfd).1⟩
  ·obtain ⟨rfl, hn, h1⟩ := hf n ts v hfd
   rw [Array.getD_eq_getD_getElem?, tmps_put hn, ← Array.getD_eq_getD_getElem?]
   exact h.slots n [] v h1 (noTags a)
  ·obtain ⟨rfl, _⟩ := hf n ts v hfd
   exact absurd (noTags _) ht
theorem DHold.drop {D : Known} (hD : DHold D a) {dst : Option Nat} : DHold (setD D dst none) (a.put dst undef) := by
 cases dst with
 | none => exact hD
 | some d =>
  intro t u hf
  obtain ⟨h1, h2⟩ := find_rem_some (l := D) hf
  rw [tmps_put (Ne.symm h2)]
  exact hD t u h1
theorem vcOps_sound (hT : TabOk P X.tab) (hK : ∀ f con, X.con f = some con → ConOk P f con) {ops : Array Oper} {Q : Exit → Act → World → Prop} {k : St → Prop} :
  ∀ {l : List Oper} {i : Nat} {S : St} {D : Known} {E : Env} {a : Act} {w : World}, (∀ j, l[j]? = ops[i + j]?) → vcOps X ops l S D k → CleanF S → TRel w0 foot base S E a w → DHold D a →
  (∀ S' E' a' w', k S' → TRel w0 foot base S' E' a' w' → Q .normal a' w') → wpOps P ops Q (List.range' i l.length) a w
 | [], i, S, D, E, a, w, _, hv, _, h, _, hQ => hQ _ _ _ _ hv h
 | o :: l, i, S, D, E, a, w, hl, hv, hcl, h, hD, hQ => by
  have hi : ops[i]? = some o := by have := hl 0; simpa using this.symm
  have hl' : ∀ j, l[j]? = ops[i + 1 + j]? := fun j => by have := hl (j + 1); simpa [Nat.add_assoc, Nat.add_comm 1 j] using this
  simp only [List.length_cons, List.range'_succ]
  rw [wpOps_cons]
  unfold wpOp
  simp only [hi]
  have go : ∀ {D : Known}, DHold D a → wayRun X o S D (fun S D => vcOps X ops l S D k) → o.wp P a w (wpOps P ops Q (List.range' (i + 1) l.length)) Q := fun hD hw =>
   wayRun_sound hT hK hw h hD hcl fun S' D' E' a' w' hv' hcl' h' hD' => vcOps_sound hT hK hl' hv' hcl' h' hD' hQ
  unfold vcOps at hv
  split at hv
  ·rename_i hg
   have hw : Region.wanted o (yielded ops a.tmps) = true := by unfold Region.wanted; rw [hg]
   rw [if_pos hw]
   exact .inl (go hD hv)
  ·rename_i j want hg
   split at hv
   ·cases hv
   ·rename_i d hd
    have wanted : ∀ v : Bool, a.tmps[d]? = some (.bool v) → Region.wanted o (yielded ops a.tmps) = (v == want) := fun v ht => by
     unfold Region.wanted
     rw [hg]
     simp only [yielded, hd, Option.bind_some, ht]
     cases v <;> cases want <;> rfl
    split at hv
    ·rename_i v hf
     have hw := wanted v (hD d v hf)
     split at hv
     ·rename_i he
      rw [he] at hw
      rw [if_pos hw]
      exact .inl (go hD hv)
     ·rename_i he
      rw [he] at hw
      rw [if_neg (by rw [hw]; simp)]
      exact vcOps_sound hT hK hl' hv (dropS_rel hcl h).2 (dropS_rel hcl h).1 hD.drop hQ
    ·split at hv
     ·rename_i b hb
      have hval : a.tmps[d]? = some (.bool b) := by
       unfold boolAt0 at hb
       split at hb
       ·rename_i b' hf
        cases hb
        have hs := h.slots d [] _ hf (noTags a)
        obtain ⟨_, hs⟩ := hs
        have hs : [a.tmps.getD d undef] = [Value.bool b'] := hs
        simp only [List.cons.injEq, and_true] at hs
        rw [Array.getD_eq_getD_getElem?] at hs
        cases hh : a.tmps[d]? with
        | none => rw [hh] at hs; simp [undef] at hs
        | some v => rw [hh] at hs; simpa using hs
       ·cases hb
      have hw := wanted b hval
      by_cases e : b = want
      ·subst e
       rw [if_pos (by rw [hw]; simp)]
       exact .inl (go (hD.put hval) (hv.1 rfl))
      ·have e' : b = !want := by cases b <;> cases want <;> simp at e ⊢
       rw [if_neg (by rw [hw]; simp [e])]
       exact vcOps_sound hT hK hl' (hv.2 e') (dropS_rel hcl h).2 (dropS_rel hcl h).1 (hD.put (e' ▸ hval)).drop hQ
     ·cases hv
theorem vcRegion_sound (hT : TabOk P X.tab) (hK : ∀ f con, X.con f = some con → ConOk P f con) {id : Nat} {ops : Array Oper} {Q : Exit → Act → World → Prop} {k : St → Prop} (hv : vcOps X ops ops.toList S [] k) (hcl : Go.Vc.clean S.sl = true) (h : TRel w0 foot base S E a w)
  (hQ : ∀ S' E' a' w', k S' → TRel w0 foot base S' E' a' w' → Q .normal a' w') : (Code.region id ops false).wp P Q a w := by
 refine wp_region ?_
 rw [List.range_eq_range']
 have := vcOps_sound (Q := Q) hT hK (i := 0) (fun j => by simp) hv (clean_spec hcl) h (fun t v hf => by cases hf) hQ
 simpa using this
end Go.Vc
end

section
set_option linter.unusedVariables false
set_option linter.unusedSimpArgs false
namespace Go.Vc
open Go
variable {P : Program} {X : Ctx} {w0 : World} {foot : Foot} {base : Mem} {S T : St} {E : Env} {a : Act} {w : World} {ctx : Tags}
abbrev Ren := List (Nat × Option Nat)
def Ren.place (r : Ren) (E : Env) (b : Nat) : Option Place :=
 match find r b with
 | none => none
 | some none => some ⟨true, 0, 0, 0⟩
 | some (some m) => E.place m
def Ren.env (r : Ren) (E : Env) : Env := { E with place := r.place E }
def bindId (r : Ren) (b : Nat) (n : Nat) : Option Ren :=
 match find r b with
 | none => some ((b, some n) :: r)
 | some (some m) => (match Nat.beq m n with
  | true => some r
  | false => none)
 | some none => none
def bindNil (r : Ren) (b : Nat) : Option Ren :=
 match find r b with
 | none => some ((b, none) :: r)
 | _ => none
def Ren.Ext (r s : Ren) : Prop := ∀ b u, find r b = some u → find s b = some u
theorem Ren.Ext.refl (r : Ren) : r.Ext r := fun _ _ h => h
theorem Ren.Ext.trans {r s t : Ren} (h : r.Ext s) (k : s.Ext t) : r.Ext t := fun b u e => k b u (h b u e)
theorem bindId_spec {r s : Ren} {b n : Nat} (h : bindId r b n = some s) : r.Ext s ∧ find s b = some (some n) := by
 unfold bindId at h
 split at h
 ·rename_i hf
  cases h
  refine ⟨fun c u hc => ?_, by simp [find]⟩
  rw [find_skip]
  ·exact hc
  ·rintro rfl; rw [hf] at hc; cases hc
 ·rename_i m hf
  split at h
  ·rename_i hb
   cases h
   have := Nat.eq_of_beq_eq_true hb
   subst this
   exact ⟨.refl _, hf⟩
  ·cases h
 ·cases h
theorem bindNil_spec {r s : Ren} {b : Nat} (h : bindNil r b = some s) : r.Ext s ∧ find s b = some none := by
 unfold bindNil at h
 split at h
 ·rename_i hf
  cases h
  refine ⟨fun c u hc => ?_, by simp [find]⟩
  rw [find_skip]
  ·exact hc
  ·rintro rfl; rw [hf] at hc; cases hc
 ·cases h
def bindIds (r : Ren) : List Nat → List Nat → Option Ren
 | [], [] => some r
 | b :: bs, n :: ns => match bindId r b n with
  | some s => bindIds s bs ns
  | none => none
 | _, _ => none
theorem bindIds_spec : ∀ {bs ns : List Nat} {r s : Ren}, bindIds r bs ns = some s → r.Ext s ∧ bs.length = ns.length ∧ ∀ (i : Nat) b, bs[i]? = some b → ∃ n, ns[i]? = some n ∧ find s b = some (some n)
 | [], [], r, s, h => by cases h; exact ⟨.refl _, rfl, fun i b hb => by simp at hb⟩
 | b :: bs, n :: ns, r, s, h => by
  unfold bindIds at h
  split at h
  ·rename_i s1 h1
   obtain ⟨g1, g2, g3⟩ := bindIds_spec h
   obtain ⟨k1, k2⟩ := bindId_spec h1
   refine ⟨k1.trans g1, by simp [g2], fun i b' hb => ?_⟩
   cases i with
   | zero => simp at hb; subst hb; exact ⟨n, rfl, g1 _ _ k2⟩
   | succ i => simpa using g3 i b' (by simpa using hb)
  ·cases h
 | [], _ :: _, _, _, h => by cases h
 | _ :: _, [], _, _, h => by cases h
def matchC (r : Ren) : C → C → Option (Ren × List Prop)
 | .dat t x, .dat t' y => (Ty.as t y).map fun y' => (r, [x = y'])
 | .dat (.list t) xs, .nilsl => some (r, [Ty.L xs = []])
 | .row t b, .row t' b' => (match t.beq t' with
  | true => (bindId r b b').map fun s => (s, [])
  | false => none)
 | .row t b, .nilsl => (bindNil r b).map fun s => (s, [])
 | .ptr b o, .ptr b' o' => (match Nat.beq o o' with
  | true => (bindId r b b').map fun s => (s, [])
  | false => none)
 | .sub t b lo len, .sub t' b' lo' len' => (match t.beq t' with
  | true => (bindId r b b').map fun s => (s, [lo = lo', len = len'])
  | false => none)
 | .rptr t b i o, .rptr t' b' i' o' => (match t.beq t' && Nat.beq o o' with
  | true => (bindId r b b').map fun s => (s, [i = i'])
  | false => none)
 | .elt t xs i o, .elt t' ys j o' => (match Nat.beq o o' with
  | true => (Ty.as (a := .list t') (.list t) (lit ys)).map fun ys' => (r, [xs = Ty.L ys', i = j])
  | false => none)
 | .nilsl, .nilsl => some (r, [])
 | .nilptr, .nilptr => some (r, [])
 | .map _ _ b, .map _ _ b' => (bindId r b b').map fun s => (s, [])
 | .nilmap, .nilmap => some (r, [])
 | .dat (.map _ _) m, .nilmap => some (r, [Ty.M m = []])
 | .mclo k bs, .mclo k' bs' => (match Nat.beq k k' with
  | true => (bindIds r bs bs').map fun s => (s, [])
  | false => none)
 | _, _ => none
theorem matchC_ext {r s : Ren} {c d : C} {ps : List Prop} (h : matchC r c d = some (s, ps)) : r.Ext s := by
 unfold matchC at h
 split at h
 ·obtain ⟨y, _, e⟩ := Option.map_eq_some_iff.1 h
  cases e
  exact .refl _
 ·cases h; exact .refl _
 ·split at h
  ·obtain ⟨y, h1, e⟩ := Option.map_eq_some_iff.1 h
   cases e
   exact (bindId_spec h1).1
  ·cases h
 ·obtain ⟨y, h1, e⟩ := Option.map_eq_some_iff.1 h
  cases e
  exact (bindNil_spec h1).1
 ·split at h
  ·obtain ⟨y, h1, e⟩ := Option.map_eq_some_iff.1 h
   cases e
   exact (bindId_spec h1).1
  ·cases h
 ·split at h
  ·obtain ⟨y, h1, e⟩ := Option.map_eq_some_iff.1 h
   cases e
   exact (bindId_spec h1).1
  ·cases h
 ·split at h
  ·obtain ⟨y, h1, e⟩ := Option.map_eq_some_iff.1 h
   cases e
   exact (bindId_spec h1).1
  ·cases h
 ·split at h
  ·obtain ⟨y, h1, e⟩ := Option.map_eq_some_iff.1 h
   cases e
   exact .refl _
  ·cases h
 ·cases h; exact .refl _
 ·cases h; exact .refl _
 ·obtain ⟨y, h1, e⟩ := Option.map_eq_some_iff.1 h
  cases e
  exact (bindId_spec h1).1
 ·cases h; exact .refl _
 ·cases h; exact .refl _
 ·split at h
  ·obtain ⟨y, h1, e⟩ := Option.map_eq_some_iff.1 h
   cases e
   exact (bindIds_spec h1).1
  ·cases h
 ·cases h
theorem matchC_rep {r s f : Ren} {c d : C} {ps : List Prop} {v : Value} (h : matchC r c d = some (s, ps)) (hs : s.Ext f) (hp : ∀ p ∈ ps, p) (hv : CRep E d v) : CRep (f.env E) c v := by
 have pl : ∀ {b n p}, find s b = some (some n) → E.place n = some p → (f.env E).place b = some p := fun {b n p} hb hn => by
  show f.place E b = _
  unfold Ren.place
  rw [hs _ _ hb]
  exact hn
 unfold matchC at h
 split at h
 ·obtain ⟨y, h1, e⟩ := Option.map_eq_some_iff.1 h
  cases e
  have := hp _ (List.mem_singleton.2 rfl)
  subst this
  obtain ⟨ee, rfl⟩ := Ty.as_some h1
  subst ee
  exact hv
 ·cases h
  have := hp _ (List.mem_singleton.2 rfl)
  have hv : v = _ := hv
  subst hv
  refine ⟨rfl, none, 0, ?_, ?_, by simp [maxLenI], fun _ => rfl, fun p hp => by cases hp⟩
  ·rw [this]; rfl
  ·rw [this]; exact Nat.le_refl _
 ·split at h
  ·rename_i hb
   obtain ⟨y, h1, e⟩ := Option.map_eq_some_iff.1 h
   cases e
   obtain ⟨p, hpl, k⟩ := hv
   exact ⟨p, pl (bindId_spec h1).2 hpl, k⟩
  ·cases h
 ·obtain ⟨y, h1, e⟩ := Option.map_eq_some_iff.1 h
  cases e
  have hv : v = _ := hv
  refine ⟨⟨true, 0, 0, 0⟩, ?_, .inl ⟨rfl, hv, rfl⟩⟩
  show f.place E _ = _
  unfold Ren.place
  rw [hs _ _ (bindNil_spec h1).2]
 ·split at h
  ·rename_i hb
   obtain ⟨y, h1, e⟩ := Option.map_eq_some_iff.1 h
   cases e
   have := Nat.eq_of_beq_eq_true hb
   subst this
   obtain ⟨p, hpl, k⟩ := hv
   exact ⟨p, pl (bindId_spec h1).2 hpl, k⟩
  ·cases h
 ·split at h
  ·rename_i hb
   obtain ⟨y, h1, e⟩ := Option.map_eq_some_iff.1 h
   cases e
   have e1 := hp _ (List.mem_cons_self)
   have e2 := hp _ (List.mem_cons_of_mem _ List.mem_cons_self)
   subst e1 e2
   have := Ty.beq_eq hb
   subst this
   obtain ⟨p, hpl, k⟩ := hv
   exact ⟨p, pl (bindId_spec h1).2 hpl, k⟩
  ·cases h
 ·split at h
  ·rename_i hb
   simp only [Bool.and_eq_true] at hb
   obtain ⟨y, h1, e⟩ := Option.map_eq_some_iff.1 h
   cases e
   have e1 := hp _ (List.mem_cons_self)
   subst e1
   have := Ty.beq_eq hb.1
   subst this
   have := Nat.eq_of_beq_eq_true hb.2
   subst this
   obtain ⟨p, hpl, k⟩ := hv
   exact ⟨p, pl (bindId_spec h1).2 hpl, k⟩
  ·cases h
 ·split at h
  ·rename_i hb
   obtain ⟨y, h1, e⟩ := Option.map_eq_some_iff.1 h
   cases e
   have e1 := hp _ (List.mem_cons_self)
   have e2 := hp _ (List.mem_cons_of_mem _ List.mem_cons_self)
   subst e2
   have := Nat.eq_of_beq_eq_true hb
   subst this
   obtain ⟨ee, rfl⟩ := Ty.as_some h1
   cases ee
   have e1 : _ = _ := e1
   subst e1
   exact hv
  ·cases h
 ·exact hv
 ·exact hv
 ·obtain ⟨y, h1, e⟩ := Option.map_eq_some_iff.1 h
  cases e
  obtain ⟨p, hpl, k⟩ := hv
  exact ⟨p, pl (bindId_spec h1).2 hpl, k⟩
 ·exact hv
 ·cases h
  have := hp _ (List.mem_singleton.2 rfl)
  have hv : v = _ := hv
  subst hv
  exact ⟨rfl, none, rfl, fun _ => this, fun n hn => by cases hn⟩
 ·split at h
  ·rename_i hb
   have := Nat.eq_of_beq_eq_true hb
   subst this
   obtain ⟨y, h1, e⟩ := Option.map_eq_some_iff.1 h
   cases e
   obtain ⟨_, g2, g3⟩ := bindIds_spec h1
   obtain ⟨qs, m1, m2, m3⟩ := hv
   refine ⟨qs, by omega, fun i b hi => ?_, m3⟩
   obtain ⟨n, n1, n2⟩ := g3 i b hi
   obtain ⟨p, p1, p2, p3⟩ := m2 i n n1
   exact ⟨p, p1, pl n2 p2, p3⟩
  ·cases h
 ·cases h
def matchCs (r : Ren) : List C → List C → Option (Ren × List Prop)
 | [], [] => some (r, [])
 | c :: cs, d :: ds => match matchC r c d with
  | none => none
  | some (s, ps) => (match matchCs s cs ds with
   | none => none
   | some (t, qs) => some (t, ps ++ qs))
 | _, _ => none
theorem matchCs_ext : ∀ {cs ds : List C} {r s : Ren} {ps : List Prop}, matchCs r cs ds = some (s, ps) → r.Ext s
 | [], [], r, s, ps, h => by cases h; exact .refl _
 | c :: cs, d :: ds, r, s, ps, h => by
  unfold matchCs at h
  split at h
  ·cases h
  ·rename_i s1 p1 h1
   split at h
   ·cases h
   ·rename_i t qs h2
    cases h
    exact (matchC_ext h1).trans (matchCs_ext h2)
 | [], _ :: _, _, _, _, h => by cases h
 | _ :: _, [], _, _, _, h => by cases h
theorem matchCs_rep {f : Ren} : ∀ {cs ds : List C} {r s : Ren} {ps : List Prop} {vs : List Value}, matchCs r cs ds = some (s, ps) → s.Ext f → (∀ p ∈ ps, p) → CReps E ds vs → CReps (f.env E) cs vs
 | [], [], r, s, ps, vs, h, _, _, hv => hv
 | c :: cs, d :: ds, r, s, ps, vs, h, hs, hp, hv => by
  unfold matchCs at h
  split at h
  ·cases h
  ·rename_i s1 p1 h1
   split at h
   ·cases h
   ·rename_i t qs h2
    cases h
    obtain ⟨v, us, rfl, k1, k2⟩ := hv
    exact ⟨v, us, rfl, matchC_rep h1 ((matchCs_ext h2).trans hs) (fun p hm => hp p (List.mem_append_left _ hm)) k1, matchCs_rep h2 hs (fun p hm => hp p (List.mem_append_right _ hm)) k2⟩
 | [], _ :: _, _, _, _, _, h, _, _, _ => by cases h
 | _ :: _, [], _, _, _, _, h, _, _, _ => by cases h
def matchSV (r : Ren) : SV → SV → Option (Ren × List Prop)
 | .one c, .one d => matchC r c d
 | .agg cs, .agg ds => matchCs r cs ds
 | _, _ => none
theorem matchSV_ext {r s : Ren} {u v : SV} {ps : List Prop} (h : matchSV r u v = some (s, ps)) : r.Ext s := by
 unfold matchSV at h
 split at h
 ·exact matchC_ext h
 ·exact matchCs_ext h
 ·cases h
theorem matchSV_rep {r s f : Ren} {u v : SV} {ps : List Prop} {x : Value} (h : matchSV r u v = some (s, ps)) (hs : s.Ext f) (hp : ∀ p ∈ ps, p) (hv : SRep E v x) : SRep (f.env E) u x := by
 unfold matchSV at h
 split at h
 ·exact matchC_rep h hs hp hv
 ·obtain ⟨vs, rfl, k⟩ := hv; exact ⟨vs, rfl, matchCs_rep h hs hp k⟩
 ·cases h
def matchSl (S : St) (r : Ren) : List (Nat × (Tags × SV)) → Option (Ren × List Prop)
 | [] => some (r, [])
 | (n, [], v) :: l => (match find S.sl n with
  | some ([], u) => (match matchSV r v u with
   | none => none
   | some (s, ps) => (match matchSl S s l with
    | none => none
    | some (t, qs) => some (t, ps ++ qs)))
  | _ => none)
 | _ :: _ => none
theorem matchSl_ext : ∀ {l : List (Nat × (Tags × SV))} {r s : Ren} {ps : List Prop}, matchSl S r l = some (s, ps) → r.Ext s
 | [], r, s, ps, h => by cases h; exact .refl _
 | (n, [], v) :: l, r, s, ps, h => by
  unfold matchSl at h
  split at h
  ·split at h
   ·cases h
   ·rename_i s1 p1 h1
    split at h
    ·cases h
    ·rename_i t qs h2
     cases h
     exact (matchSV_ext h1).trans (matchSl_ext h2)
  ·cases h
 | (_, _ :: _, _) :: _, _, _, _, h => by cases h
theorem matchSl_rep {f : Ren} (hS : TRel w0 foot base S E a w) : ∀ {l : List (Nat × (Tags × SV))} {r s : Ren} {ps : List Prop}, matchSl S r l = some (s, ps) → s.Ext f → (∀ p ∈ ps, p) →
  ∀ n ts v, find l n = some (ts, v) → ts = [] ∧ SRep (f.env E) v (a.tmps.getD n undef)
 | [], r, s, ps, _, _, _, n, ts, v, hf => by cases hf
 | (m, [], u) :: l, r, s, ps, h, hs, hp, n, ts, v, hf => by
  unfold matchSl at h
  split at h
  ·rename_i u' hu
   split at h
   ·cases h
   ·rename_i s1 p1 h1
    split at h
    ·cases h
    ·rename_i t qs h2
     cases h
     by_cases e : m = n
     ·subst e
      have : some (([] : Tags), u) = some (ts, v) := by simpa [find] using hf
      cases this
      exact ⟨rfl, matchSV_rep h1 ((matchSl_ext h2).trans hs) (fun p hm => hp p (List.mem_append_left _ hm)) (hS.slots m [] u' hu (fun t ht => by cases ht))⟩
     ·rw [find_skip e] at hf
      exact matchSl_rep hS h2 hs (fun p hm => hp p (List.mem_append_right _ hm)) n ts v hf
  ·cases h
 | (_, _ :: _, _) :: _, _, _, _, h, _, _, _, _, _, _ => by cases h
def matchBlk (r : Ren) : Blk → Blk → Option (Ren × List Prop)
 | .cells cs, .cells ds => matchCs r cs ds
 | .row fro e t xs, .row fro' e' t' ys => (match fro == fro' && Nat.beq e e' with
  | true => (Ty.as (a := .list t') (.list t) (lit ys)).map fun ys' => (r, [xs = Ty.L ys'])
  | false => none)
 | .fcells t x, .fcells t' y => (Ty.as (a := t') t y).map fun y' => (r, [x = y'])
 | .map fro k v m none, .map fro' k' v' m' _ => (match fro == fro' with
  | true => (Ty.as (a := .map k' v') (.map k v) m').map fun n => (r, [m = Ty.M n])
  | false => none)
 | .iter k v m none, .iter k' v' m' _ => (Ty.as (a := .map k' v') (.map k v) m').map fun n => (r, [m = Ty.M n])
 | _, _ => none
theorem matchBlk_ext {r s : Ren} {B B' : Blk} {ps : List Prop} (h : matchBlk r B B' = some (s, ps)) : r.Ext s := by
 unfold matchBlk at h
 split at h
 ·exact matchCs_ext h
 ·split at h
  ·obtain ⟨y, _, e⟩ := Option.map_eq_some_iff.1 h
   cases e
   exact .refl _
  ·cases h
 ·obtain ⟨y, _, e⟩ := Option.map_eq_some_iff.1 h
  cases e
  exact .refl _
 ·split at h
  ·obtain ⟨y, _, e⟩ := Option.map_eq_some_iff.1 h
   cases e
   exact .refl _
  ·cases h
 ·obtain ⟨y, _, e⟩ := Option.map_eq_some_iff.1 h
  cases e
  exact .refl _
 ·cases h
theorem matchBlk_rep {r s f : Ren} {B B' : Blk} {ps : List Prop} {p : Place} (h : matchBlk r B B' = some (s, ps)) (hs : s.Ext f) (hp : ∀ p ∈ ps, p) (hv : BRep E w p B') : BRep (f.env E) w p B ∧ B.mut = B'.mut := by
 unfold matchBlk at h
 split at h
 ·obtain ⟨h0, vs, e, k1, k2⟩ := hv
  exact ⟨⟨h0, vs, e, k1, matchCs_rep h hs hp k2⟩, rfl⟩
 ·split at h
  ·rename_i hb
   simp only [Bool.and_eq_true, beq_iff_eq] at hb
   obtain ⟨ys', h1, e⟩ := Option.map_eq_some_iff.1 h
   cases e
   have hx := hp _ (List.mem_singleton.2 rfl)
   obtain ⟨h2, h3⟩ := hb
   have h3 := Nat.eq_of_beq_eq_true h3
   subst h2 h3
   obtain ⟨ee, rfl⟩ := Ty.as_some h1
   cases ee
   have hx : _ = _ := hx
   subst hx
   exact ⟨hv, rfl⟩
  ·cases h
 ·obtain ⟨y', h1, e⟩ := Option.map_eq_some_iff.1 h
  cases e
  have hx := hp _ (List.mem_singleton.2 rfl)
  obtain ⟨ee, rfl⟩ := Ty.as_some h1
  subst ee
  have hx : _ = _ := hx
  subst hx
  exact ⟨hv, rfl⟩
 ·split at h
  ·rename_i hb
   simp only [beq_iff_eq] at hb
   obtain ⟨n, h1, e⟩ := Option.map_eq_some_iff.1 h
   cases e
   have hx := hp _ (List.mem_singleton.2 rfl)
   subst hb
   obtain ⟨ee, rfl⟩ := Ty.as_some h1
   cases ee
   have hx : _ = _ := hx
   subst hx
   obtain ⟨h0, es, cl, k1, k2, k3, k4⟩ := hv
   exact ⟨⟨h0, es, cl, k1, k2, k3, fun _ _ h => by cases h⟩, rfl⟩
  ·cases h
 ·obtain ⟨n, h1, e⟩ := Option.map_eq_some_iff.1 h
  cases e
  have hx := hp _ (List.mem_singleton.2 rfl)
  obtain ⟨ee, rfl⟩ := Ty.as_some h1
  cases ee
  have hx : _ = _ := hx
  subst hx
  obtain ⟨h0, mo, si, se, la, k1, k2⟩ := hv
  refine ⟨⟨h0, mo, si, se, la, k1, ?_⟩, rfl⟩
  rcases k2 with ⟨k2, k3, _⟩ | ⟨mb, es, cl, les, e1, e2, e3, e4, e5, e6, e7, e8⟩
  ·exact .inl ⟨k2, k3, rfl⟩
  ·exact .inr ⟨mb, es, cl, les, e1, e2, e3, e4, e5, e6, e7, fun x hx => by cases hx⟩
 ·cases h
def matchBl (S : St) (r : Ren) : List (Nat × Blk) → Option (Ren × List Prop)
 | [] => some (r, [])
 | (n, B) :: l => (match find r n with
  | none => none
  | some none => (match B with
   | .row _ _ _ xs => (match matchBl S r l with
    | none => none
    | some (t, qs) => some (t, (xs = []) :: qs))
   | _ => none)
  | some (some m) => (match find S.bl m with
   | none => none
   | some B' => (match matchBlk r B B' with
    | none => none
    | some (s, ps) => (match matchBl S s l with
     | none => none
     | some (t, qs) => some (t, ps ++ qs)))))
theorem matchBl_ext : ∀ {l : List (Nat × Blk)} {r s : Ren} {ps : List Prop}, matchBl S r l = some (s, ps) → r.Ext s
 | [], r, s, ps, h => by cases h; exact .refl _
 | (n, B) :: l, r, s, ps, h => by
  unfold matchBl at h
  split at h
  ·cases h
  ·split at h
   ·split at h
    ·cases h
    ·rename_i t qs h2
     cases h
     exact matchBl_ext h2
   ·cases h
  ·split at h
   ·cases h
   ·split at h
    ·cases h
    ·rename_i s1 p1 h1
     split at h
     ·cases h
     ·rename_i t qs h2
      cases h
      exact (matchBlk_ext h1).trans (matchBl_ext h2)
def Matched (S : St) (f : Ren) (E : Env) (w : World) (n : Nat) (B : Blk) : Prop :=
 (find f n = some none ∧ BRep (f.env E) w ⟨true, 0, 0, 0⟩ B) ∨ ∃ m B', find f n = some (some m) ∧ find S.bl m = some B' ∧ ∀ p, BRep E w p B' → BRep (f.env E) w p B ∧ B.mut = B'.mut
theorem matchBl_rep {f : Ren} : ∀ {l : List (Nat × Blk)} {r s : Ren} {ps : List Prop}, matchBl S r l = some (s, ps) → s.Ext f → (∀ p ∈ ps, p) → ∀ n B, find l n = some B → Matched S f E w n B
 | [], r, s, ps, _, _, _, n, B, hf => by cases hf
 | (m, B) :: l, r, s, ps, h, hs, hp, n, D, hf => by
  unfold matchBl at h
  split at h
  ·cases h
  ·rename_i hr
   split at h
   ·rename_i fro el t xs
    split at h
    ·cases h
    ·rename_i t' qs h2
     cases h
     by_cases e : m = n
     ·subst e
      have : some (Blk.row fro el t xs) = some D := by simpa [find] using hf
      cases this
      have hx := hp _ List.mem_cons_self
      have hx : xs = [] := hx
      exact .inl ⟨hs _ _ (matchBl_ext h2 _ _ hr), .inl ⟨rfl, hx, rfl⟩⟩
     ·rw [find_skip e] at hf
      exact matchBl_rep h2 hs (fun p hm => hp p (List.mem_cons_of_mem _ hm)) n D hf
   ·cases h
  ·rename_i k hr
   split at h
   ·cases h
   ·rename_i B' hB'
    split at h
    ·cases h
    ·rename_i s1 p1 h1
     split at h
     ·cases h
     ·rename_i t qs h2
      cases h
      have hs1 := (matchBl_ext h2).trans hs
      by_cases e : m = n
      ·subst e
       have : some B = some D := by simpa [find] using hf
       cases this
       exact .inr ⟨k, B', hs1 _ _ (matchBlk_ext h1 _ _ hr), hB', fun p hv => matchBlk_rep h1 hs1 (fun p hm => hp p (List.mem_append_left _ hm)) hv⟩
      ·rw [find_skip e] at hf
       exact matchBl_rep h2 hs (fun p hm => hp p (List.mem_append_right _ hm)) n D hf
def idRen (S : St) : List (Nat × Blk) → Ren
 | [] => []
 | (n, _) :: l => match find S.bl n with
  | some _ => (n, some n) :: idRen S l
  | none => idRen S l
def renOk (T : St) : Ren → List Nat → Bool
 | [], _ => true
 | (n, none) :: l, seen => has T.used n && renOk T l seen
 | (n, some m) :: l, seen => has T.used n && (!has seen m && renOk T l (m :: seen))
def renKeys (r : Ren) : Bool :=
 match r with
 | [] => true
 | (n, _) :: l => (match find l n with
  | some _ => false
  | none => true) && renKeys l
theorem renOk_used : ∀ {r : Ren} {seen : List Nat}, renOk T r seen = true → ∀ n u, find r n = some u → n ∈ T.used
 | [], _, _, n, u, h => by cases h
 | (m, none) :: l, seen, hr, n, u, h => by
  simp only [renOk, Bool.and_eq_true] at hr
  by_cases e : m = n
  ·exact e ▸ has_mem.1 hr.1
  ·rw [find_skip e] at h; exact renOk_used hr.2 n u h
 | (m, some k) :: l, seen, hr, n, u, h => by
  simp only [renOk, Bool.and_eq_true] at hr
  by_cases e : m = n
  ·exact e ▸ has_mem.1 hr.1
  ·rw [find_skip e] at h; exact renOk_used hr.2.2 n u h
theorem renOk_seen : ∀ {r : Ren} {seen : List Nat}, renOk T r seen = true → ∀ n m, find r n = some (some m) → m ∉ seen
 | [], _, _, n, m, h => by cases h
 | (k, none) :: l, seen, hr, n, m, h => by
  simp only [renOk, Bool.and_eq_true] at hr
  by_cases e : k = n
  ·subst e; simp [find] at h
  ·rw [find_skip e] at h; exact renOk_seen hr.2 n m h
 | (k, some j) :: l, seen, hr, n, m, h => by
  simp only [renOk, Bool.and_eq_true, Bool.not_eq_true'] at hr
  by_cases e : k = n
  ·subst e
   have : j = m := by simpa [find] using h
   subst this
   intro hm
   rw [has_mem.2 hm] at hr
   cases hr.2.1
  ·rw [find_skip e] at h
   exact fun hm => renOk_seen hr.2.2 n m h (List.mem_cons_of_mem _ hm)
theorem renOk_inj : ∀ {r : Ren} {seen : List Nat}, renOk T r seen = true → ∀ n n' m, find r n = some (some m) → find r n' = some (some m) → n = n'
 | [], _, _, n, n', m, h, _ => by cases h
 | (k, none) :: l, seen, hr, n, n', m, h, h' => by
  simp only [renOk, Bool.and_eq_true] at hr
  by_cases e : k = n
  ·subst e; simp [find] at h
  ·by_cases e' : k = n'
   ·subst e'; simp [find] at h'
   ·rw [find_skip e] at h; rw [find_skip e'] at h'
    exact renOk_inj hr.2 n n' m h h'
 | (k, some j) :: l, seen, hr, n, n', m, h, h' => by
  simp only [renOk, Bool.and_eq_true] at hr
  by_cases e : k = n
  ·by_cases e' : k = n'
   ·exact e.symm.trans e'
   ·rw [find_skip e'] at h'
    subst e
    have : j = m := by simpa [find] using h
    subst this
    exact absurd List.mem_cons_self (renOk_seen hr.2.2 n' j h')
  ·rw [find_skip e] at h
   by_cases e' : k = n'
   ·subst e'
    have : j = m := by simpa [find] using h'
    subst this
    exact absurd List.mem_cons_self (renOk_seen hr.2.2 n j h)
   ·rw [find_skip e'] at h'
    exact renOk_inj hr.2.2 n n' m h h'
def pinOk (r : Ren) : List Nat → Bool
 | [] => true
 | n :: l => (match find r n with
  | some (some m) => Nat.beq n m
  | _ => false) && pinOk r l
theorem pinOk_spec {r : Ren} : ∀ {l : List Nat}, pinOk r l = true → ∀ n ∈ l, find r n = some (some n)
 | [], _, n, hn => by cases hn
 | m :: l, h, n, hn => by
  simp only [pinOk, Bool.and_eq_true] at h
  rcases List.mem_cons.1 hn with rfl | hn
  ·have h1 := h.1
   split at h1
   ·rename_i k hk
    rw [hk, Nat.eq_of_beq_eq_true h1]
   ·cases h1
  ·exact pinOk_spec h.2 n hn
def withPins (s : Ren) : List Nat → Ren
 | [] => s
 | n :: l => match find s n with
  | some _ => withPins s l
  | none => (n, some n) :: withPins s l
theorem withPins_ext (s : Ren) : ∀ l, s.Ext (withPins s l)
 | [] => .refl _
 | n :: l => by
  unfold withPins
  split
  ·exact withPins_ext s l
  ·rename_i hf
   intro k u hk
   rw [find_skip]
   ·exact withPins_ext s l k u hk
   ·rintro rfl; rw [hf] at hk; cases hk
theorem withPins_keys (s : Ren) : ∀ {l : List Nat} {n : Nat} {u : Option Nat}, find (withPins s l) n = some u → find s n = some u ∨ n ∈ l
 | [], n, u, h => .inl h
 | m :: l, n, u, h => by
  unfold withPins at h
  split at h
  ·exact (withPins_keys s h).imp_right (List.mem_cons_of_mem _)
  ·by_cases e : m = n
   ·exact .inr (e ▸ List.mem_cons_self)
   ·rw [find_skip e] at h
    exact (withPins_keys s h).imp_right (List.mem_cons_of_mem _)
def allHas (u : List Nat) : List Nat → Bool
 | [] => true
 | n :: l => has u n && allHas u l
theorem allHas_mem {u : List Nat} : ∀ {l : List Nat}, allHas u l = true → ∀ n ∈ l, n ∈ u
 | [], _, n, hn => by cases hn
 | m :: l, h, n, hn => by
  simp only [allHas, Bool.and_eq_true] at h
  rcases List.mem_cons.1 hn with rfl | hn
  ·exact has_mem.1 h.1
  ·exact allHas_mem h.2 n hn
def matchIn (r0 : Ren) (S T : St) : Option (List Prop) :=
 match matchSl S r0 T.sl with
 | none => none
 | some (r, ps) => match matchBl S r T.bl with
  | none => none
  | some (s, qs) => match renOk T s [] && (Nat.beq S.n T.n && (natsEq S.pin T.pin && (allHas T.used T.pin && pinOk (withPins s T.pin) T.pin))) with
   | true => some (ps ++ qs)
   | false => none
def matchSt (S T : St) : Option (List Prop) :=
 match matchIn (idRen S T.bl) S T with
 | some ps => some ps
 | none => matchIn [] S T
theorem matchIn_sound {r0 : Ren} {cs : List Prop} (hm : matchIn r0 S T = some cs) (h : TRel w0 foot base S E a w) (hc : ∀ p ∈ cs, p) : ∃ E', TRel w0 foot base T E' a w := by
 unfold matchIn at hm
 split at hm
 ·cases hm
 ·rename_i r ps h1
  split at hm
  ·cases hm
  ·rename_i s qs h2
   split at hm
   ·rename_i hb
    cases hm
    simp only [Bool.and_eq_true] at hb
    have hs1 := matchBl_ext h2
    have hps : ∀ p ∈ ps, p := fun p hp => hc p (List.mem_append_left _ hp)
    have hqs : ∀ p ∈ qs, p := fun p hp => hc p (List.mem_append_right _ hp)
    have hext := withPins_ext s T.pin
    have hbl0 : ∀ n B, find T.bl n = some B → Matched S s E w n B := matchBl_rep h2 (.refl _) hqs
    have hren := hb.1
    have hused : ∀ n u, find (withPins s T.pin) n = some u → n ∈ T.used := fun n u hn => by
     rcases withPins_keys s hn with h | h
     ·exact renOk_used hren n u h
     ·exact allHas_mem hb.2.2.2.1 n h
    have hbl : ∀ n B, find T.bl n = some B → Matched S (withPins s T.pin) E w n B := matchBl_rep h2 hext hqs
    have hsl := matchSl_rep (f := withPins s T.pin) h h1 (hs1.trans hext) hps
    have hinj : ∀ n n' B B' m, find T.bl n = some B → find T.bl n' = some B' → find (withPins s T.pin) n = some (some m) → find (withPins s T.pin) n' = some (some m) → n = n' := fun n n' B B' m hB hB' hm hm' => by
     have g : ∀ {k D}, find T.bl k = some D → find (withPins s T.pin) k = some (some m) → find s k = some (some m) := fun {k D} hD hk => by
      rcases hbl0 k D hD with ⟨hf1, _⟩ | ⟨m', _, hf1, _⟩
      ·rw [hext _ _ hf1] at hk; cases hk
      ·rw [hext _ _ hf1] at hk; cases hk; exact hf1
     exact renOk_inj hren n n' m (g hB hm) (g hB' hm')
    clear hext hbl0 hs1
    generalize withPins s T.pin = s at *
    have hplace : ∀ n m, find s n = some (some m) → (s.env E).place n = E.place m := fun n m hf => by
     show s.place E n = _
     unfold Ren.place
     rw [hf]
    have hnil : ∀ n, find s n = some none → (s.env E).place n = some ⟨true, 0, 0, 0⟩ := fun n hf => by
     show s.place E n = _
     unfold Ren.place
     rw [hf]
    have back : ∀ n B p, find T.bl n = some B → (s.env E).place n = some p → p.nil = false → ∃ m B', find s n = some (some m) ∧ find S.bl m = some B' ∧ E.place m = some p ∧ BRep E w p B' ∧ B.mut = B'.mut := fun n B p hf hp hn => by
     rcases hbl n B hf with ⟨hf1, _⟩ | ⟨m, B', hf1, hf2, hto⟩
     ·rw [hnil n hf1] at hp; cases hp; cases hn
     ·rw [hplace n m hf1] at hp
      obtain ⟨q, hq, k⟩ := h.blks m B' hf2
      rw [hp] at hq
      cases hq
      exact ⟨m, B', hf1, hf2, hp, k, (hto p k).2⟩
    refine ⟨s.env E, { keep := h.keep, frz := h.frz, src := h.src, blks := fun n B hf => ?_, own := fun n B p hf hp hpn => ?_, inj := fun n n' B B' p p' hf hf' hp hp' hpn hpn' hne => ?_, used := fun n p hp => ?_, slots := fun n ts v hf ht => (hsl n ts v hf).2, size := ?_, defers := h.defers, pins := fun n p hp => ?_, untagged := fun n ts v hf ht => ?_ }⟩
    ·rcases hbl n B hf with ⟨hf1, hB⟩ | ⟨m, B', hf1, hf2, hto⟩
     ·exact ⟨_, hnil n hf1, hB⟩
     ·obtain ⟨q, hq, k⟩ := h.blks m B' hf2
      exact ⟨q, (hplace n m hf1).trans hq, (hto q k).1⟩
    ·obtain ⟨m, B', hf1, hf2, hpl, k, hmut⟩ := back n B p hf hp hpn
     have := h.own m B' p hf2 hpl hpn
     exact ⟨this.1, fun hm => this.2 (hmut ▸ hm)⟩
    ·obtain ⟨m, D, hf1, hf2, hpl, _, _⟩ := back n B p hf hp hpn
     obtain ⟨m', D', hf1', hf2', hpl', _, _⟩ := back n' B' p' hf' hp' hpn'
     refine h.inj m m' D D' p p' hf2 hf2' hpl hpl' hpn hpn' fun e => hne ?_
     subst e
     exact hinj n n' B B' m hf hf' hf1 hf1'
    ·have hp : s.place E n = some p := hp
     unfold Ren.place at hp
     split at hp
     ·cases hp
     ·rename_i hf; exact hused n _ hf
     ·rename_i m hf; exact hused n _ hf
    ·exact h.size.trans (Nat.eq_of_beq_eq_true hb.2.1)
    ·obtain ⟨g1, g2⟩ := h.pins n p hp
     rw [natsEq_eq hb.2.2.1] at g1
     exact ⟨g1, (hplace n n (pinOk_spec hb.2.2.2.2 n g1)).trans g2⟩
    ·have := (hsl n ts v hf).1
     subst this
     exact absurd (fun t ht => by cases ht) ht
   ·cases hm
theorem matchSt_sound {cs : List Prop} (hm : matchSt S T = some cs) (h : TRel w0 foot base S E a w) (hc : ∀ p ∈ cs, p) : ∃ E', TRel w0 foot base T E' a w := by
 unfold matchSt at hm
 split at hm
 ·rename_i ps h1
  cases hm
  exact matchIn_sound h1 h hc
 ·exact matchIn_sound hm h hc
def freeze1 (S : St) (m : Nat) : St :=
 match find S.bl m with
 | some (.row false e t xs) => { S with bl := applyFro [(m, .row true e t xs)] S.bl }
 | some (.map false k v x _) => { S with bl := applyFro [(m, .map true k v x none)] S.bl }
 | _ => S
theorem freeze1_rel (h : TRel w0 foot base S E a w) (m : Nat) : ∃ E', TRel w0 foot base (freeze1 S m) E' a w := by
 unfold freeze1
 split
 ·rename_i e t xs hf
  obtain ⟨E', hle, hpl, _, hR⟩ := h.toHRel.applyFro (FroOk.one (D := .row true e t xs) hf (.inl ⟨_, _, _, _, rfl, rfl⟩))
  exact ⟨E', { toHRel := hR, slots := fun n ts v hs ht => (h.slots n ts v hs ht).mono hle, size := h.size, defers := h.defers, pins := fun n p hp => ⟨(h.pins n p hp).1, by rw [hpl]; exact (h.pins n p hp).2⟩, untagged := h.untagged }⟩
 ·rename_i k v x c hf
  obtain ⟨E', hle, hpl, _, hR⟩ := h.toHRel.applyFro (FroOk.one (D := .map true k v x none) hf (.inr (.inr ⟨_, _, _, _, _, rfl, rfl⟩)))
  exact ⟨E', { toHRel := hR, slots := fun n ts v hs ht => (h.slots n ts v hs ht).mono hle, size := h.size, defers := h.defers, pins := fun n p hp => ⟨(h.pins n p hp).1, by rw [hpl]; exact (h.pins n p hp).2⟩, untagged := h.untagged }⟩
 ·exact ⟨E, h⟩
def freezeAll (S : St) : List Nat → St
 | [] => S
 | m :: l => freezeAll (freeze1 S m) l
theorem freezeAll_rel : ∀ {l : List Nat} {S : St} {E : Env}, TRel w0 foot base S E a w → ∃ E', TRel w0 foot base (freezeAll S l) E' a w
 | [], S, E, h => ⟨E, h⟩
 | m :: l, S, E, h => by
  obtain ⟨E', h'⟩ := freeze1_rel h m
  exact freezeAll_rel (l := l) (S := freeze1 S m) h'
def hasFro : List (Nat × Blk) → Bool
 | [] => false
 | (_, .row true _ _ _) :: _ => true
 | (_, .map true _ _ _ _) :: _ => true
 | _ :: l => hasFro l
def toFreeze (r : Ren) : List (Nat × Blk) → List Nat
 | [] => []
 | (n, .row true _ _ _) :: l => (match find r n with
  | some (some m) => m :: toFreeze r l
  | _ => toFreeze r l)
 | (n, .map true _ _ _ _) :: l => (match find r n with
  | some (some m) => m :: toFreeze r l
  | _ => toFreeze r l)
 | _ :: l => toFreeze r l
def frozenFor (S T : St) : St :=
 match hasFro T.bl with
 | false => S
 | true => (match matchSl S (idRen S T.bl) T.sl with
  | none => S
  | some (r, _) => freezeAll S (toFreeze r T.bl))
theorem frozenFor_rel (h : TRel w0 foot base S E a w) : ∃ E', TRel w0 foot base (frozenFor S T) E' a w := by
 unfold frozenFor
 split
 ·exact ⟨E, h⟩
 ·split
  ·exact ⟨E, h⟩
  ·exact freezeAll_rel h
inductive Ex where
 | normal
 | exit (id : Nat)
 | ret
structure LA where
 σ : Type
 ok : σ → Prop
 mu : σ → Nat
 sl : σ → List (Nat × SV)
 bl : σ → List (Nat × Blk)
 keep : List Nat
 keepB : List Nat
def keepSl (S : St) : List Nat → List (Nat × (Tags × SV))
 | [] => []
 | n :: l => match find S.sl n with
  | some ([], v) => (n, [], v) :: keepSl S l
  | _ => keepSl S l
def keepBl (S : St) : List Nat → List (Nat × Blk)
 | [] => []
 | n :: l => match find S.bl n with
  | some B => (n, B) :: keepBl S l
  | none => keepBl S l
def untag : List (Nat × SV) → List (Nat × (Tags × SV))
 | [] => []
 | (n, v) :: l => (n, [], v) :: untag l
def keysB : List (Nat × Blk) → List Nat
 | [] => []
 | (n, _) :: l => n :: keysB l
def invSt (S : St) (L : LA) (s : L.σ) : St :=
 {sl := untag (L.sl s) ++ keepSl S L.keep
  bl := L.bl s ++ keepBl S L.keepB
  used := keysB (L.bl s ++ keepBl S L.keepB) ++ S.pin
  n := S.n
  pin := S.pin }
structure Ann where
 loop : Nat → Option (St → LA)
 split : Nat → Bool
def headId : Code → Option Nat
 | .region id _ _ => some id
 | .seq a b => (match headId a with
  | some n => some n
  | none => headId b)
 | .cond _ a b => (match headId a with
  | some n => some n
  | none => headId b)
 | .block _ c => headId c
 | .loop c => headId c
 | .scope c => headId c
 | _ => none
def matchP (S T : St) (q : Prop) : Prop :=
 match matchSt (frozenFor S T) T with
 | some cs => conjP cs q
 | none => False
def splitOf (A : Ann) : Operand → Bool
 | .tmp t => A.split t
 | _ => true
def seqPost (k : St → Prop) (Q : Ex → St → Prop) : Ex → St → Prop
 | .normal, S => k S
 | e, S => Q e S
def blockPost (id : Nat) (Q : Ex → St → Prop) : Ex → St → Prop
 | .exit i, S => (match Nat.beq i id with
  | true => Q .normal S
  | false => Q (.exit i) S)
 | e, S => Q e S
def vc (X : Ctx) (A : Ann) : Code → St → (Ex → St → Prop) → Prop
 | .skip, S, Q => Q .normal S
 | .region _ ops draw, S, Q => match region X ops draw S with
  | some (recs, S') => conjP (condsOf recs) (Q .normal S')
  | none => (match !draw && clean S.sl with
   | true => vcOps X ops ops.toList S [] (Q .normal)
   | false => False)
 | .seq x y, S, Q => vc X A x S (seqPost (fun S1 => vc X A y S1 Q) Q)
 | .cond c x y, S, Q => match (match splitOf A c with
   | true => none
   | false => ex X (.cond c x y) S) with
  | some (cs, _, S') => conjP cs (Q .normal S')
  | none => match (do asB (← ev c) : RM Bool).run S [] with
   | some b => (b = true → vc X A x S Q) ∧ (b = false → vc X A y S Q)
   | none => False
 | .block id c, S, Q => vc X A c S (blockPost id Q)
 | .exit id, S, Q => Q (.exit id) S
 | .ret, S, Q => Q .ret S
 | .label _, S, Q => Q .normal S
 | .scope c, S, Q => vc X A c S Q
 | .loop c, S, Q => match (match headId c with
   | some n => A.loop n
   | none => none) with
  | some la => (∃ s0, (la S).ok s0 ∧ matchP S (invSt S (la S) s0) True) ∧
    ∀ s, (la S).ok s → vc X A c (invSt S (la S) s) (seqPost (fun S' => ∃ s', (la S).ok s' ∧ (la S).mu s' < (la S).mu s ∧ matchP S' (invSt S (la S) s') True) Q)
  | none => False
 | _, _, _ => False
def Post (w0 : World) (foot : Foot) (base : Mem) (Q : Ex → St → Prop) : Exit → Act → World → Prop
 | .normal, a, w => ∃ S E, Q .normal S ∧ TRel w0 foot base S E a w
 | .exit id, a, w => ∃ S E, Q (.exit id) S ∧ TRel w0 foot base S E a w
 | .ret, a, w => ∃ S E, Q .ret S ∧ TRel w0 foot base S E a w
 | _, _, _ => False
theorem matchP_sound {q : Prop} (hm : matchP S T q) (h : TRel w0 foot base S E a w) : ∃ E', TRel w0 foot base T E' a w := by
 unfold matchP at hm
 split at hm
 ·rename_i cs hcs
  obtain ⟨E', h'⟩ := frozenFor_rel (T := T) h
  exact matchSt_sound hcs h' (conjP_elim hm).1
 ·cases hm
theorem vc_sound (hT : TabOk P X.tab) (hK : ∀ f con, X.con f = some con → ConOk P f con) {A : Ann} : ∀ {c : Code} {S : St} {Q : Ex → St → Prop} {E : Env} {a : Act} {w : World}, vc X A c S Q → TRel w0 foot base S E a w → c.wp P (Post w0 foot base Q) a w
 | .skip, S, Q, E, a, w, h, hR => wp_skip ⟨S, E, h, hR⟩
 | .label _, S, Q, E, a, w, h, hR => wp_label ⟨S, E, h, hR⟩
 | .exit id, S, Q, E, a, w, h, hR => wp_exit ⟨S, E, h, hR⟩
 | .ret, S, Q, E, a, w, h, hR => wp_ret ⟨S, E, h, hR⟩
 | .region id ops draw, S, Q, E, a, w, h, hR => by
  unfold vc at h
  split at h
  ·rename_i recs S' hr
   exact region_sound hT hK hr hR (conjP_elim h).1 fun E' a' w' h' => ⟨S', E', (conjP_elim h).2, h'⟩
  ·split at h
   ·rename_i hb
    simp only [Bool.and_eq_true, Bool.not_eq_true'] at hb
    obtain ⟨rfl, hcl⟩ := hb
    exact vcRegion_sound hT hK h hcl hR fun S' E' a' w' hq h' => ⟨S', E', hq, h'⟩
   ·cases h
 | .seq x y, S, Q, E, a, w, h, hR => by
  unfold vc at h
  refine wp_seq (wp_mono (vc_sound hT hK h hR) fun e a' w' hp => ?_)
  cases e with
  | normal => obtain ⟨S', E', h1, h2⟩ := hp; exact vc_sound hT hK h1 h2
  | exit id => exact hp
  | ret => exact hp
  | goto l => exact hp
  | panic ch => exact hp
  | outgrown => exact hp
 | .cond c x y, S, Q, E, a, w, h, hR => by
  unfold vc at h
  split at h
  ·rename_i cs ch S' hx
   have hx : ex X (.cond c x y) S = some (cs, ch, S') := by
    split at hx
    ·cases hx
    ·exact hx
   exact (ex_sound hT hK hx).2 hR (conjP_elim h).1 fun E' a' w' h' => ⟨S', E', (conjP_elim h).2, h'⟩
  ·split at h
   ·rename_i b hb
    obtain ⟨s, e1, e2⟩ := RM.run_bind' hb
    have hv := asB_rep (ev_rep hR.toSRel (fun t ht => by cases ht) e1) e2
    exact wp_cond_split hv (fun ht => vc_sound hT hK (h.1 ht) hR) (fun ht => vc_sound hT hK (h.2 ht) hR)
   ·cases h
 | .block id c, S, Q, E, a, w, h, hR => by
  unfold vc at h
  refine wp_block (wp_mono (vc_sound hT hK h hR) fun e a' w' hp => ?_)
  cases e with
  | normal => exact hp
  | exit i =>
   obtain ⟨S', E', h1, h2⟩ := hp
   have h1 : (match Nat.beq i id with | true => Q .normal S' | false => Q (.exit i) S') := h1
   show if i = id then _ else _
   split at h1
   ·rename_i hb
    rw [if_pos (Nat.eq_of_beq_eq_true hb)]
    exact ⟨S', E', h1, h2⟩
   ·rename_i hb
    rw [if_neg (fun e => by subst e; simp at hb)]
    exact ⟨S', E', h1, h2⟩
  | ret => exact hp
  | goto l => exact hp
  | panic ch => exact hp
  | outgrown => exact hp
 | .loop c, S, Q, E, a, w, h, hR => by
  unfold vc at h
  split at h
  ·rename_i la hla
   obtain ⟨⟨s0, k0, k1⟩, k2⟩ := h
   obtain ⟨E0, hE0⟩ := matchP_sound k1 hR
   refine wp_loop_ghost (fun n a w => ∃ s E, (la S).ok s ∧ (la S).mu s = n ∧ TRel w0 foot base (invSt S (la S) s) E a w) _ ⟨s0, E0, k0, rfl, hE0⟩ ?_
   rintro n a1 w1 ⟨s, E1, hs, rfl, h1⟩
   refine wp_mono (vc_sound hT hK (k2 s hs) h1) fun e a' w' hp => ?_
   cases e with
   | normal =>
    obtain ⟨S', E', ⟨s', q1, q2, q3⟩, h2⟩ := hp
    obtain ⟨E'', h3⟩ := matchP_sound q3 h2
    exact ⟨_, q2, s', E'', q1, rfl, h3⟩
   | exit id => exact hp
   | ret => exact hp
   | goto l => exact hp
   | panic ch => exact hp
   | outgrown => exact hp
  ·cases h
 | .scope c, S, Q, E, a, w, h, hR => by
  unfold vc at h
  refine wp_scope_straight (wp_mono (vc_sound hT hK h hR) fun e a' w' hp => ?_)
  cases e with
  | normal => exact hp
  | exit id => exact hp
  | ret => exact hp
  | goto l => cases hp
  | panic ch => cases hp
  | outgrown => cases hp
 | .rangeFunc _ _ _ _, _, _, _, _, _, h, _ => by cases h
 | .goto _, _, _, _, _, _, h, _ => by cases h
end Go.Vc
end

section
set_option linter.unusedVariables false
set_option linter.unusedSimpArgs false
namespace Go.Vc
open Go
variable {P : Program} {X : Ctx} {w0 : World} {foot : Foot} {base : Mem} {S T : St} {E : Env} {a : Act} {w : World} {ctx : Tags}
@[reducible] def Tup (ts : List Ty) : Type := List.rec (motive := fun _ => Type) Unit (fun t _ d => t.den × d) ts
def wfs : (ts : List Ty) → Tup ts → Prop
 | [], _ => True
 | t :: ts, x => t.wf x.1 ∧ wfs ts x.2
inductive Out where
 | data (ts : List Ty)
 | row (e : Nat) (t : Ty)
 | fresh (ts : List Ty)
def Out.tys : Out → List Ty
 | .data ts => ts
 | .row _ t => [.list t]
 | .fresh ts => ts
structure DCon where
 args : List Ty
 out : Out
 pre : Tup args → Prop
 fn : Tup args → Tup out.tys
def VRep (F : Mem) (t : Ty) (x : t.den) (v : Value) : Prop :=
 match t.isAgg with
 | true => ∃ vs, v = .agg vs ∧ Rep F t x vs.toList
 | false => Rep F t x [v]
def VReps (F : Mem) : (ts : List Ty) → Tup ts → List Value → Prop
 | [], _, vs => vs = []
 | t :: ts, x, vs => ∃ v us, vs = v :: us ∧ VRep F t x.1 v ∧ VReps F ts x.2 us
theorem VRep.mono {F F' : Mem} (h : F.le F') {t : Ty} {x : t.den} {v : Value} (k : VRep F t x v) : VRep F' t x v := by
 unfold VRep at *
 split at k
 ·obtain ⟨vs, e, k⟩ := k; exact ⟨vs, e, k.mono h⟩
 ·exact k.mono h
theorem VReps.mono {F F' : Mem} (h : F.le F') : ∀ {ts : List Ty} {x : Tup ts} {vs : List Value}, VReps F ts x vs → VReps F' ts x vs
 | [], _, _, k => k
 | t :: ts, x, vs, k => by
  obtain ⟨v, us, e, k1, k2⟩ := k
  exact ⟨v, us, e, k1.mono h, k2.mono h⟩
theorem VReps.length {F : Mem} : ∀ {ts : List Ty} {x : Tup ts} {vs : List Value}, VReps F ts x vs → vs.length = ts.length
 | [], _, _, k => by have k : _ = _ := k; subst k; rfl
 | t :: ts, x, vs, k => by
  obtain ⟨v, us, e, k1, k2⟩ := k
  subst e
  simp [k2.length]
theorem VRep.wf {F : Mem} {t : Ty} {x : t.den} {v : Value} (k : VRep F t x v) : t.wf x := by
 unfold VRep at k
 split at k
 ·obtain ⟨vs, e, k⟩ := k; exact k.wf
 ·exact k.wf
theorem VReps.wfs {F : Mem} : ∀ {ts : List Ty} {x : Tup ts} {vs : List Value}, VReps F ts x vs → wfs ts x
 | [], _, _, _ => trivial
 | t :: ts, x, vs, k => by
  obtain ⟨v, us, e, k1, k2⟩ := k
  exact ⟨k1.wf, k2.wfs⟩
theorem VRep.krep {F : Mem} {t : Ty} {x : t.den} {v : Value} (k : VRep F t x v) : KRep F t x v := by
 unfold VRep at k
 cases hb : t.isAgg with
 | true =>
  rw [hb] at k
  obtain ⟨vs, e, k⟩ := k
  exact ⟨vs.toList, k, by unfold Ty.valOf; rw [hb, e]⟩
 | false =>
  rw [hb] at k
  exact ⟨[v], k, by unfold Ty.valOf; rw [hb]; rfl⟩
theorem KRep.vrep {F : Mem} {t : Ty} {x : t.den} {v : Value} (k : KRep F t x v) : VRep F t x v := by
 obtain ⟨us, k, e⟩ := k
 unfold Ty.valOf at e
 unfold VRep
 cases hb : t.isAgg with
 | true =>
  rw [hb] at e
  exact ⟨_, e, k⟩
 | false =>
  rw [hb] at e
  have hl := k.length
  have h1 : t.size = 1 := by cases t <;> first | rfl | cases hb
  rw [h1] at hl
  obtain ⟨u, rfl⟩ := List.length_eq_one_iff.1 hl
  rw [show v = u from e]
  exact k
theorem svOf_rep {t : Ty} {x : t.den} {v : Value} (k : VRep E.F t x v) : SRep E (svOf t x) v := k.krep.sv
def reifyArgs : (ts : List Ty) → List SV → RM (Tup ts × Fro)
 | [], ss => (match ss with
  | [] => .ret ((), [])
  | _ => .fail)
 | t :: ts, ss => (match ss with
  | [] => .fail
  | s :: ss => do
   let x ← reify t (← asTy t s)
   let y ← reifyArgs ts ss
   guardR (froApart x.2 y.2)
   return ((x.1, y.1), x.2 ++ y.2))
theorem reify_value {t : Ty} {s : SV} {cs : List C} {x : t.den} {fr : Fro} {v : Value} (h1 : (asTy t s).run S ctx = some cs) (h2 : (reify t cs).run S ctx = some (x, fr)) (hv : SRep E s v) (hf : Frozen S.bl E w fr) : VRep E.F t x v :=
 (asTy_krep h1 h2 hv hf).vrep
theorem reifyArgs_froOk : ∀ {ts : List Ty} {ss : List SV} {x : Tup ts} {fr : Fro}, (reifyArgs ts ss).run S ctx = some (x, fr) → FroOk S.bl fr
 | [], ss, x, fr, h => by
  unfold reifyArgs at h
  split at h
  ·cases h; exact .nil
  ·cases h
 | t :: ts, ss, x, fr, h => by
  unfold reifyArgs at h
  split at h
  ·cases h
  ·rename_i s ss'
   obtain ⟨cs, h1, h⟩ := RM.run_bind' h
   obtain ⟨y, h2, h⟩ := RM.run_bind' h
   obtain ⟨z, h3, h⟩ := RM.run_bind' h
   obtain ⟨_, h4, h⟩ := RM.run_bind' h
   cases RM.run_pure' h
   exact (reify_froOk h2).append (reifyArgs_froOk h3) (run_guardR h4)
theorem reifyArgs_rep : ∀ {ts : List Ty} {ss : List SV} {x : Tup ts} {fr : Fro} {vs : List Value}, (reifyArgs ts ss).run S ctx = some (x, fr) → SReps E ss vs → Frozen S.bl E w fr → VReps E.F ts x vs
 | [], ss, x, fr, vs, h, hv, hf => by
  unfold reifyArgs at h
  split at h
  ·cases h; exact hv
  ·cases h
 | t :: ts, ss, x, fr, vs, h, hv, hf => by
  unfold reifyArgs at h
  split at h
  ·cases h
  ·rename_i s ss'
   obtain ⟨cs, h1, h⟩ := RM.run_bind' h
   obtain ⟨y, h2, h⟩ := RM.run_bind' h
   obtain ⟨z, h3, h⟩ := RM.run_bind' h
   obtain ⟨_, h4, h⟩ := RM.run_bind' h
   cases RM.run_pure' h
   obtain ⟨v, us, rfl, k1, k2⟩ := hv
   exact ⟨v, us, rfl, reify_value h1 h2 k1 hf.left, reifyArgs_rep h3 k2 hf.right⟩
def Ty.flatb : Ty → Bool
 | .list _ => false
 | .pair a b => a.flatb && b.flatb
 | .ref _ => false
 | .ptr _ => false
 | .clo _ _ => false
 | .map _ _ => false
 | _ => true
theorem Rep.flatb {F F' : Mem} : ∀ {t : Ty} {x : t.den} {vs : List Value}, t.flatb = true → Rep F t x vs → Rep F' t x vs
 | .int _, _, _, _, h => h
 | .bool, _, _, _, h => h
 | .str, _, _, _, h => h
 | .list _, _, _, hb, _ => by cases hb
 | .unit, _, _, _, h => h
 | .pair a b, _, _, hb, h => by
  have hb : (a.flatb && b.flatb) = true := hb
  simp only [Bool.and_eq_true] at hb
  obtain ⟨us, ws, h0, h1, h2⟩ := h
  exact ⟨us, ws, h0, Rep.flatb hb.1 h1, Rep.flatb hb.2 h2⟩
def resVal : (ts : List Ty) → Tup ts → List (Bool × List C)
 | [], _ => []
 | t :: ts, x => (t.isAgg, flat t x.1) :: resVal ts x.2
def dataVal (ts : List Ty) (x : Tup ts) : SV :=
 match ts, x with
 | [t], x => svOf t x.1
 | ts, x => .tup (resVal ts x)
def Out.val (id : Nat) : (o : Out) → Tup o.tys → SV
 | .data ts, x => dataVal ts x
 | .row _ t, _ => .one (.row t id)
 | .fresh ts, x => dataVal ts x
def Out.bl (id : Nat) : (o : Out) → Tup o.tys → List (Nat × Blk)
 | .data _, _ => []
 | .row e t, x => [(id, .row false e t x.1)]
 | .fresh _, _ => []
def Out.new (id : Nat) : Out → List Nat
 | .data _ => []
 | .row _ _ => [id]
 | .fresh _ => []
def Out.free : Out → Bool
 | .data ts => ts.all Ty.flatb
 | .row _ t => t.flatb
 | .fresh _ => true
def Out.isFresh : Out → Bool
 | .fresh _ => true
 | _ => false
def RepOut (F : Mem) (ts : List Ty) (x : Tup ts) (v : Value) : Prop :=
 match ts, x with
 | [t], x => VRep F t x.1 v
 | ts, x => ∃ vs, v = .tuple vs ∧ VReps F ts x vs.toList
def Out.Rep (F : Mem) (w w' : World) : (o : Out) → Tup o.tys → Value → Prop
 | .data ts, x, v => RepOut F ts x v
 | .row e t, x, v => ∃ p : Place, (p.nil = false → w.heap.size ≤ p.blk ∧ F p.blk = none) ∧ BRep ⟨F, fun _ => none⟩ w' p (.row false e t x.1) ∧
   ((p.nil = true ∧ v = .slice none 0 0 ∧ p.len = 0) ∨ (p.nil = false ∧ v = .slice (some ⟨p.blk, 0, none⟩) p.len p.cap ∧ p.len ≤ p.cap ∧ p.cap ≤ maxLenI))
 | .fresh ts, x, v => ∃ G : Mem, G.le F ∧ (∀ b o, G b = some o → w.heap.size ≤ b) ∧ RepOut G ts x v
structure DOk (P : Program) (f : Nat) (c : DCon) : Prop where
 fn : ∃ fn code, P.funcs[f]? = some fn ∧ (fn.name == "runtime.NumGoroutine") = false ∧ fn.body = some code
 calls : ∀ (F : Mem) (w : World) (x : Tup c.args) (vs : List Value), (∀ b o, F b = some o → w.heap[b]? = some o) → VReps F c.args x vs → c.pre x →
  Calls P f vs.toArray w fun e w' => ∃ v F', e = .returned v ∧ F.le F' ∧ (∀ b o, F' b = some o → w'.heap[b]? = some o) ∧ (∀ b o, F' b = some o → F b = some o ∨ w.heap.size ≤ b) ∧
   Keep (fun _ => False) w w' ∧ c.out.Rep F' w w' (c.fn x) v
def DCon.con (c : DCon) : Con where
 run ss d := do
  let x ← reifyArgs c.args ss
  .ret { val := some (c.out.val d (c.fn x.1)), blks := (match c.out.free with
   | true => []
   | false => x.2) ++ c.out.bl d (c.fn x.1), new := c.out.new d, conds := [c.pre x.1] }
theorem VReps.go {F : Mem} {G : Mem} (hG : E.F = G) (h : F.le G) : ∀ {ts : List Ty} {x : Tup ts} {vs : List Value}, VReps F ts x vs → SRep.go E (resVal ts x) vs
 | [], _, _, k => k
 | t :: ts, x, vs, k => by
  obtain ⟨v, us, e, k1, k2⟩ := k
  refine ⟨v, us, e, ?_, k2.go hG h⟩
  have k1 := k1.mono h
  rw [← hG] at k1
  unfold VRep at k1
  cases hb : t.isAgg with
  | true =>
   rw [hb] at k1
   obtain ⟨ws, e, k⟩ := k1
   exact ⟨ws, e, CReps_flat k⟩
  | false =>
   rw [hb] at k1
   have k2 := CReps_flat (E := E) k1
   have hl := flat_length t x.1
   have h1 : t.size = 1 := by cases t <;> first | rfl | cases hb
   rw [h1] at hl
   obtain ⟨c, hc⟩ := List.length_eq_one_iff.1 hl
   rw [hc] at k2
   obtain ⟨u, hu, k2⟩ := one_reps k2
   cases hu
   exact ⟨c, hc, k2⟩
theorem RepOut.val {ts : List Ty} {x : Tup ts} {v : Value} (k : RepOut E.F ts x v) : SRep E (dataVal ts x) v := by
 unfold RepOut at k
 unfold dataVal
 split at k
 ·exact svOf_rep k
 ·obtain ⟨vs, rfl, k⟩ := k
  exact ⟨vs, rfl, k.go rfl (.refl _)⟩
theorem VRep.flatb {F F' : Mem} {t : Ty} {x : t.den} {v : Value} (hb : t.flatb = true) (k : VRep F t x v) : VRep F' t x v := by
 unfold VRep at *
 split at k
 ·obtain ⟨vs, e, k⟩ := k; exact ⟨vs, e, k.flatb hb⟩
 ·exact k.flatb hb
theorem VReps.flatb {F F' : Mem} : ∀ {ts : List Ty} {x : Tup ts} {vs : List Value}, ts.all Ty.flatb = true → VReps F ts x vs → VReps F' ts x vs
 | [], _, _, _, k => k
 | t :: ts, x, vs, hb, k => by
  simp only [List.all_cons, Bool.and_eq_true] at hb
  obtain ⟨v, us, e, k1, k2⟩ := k
  exact ⟨v, us, e, k1.flatb hb.1, k2.flatb hb.2⟩
theorem RepOut.flatb {F F' : Mem} {ts : List Ty} {x : Tup ts} {v : Value} (hb : ts.all Ty.flatb = true) (k : RepOut F ts x v) : RepOut F' ts x v := by
 unfold RepOut at *
 split at k
 ·simp only [List.all_cons, List.all_nil, Bool.and_true] at hb
  exact k.flatb hb
 ·obtain ⟨vs, e, k⟩ := k; exact ⟨vs, e, k.flatb hb⟩
theorem HRel.adopt {bl : List (Nat × Blk)} {used : List Nat} (h : HRel w0 foot base bl used E w) {d : Nat} {p : Place} {B : Blk} (hd : d ∉ used)
  (hp : p.nil = false → w0.heap.size ≤ p.blk ∧ E.F p.blk = none ∧ ∀ i B' q, find bl i = some B' → E.place i = some q → q.nil = false → q.blk ≠ p.blk)
  (hB : BRep (E.new d p) w p B) : HRel w0 foot base (put bl d B) (d :: used) (E.new d p) w := by
 cases hn : p.nil with
 | true => exact h.nilrow hd hn hB
 | false =>
  obtain ⟨h1, h2, h3⟩ := hp hn
  have hlt := hB.lt hn
  obtain ⟨o, ho⟩ : ∃ o, w.heap[p.blk]? = some o := ⟨_, Array.getElem?_eq_getElem hlt⟩
  have hw : setBlk w p.blk o = w := by
   unfold setBlk
   have : w.heap.setIfInBounds p.blk o = w.heap := by
    apply Array.ext_getElem?
    intro i
    by_cases hi : p.blk = i
    ·subst hi; rw [Array.getElem?_setIfInBounds_self_of_lt hlt, ho]
    ·rw [Array.getElem?_setIfInBounds_ne hi]
   rw [this]
  have := h.attach (o := o) hd hn rfl hlt (.inl h1) h2 h3 (by rw [hw]; exact hB)
  rw [hw] at this
  exact this
theorem SReps.mono {E E' : Env} (h : E.le E') : ∀ {ss : List SV} {vs : List Value}, SReps E ss vs → SReps E' ss vs
 | [], _, k => k
 | s :: ss, _, k => by
  obtain ⟨v, us, e, k1, k2⟩ := k
  exact ⟨v, us, e, k1.mono h, k2.mono h⟩
theorem RepOut.mono {F F' : Mem} (h : F.le F') : ∀ {ts : List Ty} {x : Tup ts} {v : Value}, RepOut F ts x v → RepOut F' ts x v
 | [], _, _, k => by obtain ⟨vs, e, k⟩ := k; exact ⟨vs, e, VReps.mono h k⟩
 | [t], _, _, k => VRep.mono h k
 | _ :: _ :: _, _, _, k => by obtain ⟨vs, e, k⟩ := k; exact ⟨vs, e, VReps.mono h k⟩
theorem Out.Rep.free {F F2 : Mem} {w w' : World} {o : Out} {y : Tup o.tys} {v : Value} (hnf : o.isFresh = false) (hf : o.free = true) (h2 : ∀ b, w.heap.size ≤ b → F2 b = none) (k : o.Rep F w w' y v) : o.Rep F2 w w' y v := by
 cases o with
 | data ts => exact RepOut.flatb hf k
 | row e t =>
  obtain ⟨p, k1, k2, k3⟩ := k
  refine ⟨p, fun hn => ⟨(k1 hn).1, h2 _ (k1 hn).1⟩, ?_, k3⟩
  rcases k2 with k2 | ⟨hn, h0, h1, vs, h3, h4, h5, h6⟩
  ·exact .inl k2
  ·refine .inr ⟨hn, h0, h1, vs, h3, h4, fun h => (by cases h), fun i x hx => ?_⟩
   obtain ⟨us, q1, q2⟩ := h6 i x hx
   exact ⟨us, q1.flatb hf, q2⟩
 | fresh ts => cases hnf
theorem Out.Rep.after {bl : List (Nat × Blk)} {used : List Nat} {w w' : World} {o : Out} {y : Tup o.tys} {v : Value} {d : Nat} (hR : HRel w0 foot base bl used E w') (hd : ∀ i ∈ o.new d, i ∉ used) (hsz : w0.heap.size ≤ w.heap.size)
  (hold : ∀ i B q, find bl i = some B → E.place i = some q → q.nil = false → q.blk < w.heap.size) (k : o.Rep E.F w w' y v) :
  ∃ E', E.le E' ∧ HRel w0 foot base (applyBl { blks := o.bl d y } bl) (o.new d ++ used) E' w' ∧ SRep E' (o.val d y) v := by
 cases o with
 | data ts => exact ⟨E, .refl _, hR, RepOut.val k⟩
 | fresh ts =>
  obtain ⟨G, g1, _, g3⟩ := k
  exact ⟨E, .refl _, hR, RepOut.val (g3.mono g1)⟩
 | row e t =>
  obtain ⟨p, k1, k2, k3⟩ := k
  have hdu : d ∉ used := hd d (List.mem_singleton.2 rfl)
  have hnone : E.place d = none := by
   cases he : E.place d with
   | none => rfl
   | some q => exact absurd (hR.used d q he) hdu
  have hle := Env.new_le (p := p) hnone
  refine ⟨E.new d p, hle, ?_, ⟨p, Env.new_same, k3⟩⟩
  refine hR.adopt hdu (fun hn => ⟨Nat.le_trans hsz (k1 hn).1, (k1 hn).2, fun i B' q hf hq hqn => ?_⟩) (k2.mono ⟨.refl _, fun _ _ h => by cases h⟩)
  have := hold i B' q hf hq hqn
  have := (k1 hn).1
  omega
theorem applyBl_append (A B : List (Nat × Blk)) (bl : List (Nat × Blk)) (r : List Nat) (v : Option SV) (cs : List Prop) : applyBl { val := v, blks := A ++ B, new := r, conds := cs } bl = applyBl { blks := B } (applyFro A bl) := by
 simp [applyBl, applyFro]
theorem DOk.con {f : Nat} {c : DCon} (hc : DOk P f c) : ConOk P f c.con where
 fn := hc.fn
 calls w0 foot base S ctx E w args vs d r h hv hr hcond hnew := by
  obtain ⟨⟨x, fr⟩, h1, hr⟩ := RM.run_bind' hr
  cases RM.run_pure' hr
  have hpre : c.pre x := hcond _ (List.mem_singleton.2 rfl)
  have ho := reifyArgs_froOk h1
  obtain ⟨E2, hle, hpl, hsrc, hR2⟩ := h.applyFro ho
  have hfro := Frozen.of_apply ho hR2
  have hx := reifyArgs_rep h1 (hv.mono hle) hfro
  refine (hc.calls E2.F w x vs hR2.frz hx hpre).mono fun e w' => ?_
  rintro ⟨v, F', rfl, hF, hfrz, hsrc', hk, hout⟩
  have holdS : ∀ {bl used E}, HRel w0 foot base bl used E w → ∀ i B q, find bl i = some B → E.place i = some q → q.nil = false → q.blk < w.heap.size := fun hH i B q hf hq hn => by
   obtain ⟨q', hq', k⟩ := hH.blks i B hf
   rw [hq] at hq'
   cases hq'
   exact k.lt hn
  have fin : ∀ {A : List (Nat × Blk)} {E3 : Env}, E.le E3 → HRel w0 foot base (applyFro A S.bl) S.used E3 w' → (∀ i B q, find (applyFro A S.bl) i = some B → E3.place i = some q → q.nil = false → q.blk < w.heap.size) → c.out.Rep E3.F w w' (c.fn x) v →
    ∃ v' E', Ending.returned v = .returned v' ∧ After w0 foot base S.bl S.used E { val := some (c.out.val d (c.fn x)), blks := A ++ c.out.bl d (c.fn x), new := c.out.new d, conds := [c.pre x] } E' w' v' := fun {A E3} hle3 hR3 hold3 hout3 => by
   obtain ⟨E', q1, q2, q3⟩ := Out.Rep.after hR3 hnew h.keep.size hold3 hout3
   exact ⟨v, E', rfl, hle3.trans q1, by rw [applyBl_append]; exact q2, q3⟩
  cases hfr : c.out.isFresh with
  | true =>
   obtain ⟨ca, co, cp, cf⟩ := c
   cases co with
   | data ts => cases hfr
   | row e t => cases hfr
   | fresh ts =>
    obtain ⟨G, g1, g2, g3⟩ := hout
    have hle3 : E.F.le (fun b => match E.F b with | some o => some o | none => G b) := fun b o hb => by
     show (match E.F b with | some o => some o | none => G b) = some o
     rw [hb]
    have hG : G.le (fun b => match E.F b with | some o => some o | none => G b) := fun b o hb => by
     show (match E.F b with | some o => some o | none => G b) = some o
     cases he : E.F b with
     | none => exact hb
     | some o' => have := heap_lt (h.frz _ _ he); have := g2 b o hb; omega
    have hsrc3 : ∀ b o, (match E.F b with | some o => some o | none => G b) = some o → E.F b = some o ∨ w.heap.size ≤ b := fun b o hb => by
     cases he : E.F b with
     | none => rw [he] at hb; exact .inr (g2 b o hb)
     | some o' => rw [he] at hb; exact .inl hb
    have hR3 : HRel w0 foot base S.bl S.used { E with F := fun b => match E.F b with | some o => some o | none => G b } w' := h.later hk hle3 (fun b o hb => by
     cases he : E.F b with
     | none =>
      have hb : (match E.F b with | some o => some o | none => G b) = some o := hb
      rw [he] at hb
      exact hfrz b o (g1 b o hb)
     | some o' =>
      have hb : (match E.F b with | some o => some o | none => G b) = some o := hb
      rw [he] at hb
      cases hb
      exact (hk.block b (heap_lt (h.frz b _ he)) (fun h => h)).trans (h.frz b _ he)) hsrc3
    exact fin (A := []) (E3 := { E with F := fun b => match E.F b with | some o => some o | none => G b }) ⟨hle3, fun _ _ h => h⟩ hR3 (fun i B q hf hq hn => holdS h i B q hf hq hn) ⟨G, hG, g2, g3⟩
  | false =>
  cases hfree : c.out.free with
  | true =>
   have hR3 : HRel w0 foot base S.bl S.used E w' := h.later hk (.refl _) (fun b o hb => (hk.block b (heap_lt (h.frz b o hb)) (fun h => h)).trans (h.frz b o hb)) (fun b o hb => .inl hb)
   refine fin (A := []) (.refl _) hR3 (holdS h) (hout.free hfr hfree fun b hb => ?_)
   cases he : E.F b with
   | none => rfl
   | some o => have := heap_lt (h.frz _ _ he); omega
  | false =>
   exact fin (A := fr) (E3 := { E2 with F := F' }) (hle.trans ⟨hF, fun _ _ h => h⟩) (hR2.later hk hF hfrz hsrc') (fun i B q hf hq hn => holdS hR2 i B q hf hq hn) hout
end Go.Vc
end

section
set_option linter.unusedVariables false
set_option linter.unusedSimpArgs false
namespace Go.Vc
open Go
variable {P : Program} {X : Ctx} {w0 : World} {foot : Foot} {base : Mem} {S T : St} {E : Env} {a : Act} {w : World} {ctx : Tags}
def argSl : (ts : List Ty) → Tup ts → Nat → List (Nat × (Tags × SV))
 | [], _, _ => []
 | t :: ts, x, i => (i, [], svOf t x.1) :: argSl ts x.2 (i + 1)
def S0 (fn : Func) (c : DCon) (x : Tup c.args) : St := { sl := argSl c.args x 0, bl := [], used := [], n := fn.ntmps }
def resR (X : Ctx) : ResultVar → RM SV
 | .tmp t => .slot [] t .ret
 | .cell a t => do
  let i ← ti X t
  let cs ← loadCs i.size (← evC (.tmp a))
  guardR (Nat.beq cs.length i.size)
  mkSV i.d cs
def dataR (X : Ctx) : (ts : List Ty) → List ResultVar → Tup ts → RM (List Prop × Fro)
 | [], rs, _ => (match rs with
  | [] => .ret ([], [])
  | _ => .fail)
 | t :: ts, rs, y => (match rs with
  | [] => .fail
  | r :: rs => do
   let z ← reify t (← asTy t (← resR X r))
   let q ← dataR X ts rs y.2
   guardR (froApart z.2 q.2)
   return ((z.1 = y.1) :: q.1, z.2 ++ q.2))
def rowR (X : Ctx) (e : Nat) (t : Ty) (r : ResultVar) (y : List t.den) : RM (List Prop) := do
 match ← resR X r with
 | .one .nilsl => .ret [[] = y]
 | .one (.row tt b) => .blk b fun
  | .row false e' t' xs => (match tt.beq t' && Nat.beq e e' with
   | true => do
    let zs ← RM.ofOption (Ty.as (a := .list t') (.list t) (lit xs))
    return [Ty.L zs = y]
   | false => .fail)
  | _ => .fail
 | _ => .fail
def outR (X : Ctx) (rs : List ResultVar) : (o : Out) → Tup o.tys → RM (List Prop)
 | .data ts, y => do return (← dataR X ts rs y).1
 | .row e t, y => (match rs with
  | [r] => rowR X e t r y.1
  | _ => .fail)
 | .fresh _, _ => .fail
def retPost (X : Ctx) (rs : List ResultVar) (o : Out) (y : Tup o.tys) : Ex → St → Prop
 | .exit _, _ => False
 | _, S => match (outR X rs o y).run S [] with
  | some ps => conjP ps True
  | none => False
def lett {α : Type} (t : α) (p : α → Prop) : Prop := p t
theorem lett.mk {α : Type} {t : α} {p : α → Prop} (h : ∀ y, y = t → p y) : lett t p := h t rfl
@[irreducible] def bodyVC (X : Ctx) (fn : Func) (c : DCon) (A : Ann) (x : Tup c.args) : Prop :=
 match fn.body with
 | some code => vc X A code (S0 fn c x) (retPost X fn.results.toList c.out (c.fn x))
 | none => False
def fnOk (fn : Func) (c : DCon) : Bool := Nat.ble c.args.length fn.ntmps && fn.body.isSome
def fnVC (X : Ctx) (fn : Func) (c : DCon) (A : Tup c.args → Ann) : Prop :=
 fnOk fn c = true ∧ ∀ x, wfs c.args x → c.pre x → bodyVC X fn c (A x) x
theorem argSl_rep {F : Mem} : ∀ {ts : List Ty} {x : Tup ts} {vs : List Value} {i : Nat}, VReps F ts x vs → ∀ n tags v, find (argSl ts x i) n = some (tags, v) →
  tags = [] ∧ i ≤ n ∧ n < i + ts.length ∧ SRep ⟨F, fun _ => none⟩ v (vs.getD (n - i) undef)
 | [], x, vs, i, h, n, tags, v, hf => by cases hf
 | t :: ts, x, vs, i, h, n, tags, v, hf => by
  obtain ⟨u, us, rfl, k1, k2⟩ := h
  unfold argSl at hf
  by_cases e : i = n
  ·subst e
   have : some (([] : Tags), svOf t x.1) = some (tags, v) := by simpa [find] using hf
   cases this
   refine ⟨rfl, Nat.le_refl _, by simp, ?_⟩
   simpa using svOf_rep (E := ⟨F, fun _ => none⟩) k1
  ·rw [find_skip e] at hf
   obtain ⟨h1, h2, h3, h4⟩ := argSl_rep k2 n tags v hf
   refine ⟨h1, by omega, by simp only [List.length_cons]; omega, ?_⟩
   have : n - i = (n - (i + 1)) + 1 := by omega
   rw [this]
   simpa using h4
theorem begin_rel {fn : Func} {c : DCon} {x : Tup c.args} {F : Mem} {vs : List Value} (hlen : Nat.ble c.args.length fn.ntmps = true) (hF : ∀ b o, F b = some o → w.heap[b]? = some o) (hx : VReps F c.args x vs) :
  TRel w noFoot F (S0 fn c x) ⟨F, fun _ => none⟩ { tmps := vs.toArray ++ Array.replicate (fn.ntmps - vs.toArray.size) undef, defers := [] } w where
 keep := .refl _ _
 frz := hF
 src := fun b o hb => .inl hb
 blks := fun id B hf => by cases hf
 own := fun id B p hf => by cases hf
 inj := fun id id' B B' p p' hf => by cases hf
 used := fun id p hp => by cases hp
 slots := fun n tags v hf ht => by
  obtain ⟨h1, h2, h3, h4⟩ := argSl_rep hx n tags v hf
  have hl := hx.length
  have hn : n < vs.length := by omega
  rw [Nat.sub_zero] at h4
  have : (vs.toArray ++ Array.replicate (fn.ntmps - vs.toArray.size) undef).getD n undef = vs.getD n undef := by
   rw [Array.getD_eq_getD_getElem?, Array.getElem?_append_left (by simpa using hn)]
   simp [List.getD_eq_getElem?_getD]
  show SRep _ v ((vs.toArray ++ Array.replicate (fn.ntmps - vs.toArray.size) undef).getD n undef)
  rw [this]
  exact h4
 size := by
  have hl := hx.length
  have := Nat.le_of_ble_eq_true hlen
  show (vs.toArray ++ Array.replicate (fn.ntmps - vs.toArray.size) undef).size = fn.ntmps
  simp
  omega
 defers := rfl
 pins := fun n p h => by cases h
 untagged := fun n tags v hf ht => by
  obtain ⟨h1, _⟩ := argSl_rep hx n tags v hf
  subst h1
  exact absurd (fun t ht => by cases ht) ht
def rd (tmps : Array Value) : ResultVar → Sem Value
 | .tmp t => pure (tmps.getD t undef)
 | .cell b t => do loadVar t (← asAddr (tmps.getD b undef))
theorem resR_sound (hT : TabOk P X.tab) (h : TRel w0 foot base S E a w) {r : ResultVar} {s : SV} (hr : (resR X r).run S [] = some s) :
  ∃ v, (rd a.tmps r).run P w = .ok v w ∧ SRep E s v := by
 cases r with
 | tmp t =>
  exact ⟨_, rfl, ev_rep (x := .tmp t) h.toSRel (ctx := []) (fun t ht => by cases ht) hr⟩
 | cell b t =>
  unfold resR at hr
  obtain ⟨i, h1, hr⟩ := RM.run_bind' hr
  obtain ⟨c, h2, hr⟩ := RM.run_bind' hr
  obtain ⟨cs, h3, hr⟩ := RM.run_bind' hr
  obtain ⟨u, h4, hr⟩ := RM.run_bind' hr
  obtain ⟨hs, j, hj, e1, e2, e3⟩ := ti_spec hT h1
  obtain ⟨g, off, us, hv, k1, k2⟩ := loadCs_sound h.toHRel h3 (evC_rep (x := .tmp b) h.toSRel (ctx := []) (fun t ht => by cases ht) h2)
  have hl : us.length = j.size := by rw [k1.length, Nat.eq_of_beq_eq_true (run_guardR h4), e1]
  rw [← hs] at hr
  obtain ⟨v, hrun, hrep⟩ := run_loadVar' hr hj hl k1 k2
  have hv : a.tmps.getD b undef = .pointer (some ⟨g, off, none⟩) := hv
  refine ⟨v, ?_, hrep⟩
  simp [rd, hv, asAddr, hrun]
theorem dataR_sound (hT : TabOk P X.tab) (h : TRel w0 foot base S E a w) : ∀ {ts : List Ty} {rs : List ResultVar} {y : Tup ts} {ps : List Prop} {fr : Fro}, (dataR X ts rs y).run S [] = some (ps, fr) → (∀ p ∈ ps, p) →
  FroOk S.bl fr ∧ ∃ vs, (rs.mapM (rd a.tmps)).run P w = .ok vs w ∧ ∀ E', E.le E' → Frozen S.bl E' w fr → VReps E'.F ts y vs
 | [], rs, y, ps, fr, hr, hp => by
  unfold dataR at hr
  split at hr
  ·cases hr
   exact ⟨.nil, [], rfl, fun _ _ _ => rfl⟩
  ·cases hr
 | t :: ts, rs, y, ps, fr, hr, hp => by
  unfold dataR at hr
  split at hr
  ·cases hr
  ·rename_i r rs'
   obtain ⟨s, h1, hr⟩ := RM.run_bind' hr
   obtain ⟨cs, h2, hr⟩ := RM.run_bind' hr
   obtain ⟨z, h3, hr⟩ := RM.run_bind' hr
   obtain ⟨q, h4, hr⟩ := RM.run_bind' hr
   obtain ⟨_, h5, hr⟩ := RM.run_bind' hr
   cases RM.run_pure' hr
   obtain ⟨z1, z2⟩ := z
   obtain ⟨q1, q2⟩ := q
   obtain ⟨v, hrun, hrep⟩ := resR_sound hT h h1
   obtain ⟨k1, vs, k2, k3⟩ := dataR_sound hT h h4 (fun p hm => hp p (List.mem_cons_of_mem _ hm))
   have hz := hp _ List.mem_cons_self
   have hz : z1 = y.1 := hz
   subst hz
   refine ⟨(reify_froOk h3).append k1 (run_guardR h5), v :: vs, ?_, fun E' hle hf => ⟨v, vs, rfl, reify_value h2 h3 (hrep.mono hle) hf.left, k3 E' hle hf.right⟩⟩
   simp [List.mapM_cons, hrun, k2]
theorem results_eq (fn : Func) (tmps : Array Value) : results fn tmps = (do
  let vs ← fn.results.mapM (rd tmps)
  pure (if h : vs.size = 1 then vs[0] else .tuple vs)) := rfl
theorem results_run {fn : Func} {tmps : Array Value} {vs : List Value} (h : (fn.results.toList.mapM (rd tmps)).run P w = .ok vs w) : (results fn tmps).run P w = .ok (if h : vs.length = 1 then vs[0] else .tuple vs.toArray) w := by
 rw [results_eq, Array.mapM_eq_mapM_toList]
 simp [h]
theorem RepOut.of {F : Mem} : ∀ {ts : List Ty} {x : Tup ts} {vs : List Value}, VReps F ts x vs → RepOut F ts x (if h : vs.length = 1 then vs[0] else .tuple vs.toArray)
 | [], x, vs, k => by
  have k : vs = [] := k
  subst k
  exact ⟨_, rfl, rfl⟩
 | [t], x, vs, k => by
  obtain ⟨v, us, rfl, q1, q2⟩ := k
  have q2 : us = [] := q2
  subst q2
  exact q1
 | t :: u :: ts, x, vs, k => by
  have hl := k.length
  simp only [List.length_cons] at hl
  rw [dif_neg (by omega)]
  exact ⟨_, rfl, k⟩
def joinMem (F G : Mem) : Mem := fun b => match F b with
 | some o => some o
 | none => G b
theorem outR_sound (hT : TabOk P X.tab) (hbase : ∀ b o, base b = some o → w0.heap[b]? = some o) (h : TRel w0 noFoot base S E a w) {fn : Func} {o : Out} {y : Tup o.tys} {ps : List Prop} (hr : (outR X fn.results.toList o y).run S [] = some ps) (hp : ∀ p ∈ ps, p) :
  ∃ v, (results fn a.tmps).run P w = .ok v w ∧ ∃ F', base.le F' ∧ (∀ b o, F' b = some o → w.heap[b]? = some o) ∧ (∀ b o, F' b = some o → base b = some o ∨ w0.heap.size ≤ b) ∧ o.Rep F' w0 w y v := by
 have hb' : ∀ b o, base b = some o → w.heap[b]? = some o := fun b o hb => (h.keep.block b (heap_lt (hbase b o hb)) (fun h => h)).trans (hbase b o hb)
 have fin : ∀ {bl : List (Nat × Blk)} {used : List Nat} {E2 : Env}, HRel w0 noFoot base bl used E2 w → base.le (joinMem base E2.F) ∧ E2.F.le (joinMem base E2.F) ∧ (∀ b o, (joinMem base E2.F) b = some o → w.heap[b]? = some o) ∧ (∀ b o, (joinMem base E2.F) b = some o → base b = some o ∨ w0.heap.size ≤ b) := fun {bl used E2} h2 => by
  refine ⟨fun b o hb => ?_, fun b o hb => ?_, fun b o hb => ?_, fun b o hb => ?_⟩
  ·unfold joinMem; rw [hb]
  ·unfold joinMem
   split
   ·rename_i o' ho'
    rw [← hb' b o' ho', h2.frz b o hb]
   ·exact hb
  ·unfold joinMem at hb
   split at hb
   ·rename_i o' ho'; cases hb; exact hb' b _ ho'
   ·exact h2.frz b o hb
  ·unfold joinMem at hb
   split at hb
   ·rename_i o' ho'; cases hb; exact .inl ho'
   ·rcases h2.src b o hb with h3 | h3 | h3
    ·exact .inl h3
    ·exact .inr h3
    ·cases h3
 cases o with
 | data ts =>
  unfold outR at hr
  obtain ⟨q, h1, hr⟩ := RM.run_bind' hr
  cases RM.run_pure' hr
  obtain ⟨ps, fr⟩ := q
  obtain ⟨k1, vs, k2, k3⟩ := dataR_sound hT h h1 hp
  obtain ⟨E2, hle, hpl, hsrc, hR2⟩ := h.toHRel.applyFro k1
  have k4 := k3 E2 hle (Frozen.of_apply k1 hR2)
  obtain ⟨f1, f2, f3, f4⟩ := fin hR2
  refine ⟨_, results_run k2, joinMem base E2.F, f1, f3, f4, ?_⟩
  have k5 := k4.mono f2
  exact RepOut.of k5
 | fresh ts => cases hr
 | row e t =>
  have hr : (match fn.results.toList with | [r] => rowR X e t r y.1 | _ => (.fail : RM (List Prop))).run S [] = some ps := hr
  split at hr
  ·rename_i r hrs
   unfold rowR at hr
   obtain ⟨s, h1, hr⟩ := RM.run_bind' hr
   obtain ⟨v, hrun, hrep⟩ := resR_sound hT h h1
   have hres : (results fn a.tmps).run P w = .ok v w := by
    have := results_run (P := P) (w := w) (fn := fn) (tmps := a.tmps) (vs := [v]) (by rw [hrs]; simp [hrun])
    simpa using this
   obtain ⟨f1, f2, f3, f4⟩ := fin h.toHRel
   refine ⟨v, hres, joinMem base E.F, f1, f3, f4, ?_⟩
   split at hr
   ·cases hr
    have hy := hp _ (List.mem_singleton.2 rfl)
    have hrep : v = _ := hrep
    exact ⟨⟨true, 0, 0, 0⟩, fun hn => (by cases hn), .inl ⟨rfl, hy.symm, rfl⟩, .inl ⟨rfl, hrep, rfl⟩⟩
   ·rename_i tt b
    simp only [RM.run] at hr
    split at hr
    ·rename_i B hf
     split at hr
     ·rename_i e' t' xs
      split at hr
      ·rename_i hb
       simp only [Bool.and_eq_true] at hb
       obtain ⟨zs, h2, hr⟩ := RM.run_bind' hr
       cases RM.run_pure' hr
       have hy := hp _ (List.mem_singleton.2 rfl)
       obtain ⟨ee, rfl⟩ := Ty.as_some (run_ofOption h2)
       cases ee
       have hy : xs = y.1 := hy
       have := Nat.eq_of_beq_eq_true hb.2
       subst this
       obtain ⟨p, hpl, hv⟩ := hrep
       obtain ⟨q, hq, hB⟩ := h.blks b _ hf
       rw [hpl] at hq
       cases hq
       refine ⟨p, fun hn => ?_, ?_, hv⟩
       ·have ho := h.own b _ p hf hpl hn
        have h0 : w0.heap.size ≤ p.blk := ho.1.resolve_right (fun h => h)
        refine ⟨h0, ?_⟩
        unfold joinMem
        split
        ·rename_i o' ho'
         have := heap_lt (hbase _ _ ho')
         omega
        ·exact ho.2 rfl
       ·rw [← hy]
        rcases hB with hB | ⟨hn, h0, h1', vs, h3, h4, h5, h6⟩
        ·exact .inl hB
        ·refine .inr ⟨hn, h0, h1', vs, h3, h4, fun h => (by cases h), fun i x hx => ?_⟩
         obtain ⟨us, g1, g2⟩ := h6 i x hx
         exact ⟨us, g1.mono f2, g2⟩
      ·cases hr
     ·cases hr
    ·cases hr
   ·cases hr
  ·cases hr
theorem DOk.of (hT : TabOk P X.tab) (hK : ∀ f con, X.con f = some con → ConOk P f con) {f : Nat} {fn : Func} {c : DCon} {A : Tup c.args → Ann} (hf : P.funcs[f]? = some fn) (hn : (fn.name == "runtime.NumGoroutine") = false)
  (hv : fnVC X fn c A) : DOk P f c where
 fn := by
  obtain ⟨h, _⟩ := hv
  simp only [fnOk, Bool.and_eq_true] at h
  obtain ⟨code, hb⟩ := Option.isSome_iff_exists.1 h.2
  exact ⟨fn, code, hf, hn, hb⟩
 calls F w x vs hF hx hpre := by
  obtain ⟨hlen, h⟩ := hv
  simp only [fnOk, Bool.and_eq_true] at hlen
  replace hlen := hlen.1
  have h := h x hx.wfs hpre
  unfold bodyVC at h
  cases hb : fn.body with
  | none => rw [hb] at h; cases h
  | some code =>
   rw [hb] at h
   refine calls_of_wp hf hb ?_
   refine wp_mono (vc_sound hT hK h (begin_rel hlen hF hx)) fun e a w' hp => ?_
   have done : ∀ S E, (match (outR X fn.results.toList c.out (c.fn x)).run S [] with | some ps => conjP ps True | none => False) → TRel w noFoot F S E a w' → a.defers = [] ∧ ∃ v, (results fn a.tmps).run P w' = .ok v w' ∧
     ∃ v' F', Ending.returned v = .returned v' ∧ F.le F' ∧ (∀ b o, F' b = some o → w'.heap[b]? = some o) ∧ (∀ b o, F' b = some o → F b = some o ∨ w.heap.size ≤ b) ∧ Keep (fun _ => False) w w' ∧ c.out.Rep F' w w' (c.fn x) v' := fun S E hq hR => by
    split at hq
    ·rename_i ps hps
     obtain ⟨v, h1, F', h2, h3, h4, h5⟩ := outR_sound hT hF hR hps (conjP_elim hq).1
     exact ⟨hR.defers, v, h1, v, F', rfl, h2, h3, h4, hR.keep, h5⟩
    ·cases hq
   cases e with
   | normal => obtain ⟨S, E, hq, hR⟩ := hp; exact done S E hq hR
   | ret => obtain ⟨S, E, hq, hR⟩ := hp; exact done S E hq hR
   | exit id => obtain ⟨S, E, hq, hR⟩ := hp; cases hq
   | goto l => cases hp
   | panic ch => cases hp
   | outgrown => cases hp
end Go.Vc
end

section
set_option linter.unusedVariables false
set_option linter.unusedSimpArgs false
namespace Go.Vc
open Go
variable {P : Program} {X : Ctx} {w0 : World} {foot : Foot} {base : Mem} {S T : St} {E : Env} {a : Act} {w : World} {ctx : Tags}
inductive OTy where
 | dat (t : Ty)
 | row (e : Nat) (t : Ty)
 | cells (fix : Bool) (o : OTy)
 | mclo (k : Nat) (o : OTy)
 | unit
 | pair (a b : OTy)
 | gone (o : OTy)
 | map (a b : Ty)
@[reducible] def OTy.den (o : OTy) : Type := OTy.rec (motive := fun _ => Type) (fun t => t.den) (fun _ t => List t.den) (fun _ _ d => d) (fun _ _ d => d) Unit (fun _ _ a b => a × b) (fun _ d => d) (fun a b => List (a.den × b.den)) o
def OTy.size : OTy → Nat
 | .dat t => t.size
 | .row _ _ | .cells _ _ | .mclo _ _ | .map _ _ => 1
 | .unit => 0
 | .pair a b => a.size + b.size
 | .gone o => o.size
def OTy.isAgg : OTy → Bool
 | .dat t => t.isAgg
 | .unit | .pair _ _ => true
 | .gone o => o.isAgg
 | _ => false
def OTy.wf : (o : OTy) → o.den → Prop
 | .dat t, x => t.wf x
 | .row _ t, xs => xs.length ≤ maxLenI ∧ ∀ x ∈ xs, t.wf x
 | .cells _ o, x => o.wf x
 | .mclo _ o, x => o.wf x
 | .unit, _ => True
 | .pair a b, x => a.wf x.1 ∧ b.wf x.2
 | .gone o, x => o.wf x
 | .map a b, m => ∀ x ∈ m, a.wf x.1 ∧ b.wf x.2
inductive PT where
 | nil
 | row (p : Place)
 | cells (p : Place) (q : PT)
 | pair (a b : PT)
def PT.list : PT → List Place
 | .nil => []
 | .row p => [p]
 | .cells p q => p :: q.list
 | .pair a b => a.list ++ b.list
inductive IT where
 | nil
 | row (n : Option Nat)
 | cells (n : Nat) (t : IT)
 | pair (a b : IT)
def IT.ids : IT → List Nat
 | .nil => []
 | .row none => []
 | .row (some n) => [n]
 | .cells n t => n :: t.ids
 | .pair a b => a.ids ++ b.ids
def nilPlace : Place := ⟨true, 0, 0, 0⟩
def ITAt (E : Env) : IT → PT → Prop
 | .nil, .nil => True
 | .row none, .row p => p = nilPlace
 | .row (some n), .row p => E.place n = some p
 | .cells n t, .cells p q => E.place n = some p ∧ ITAt E t q
 | .pair a b, .pair p q => ITAt E a p ∧ ITAt E b q
 | _, _ => False
def rowVal (p : Place) (v : Value) : Prop :=
 (p.nil = true ∧ v = .slice none 0 0 ∧ p.len = 0) ∨ (p.nil = false ∧ v = .slice (some ⟨p.blk, 0, none⟩) p.len p.cap ∧ p.len ≤ p.cap ∧ p.cap ≤ maxLenI)
def ORep (F : Mem) (w : World) : (o : OTy) → o.den → List Value → PT → Prop
 | .dat t, x, vs, pl => pl = .nil ∧ Rep F t x vs
 | .row e t, xs, vs, pl => ∃ p v, pl = .row p ∧ vs = [v] ∧ rowVal p v ∧ BRep ⟨F, fun _ => none⟩ w p (.row false e t xs)
 | .cells _ o, x, vs, pl => ∃ p q us e, pl = .cells p q ∧ p.nil = false ∧ vs = [.pointer (some ⟨p.blk, 0, none⟩)] ∧ w.heap[p.blk]? = some (.cells us e (0, 0)) ∧ ORep F w o x us.toList q
 | .mclo k o, x, vs, pl => ∃ ws, vs = [.func (.func k) #[] ws] ∧ ORep F w o x ws.toList pl
 | .unit, _, vs, pl => vs = [] ∧ pl = .nil
 | .pair a b, x, vs, pl => ∃ us ws p q, vs = us ++ ws ∧ pl = .pair p q ∧ ORep F w a x.1 us p ∧ ORep F w b x.2 ws q
 | .gone o, x, vs, pl => ORep F w o x vs pl
 | .map a b, m, vs, pl => ∃ p, pl = .row p ∧ p.nil = false ∧ vs = [.map (some p.blk)] ∧ BRep ⟨F, fun _ => none⟩ w p (.map false a b m none)
theorem ORep.length {F : Mem} : ∀ {o : OTy} {x : o.den} {vs : List Value} {pl : PT}, ORep F w o x vs pl → vs.length = o.size
 | .dat _, _, _, _, h => h.2.length
 | .row _ _, _, _, _, h => by obtain ⟨_, _, _, h, _⟩ := h; rw [h]; rfl
 | .cells _ _, _, _, _, h => by obtain ⟨_, _, _, _, _, _, h, _⟩ := h; rw [h]; rfl
 | .mclo _ _, _, _, _, h => by obtain ⟨_, h, _⟩ := h; rw [h]; rfl
 | .unit, _, _, _, h => by rw [h.1]; rfl
 | .pair _ _, _, _, _, h => by obtain ⟨_, _, _, _, h, _, h1, h2⟩ := h; rw [h]; simp [OTy.size, h1.length, h2.length]
 | .gone o, _, _, _, h => ORep.length (o := o) h
 | .map _ _, _, _, _, h => by obtain ⟨_, _, _, h, _⟩ := h; rw [h]; rfl
theorem BRep.row_wf {p : Place} {fro : Bool} {e : Nat} {t : Ty} {xs : List t.den} (h : BRep E w p (.row fro e t xs)) : xs.length ≤ maxLenI ∧ ∀ x ∈ xs, t.wf x := by
 rcases h with ⟨_, rfl, _⟩ | ⟨_, h0, ⟨h1, h2⟩, vs, h3, h4, h5, h6⟩
 ·exact ⟨by simp, fun x hx => by cases hx⟩
 ·refine ⟨by omega, fun x hx => ?_⟩
  obtain ⟨i, hi, rfl⟩ := List.mem_iff_getElem.1 hx
  obtain ⟨us, k1, _⟩ := h6 i _ (List.getElem?_eq_getElem hi)
  exact k1.wf
theorem BRep.map_wf {p : Place} {fro : Bool} {a b : Ty} {m : List (a.den × b.den)} {c : Option (Nat × Nat)} (h : BRep E w p (.map fro a b m c)) : ∀ x ∈ m, a.wf x.1 ∧ b.wf x.2 := by
 obtain ⟨_, es, cl, _, _, h, _⟩ := h
 intro x hx
 obtain ⟨i, hi, rfl⟩ := List.mem_iff_getElem.1 hx
 obtain ⟨e, us, ws, _, q2, _, q4, _⟩ := h.at_ i _ (List.getElem?_eq_getElem hi)
 exact ⟨q2.wf, q4.wf⟩
theorem ORep.wf {F : Mem} : ∀ {o : OTy} {x : o.den} {vs : List Value} {pl : PT}, ORep F w o x vs pl → o.wf x
 | .dat _, _, _, _, h => h.2.wf
 | .row _ _, _, _, _, h => by obtain ⟨_, _, _, _, _, h⟩ := h; exact h.row_wf
 | .cells _ o, _, _, _, h => by obtain ⟨_, _, _, _, _, _, _, _, h⟩ := h; exact ORep.wf (o := o) h
 | .mclo _ o, _, _, _, h => by obtain ⟨_, _, h⟩ := h; exact ORep.wf (o := o) h
 | .unit, _, _, _, _ => trivial
 | .pair _ _, _, _, _, h => by obtain ⟨_, _, _, _, _, _, h1, h2⟩ := h; exact ⟨h1.wf, h2.wf⟩
 | .gone o, _, _, _, h => ORep.wf (o := o) h
 | .map _ _, _, _, _, h => by obtain ⟨_, _, _, _, h⟩ := h; exact h.map_wf
def OFix : (o : OTy) → Bool → PT → PT → Prop
 | .row _ _, top, p, p' => top = true → p' = p
 | .map _ _, top, p, p' => top = true → p' = p
 | .cells fix o, top, .cells p q, .cells p' q' => ((fix || top) = true → p' = p ∧ OFix o false q q')
 | .mclo _ o, _, q, q' => OFix o false q q'
 | .pair a b, _, .pair p q, .pair p' q' => OFix a false p p' ∧ OFix b false q q'
 | _, _, _, _ => True
def bptrs : List C → List Nat
 | [] => []
 | .ptr b _ :: cs => b :: bptrs cs
 | _ :: cs => 0 :: bptrs cs
def oOpen : (o : OTy) → o.den → Nat → List C × List (Nat × Blk) × IT × Nat
 | .dat t, x, n => (flat t x, [], .nil, n)
 | .row e t, xs, n => ([.row t n], [(n, .row false e t xs)], .row (some n), n + 1)
 | .cells _ o, x, n => let r := oOpen o x (n + 1); ([.ptr n 0], (n, .cells r.1) :: r.2.1, .cells n r.2.2.1, r.2.2.2)
 | .mclo k o, x, n => let r := oOpen o x n; ([.mclo k (bptrs r.1)], r.2)
 | .unit, _, n => ([], [], .nil, n)
 | .pair a b, x, n =>
  let r := oOpen a x.1 n
  let s := oOpen b x.2 r.2.2.2
  (r.1 ++ s.1, r.2.1 ++ s.2.1, .pair r.2.2.1 s.2.2.1, s.2.2.2)
 | .gone o, x, n => oOpen o x n
 | .map a b, m, n => ([.map a b n], [(n, .map false a b m none)], .row (some n), n + 1)
theorem oOpen_ids : ∀ (o : OTy) (x : o.den) (n : Nat), n ≤ (oOpen o x n).2.2.2 ∧ (∀ i ∈ (oOpen o x n).2.2.1.ids, n ≤ i ∧ i < (oOpen o x n).2.2.2) ∧ (oOpen o x n).2.2.1.ids.Nodup ∧ (oOpen o x n).2.1.map (·.1) = (oOpen o x n).2.2.1.ids
 | .dat t, x, n => ⟨Nat.le_refl _, fun i hi => (by cases hi), List.nodup_nil, rfl⟩
 | .row e t, xs, n => ⟨Nat.le_succ _, fun i hi => by simp [oOpen, IT.ids] at hi; subst hi; exact ⟨Nat.le_refl _, Nat.lt_succ_self _⟩, by simp [oOpen, IT.ids], rfl⟩
 | .cells _ o, x, n => by
  obtain ⟨h1, h2, h3, h4⟩ := oOpen_ids o x (n + 1)
  refine ⟨by simp only [oOpen]; omega, fun i hi => ?_, ?_, ?_⟩
  ·simp only [oOpen, IT.ids, List.mem_cons] at hi ⊢
   rcases hi with rfl | hi
   ·omega
   ·have := h2 i hi; omega
  ·simp only [oOpen, IT.ids, List.nodup_cons]
   exact ⟨fun hi => by have := h2 n hi; omega, h3⟩
  ·simp only [oOpen, IT.ids, List.map_cons, h4]
 | .mclo k o, x, n => oOpen_ids o x n
 | .unit, _, n => ⟨Nat.le_refl _, fun i hi => (by cases hi), List.nodup_nil, rfl⟩
 | .pair a b, x, n => by
  obtain ⟨h1, h2, h3, h4⟩ := oOpen_ids a x.1 n
  obtain ⟨k1, k2, k3, k4⟩ := oOpen_ids b x.2 (oOpen a x.1 n).2.2.2
  refine ⟨by simp only [oOpen]; omega, fun i hi => ?_, ?_, ?_⟩
  ·simp only [oOpen, IT.ids, List.mem_append] at hi ⊢
   rcases hi with hi | hi
   ·have := h2 i hi; omega
   ·have := k2 i hi; omega
  ·simp only [oOpen, IT.ids]
   refine List.nodup_append.2 ⟨h3, k3, fun i hi j hj e => ?_⟩
   have := h2 i hi
   have := k2 j hj
   omega
  ·simp only [oOpen, IT.ids, List.map_append, h4, k4]
 | .gone o, x, n => oOpen_ids o x n
 | .map a b, xs, n => ⟨Nat.le_succ _, fun i hi => by simp [oOpen, IT.ids] at hi; subst hi; exact ⟨Nat.le_refl _, Nat.lt_succ_self _⟩, by simp [oOpen, IT.ids], rfl⟩
theorem CReps.ptrs {E : Env} : ∀ {cs : List C} {vs : List Value}, CReps E cs vs → (∀ c ∈ cs, ∃ b, c = .ptr b 0) →
  ∃ ps : List Place, ps.length = (bptrs cs).length ∧ (∀ (i : Nat) b, (bptrs cs)[i]? = some b → ∃ p, ps[i]? = some p ∧ E.place b = some p ∧ p.nil = false) ∧ vs = ps.map fun p => Value.pointer (some ⟨p.blk, 0, none⟩)
 | [], vs, h, _ => by have h : _ = _ := h; exact ⟨[], rfl, fun i b hb => by simp [bptrs] at hb, h⟩
 | c :: cs, vs, h, hc => by
  obtain ⟨b, rfl⟩ := hc c List.mem_cons_self
  obtain ⟨v, us, rfl, ⟨p, hp, hn, rfl⟩, k⟩ := h
  obtain ⟨ps, g1, g2, rfl⟩ := CReps.ptrs k (fun c hc' => hc c (List.mem_cons_of_mem _ hc'))
  refine ⟨p :: ps, by simp [bptrs, g1], fun i b' hb => ?_, rfl⟩
  cases i with
  | zero => simp [bptrs] at hb; subst hb; exact ⟨p, rfl, hp, hn⟩
  | succ i => simpa using g2 i b' (by simpa [bptrs] using hb)
def OTy.allPtr : OTy → Bool
 | .cells _ _ => true
 | .unit => true
 | .pair a b => a.allPtr && b.allPtr
 | _ => false
def OTy.ok : OTy → Bool
 | .dat _ | .row _ _ | .unit | .map _ _ => true
 | .cells _ o => o.ok
 | .mclo _ o => o.allPtr && o.ok
 | .pair a b => a.ok && b.ok
 | .gone o => o.ok
theorem oOpen_ptrs : ∀ {o : OTy} {x : o.den} {n : Nat}, o.allPtr = true → ∀ c ∈ (oOpen o x n).1, ∃ b, c = .ptr b 0
 | .cells _ _, _, n, _, c, hc => by simp [oOpen] at hc; exact ⟨n, hc⟩
 | .unit, _, _, _, c, hc => by cases hc
 | .pair a b, x, n, h, c, hc => by
  simp only [OTy.allPtr, Bool.and_eq_true] at h
  simp only [oOpen, List.mem_append] at hc
  rcases hc with hc | hc
  ·exact oOpen_ptrs h.1 c hc
  ·exact oOpen_ptrs h.2 c hc
 | .dat _, _, _, h, _, _ => by cases h
 | .row _ _, _, _, h, _, _ => by cases h
 | .mclo _ _, _, _, h, _, _ => by cases h
 | .gone _, _, _, h, _, _ => by cases h
 | .map _ _, _, _, h, _, _ => by cases h
theorem oOpen_rep {F : Mem} (hEF : E.F = F) : ∀ {o : OTy} {x : o.den} {vs : List Value} {pl : PT} {n : Nat}, o.ok = true → ORep F w o x vs pl → ITAt E (oOpen o x n).2.2.1 pl →
  CReps E (oOpen o x n).1 vs ∧ ∀ m B, (m, B) ∈ (oOpen o x n).2.1 → ∃ p, E.place m = some p ∧ BRep E w p B ∧ p ∈ pl.list ∧ B.mut = true
 | .dat t, x, vs, pl, n, _, h, _ => ⟨CReps_flat (by rw [hEF]; exact h.2), fun m B hm => by cases hm⟩
 | .row e t, xs, vs, pl, n, _, h, hi => by
  obtain ⟨p, v, rfl, rfl, hv, hB⟩ := h
  refine ⟨⟨v, [], rfl, ⟨p, hi, hv⟩, rfl⟩, fun m B hm => ?_⟩
  simp [oOpen] at hm
  obtain ⟨rfl, rfl⟩ := hm
  exact ⟨p, hi, hB.mono ⟨by rw [hEF]; exact .refl _, fun _ _ h => by cases h⟩, by simp [PT.list], rfl⟩
 | .cells fx o, x, vs, pl, n, hk, h, hi => by
  obtain ⟨p, q, us, e, rfl, hn, rfl, hw, h⟩ := h
  obtain ⟨hp, hi⟩ := hi
  obtain ⟨k1, k2⟩ := oOpen_rep hEF (o := o) (n := n + 1) hk h hi
  refine ⟨⟨_, [], rfl, ⟨p, hp, hn, rfl⟩, rfl⟩, fun m B hm => ?_⟩
  simp only [oOpen, List.mem_cons] at hm
  rcases hm with hm | hm
  ·cases hm
   exact ⟨p, hp, ⟨hn, us, e, hw, k1⟩, by simp [PT.list], rfl⟩
  ·obtain ⟨p', g1, g2, g3, g4⟩ := k2 m B hm
   exact ⟨p', g1, g2, by simp [PT.list, g3], g4⟩
 | .mclo k o, x, vs, pl, n, hk, h, hi => by
  obtain ⟨ws, rfl, h⟩ := h
  simp only [OTy.ok, Bool.and_eq_true] at hk
  obtain ⟨k1, k2⟩ := oOpen_rep hEF (o := o) (n := n) hk.2 h hi
  obtain ⟨ps, g1, g2, g3⟩ := k1.ptrs (oOpen_ptrs hk.1)
  refine ⟨⟨_, [], rfl, ⟨ps, g1, g2, ?_⟩, rfl⟩, k2⟩
  rw [← g3]
 | .unit, _, vs, pl, n, _, h, _ => ⟨h.1, fun m B hm => by cases hm⟩
 | .pair a b, x, vs, pl, n, hk, h, hi => by
  obtain ⟨us, ws, p, q, rfl, rfl, h1, h2⟩ := h
  simp only [OTy.ok, Bool.and_eq_true] at hk
  obtain ⟨k1, k2⟩ := oOpen_rep hEF (n := n) hk.1 h1 hi.1
  obtain ⟨g1, g2⟩ := oOpen_rep hEF (n := (oOpen a x.1 n).2.2.2) hk.2 h2 hi.2
  refine ⟨k1.append g1, fun m B hm => ?_⟩
  simp only [oOpen, List.mem_append] at hm
  rcases hm with hm | hm
  ·obtain ⟨p', e1, e2, e3, e4⟩ := k2 m B hm
   exact ⟨p', e1, e2, by simp [PT.list, e3], e4⟩
  ·obtain ⟨p', e1, e2, e3, e4⟩ := g2 m B hm
   exact ⟨p', e1, e2, by simp [PT.list, e3], e4⟩
 | .gone o, x, vs, pl, n, hk, h, hi => oOpen_rep hEF (o := o) (n := n) hk h hi
 | .map a b, xs, vs, pl, n, _, h, hi => by
  obtain ⟨p, rfl, hn, rfl, hB⟩ := h
  refine ⟨⟨_, [], rfl, ⟨p, hi, hn, rfl⟩, rfl⟩, fun m B hm => ?_⟩
  simp [oOpen] at hm
  obtain ⟨rfl, rfl⟩ := hm
  exact ⟨p, hi, hB.mono ⟨by rw [hEF]; exact .refl _, fun _ _ h => by cases h⟩, by simp [PT.list], rfl⟩
def oClose : (o : OTy) → List C → RM (o.den × Fro × IT)
 | .dat t, cs => do
  let x ← reify t cs
  return (x.1, x.2, .nil)
 | .row e t, cs => (match cs with
  | [.row tt b] => .blk b fun
   | .row false e' t' xs => (match tt.beq t' && Nat.beq e e' with
    | true => do
     let zs ← RM.ofOption (Ty.as (a := .list t') (.list t) (lit xs))
     return (Ty.L zs, [], .row (some b))
    | false => .fail)
   | _ => .fail
  | [.nilsl] => .ret ([], [], .row none)
  | _ => .fail)
 | .cells _ o, cs => (match cs with
  | [.ptr b off] => (match Nat.beq off 0 with
   | true => .blk b fun
    | .cells ds => do
     let r ← oClose o ds
     return (r.1, r.2.1, .cells b r.2.2)
    | _ => .fail
   | false => .fail)
  | _ => .fail)
 | .mclo k o, cs => (match cs with
  | [.mclo k' bs] => (match Nat.beq k k' with
   | true => oClose o (bs.map fun b => .ptr b 0)
   | false => .fail)
  | _ => .fail)
 | .unit, cs => (match cs with
  | [] => .ret ((), [], .nil)
  | _ => .fail)
 | .pair a b, cs => do
  let x ← oClose a (cs.take a.size)
  let y ← oClose b (cs.drop a.size)
  guardR (froApart x.2.1 y.2.1)
  return ((x.1, y.1), x.2.1 ++ y.2.1, .pair x.2.2 y.2.2)
 | .gone o, cs => oClose o cs
 | .map a b, cs => (match cs with
  | [.map _ _ n] => .blk n fun
   | .map false a' b' m _ => do
    let y ← RM.ofOption (Ty.as (a := .map a' b') (.map a b) m)
    return (Ty.M y, [], .row (some n))
   | _ => .fail
  | _ => .fail)
theorem ptrs_creps {E : Env} : ∀ {bs : List Nat} {ps : List Place}, ps.length = bs.length → (∀ (i : Nat) b, bs[i]? = some b → ∃ p, ps[i]? = some p ∧ E.place b = some p ∧ p.nil = false) →
  CReps E (bs.map fun b => .ptr b 0) (ps.map fun p => Value.pointer (some ⟨p.blk, 0, none⟩))
 | [], [], _, _ => rfl
 | b :: bs, p :: ps, hl, h => by
  obtain ⟨q, h1, h2, h3⟩ := h 0 b rfl
  simp at h1
  subst h1
  exact ⟨_, _, rfl, ⟨p, h2, h3, rfl⟩, ptrs_creps (by simpa using hl) fun i b' hb => h (i + 1) b' (by simpa using hb)⟩
 | [], _ :: _, h, _ => by simp at h
 | _ :: _, [], h, _ => by simp at h
structure Closed (S : St) (o : OTy) (cs : List C) (x : o.den) (fr : Fro) (it : IT) : Prop where
 fro : FroOk S.bl fr
 own : ∀ n ∈ it.ids, ∃ B, find S.bl n = some B ∧ B.mut = true
 rep : ∀ (E : Env) (w : World) (vs : List Value), CReps E cs vs → Frozen S.bl E w fr → (∀ n ∈ it.ids, ∀ B, find S.bl n = some B → ∃ p, E.place n = some p ∧ BRep E w p B) → ∃ pl, ITAt E it pl ∧ ORep E.F w o x vs pl
theorem oClose_spec : ∀ {o : OTy} {cs : List C} {x : o.den} {fr : Fro} {it : IT}, (oClose o cs).run S ctx = some (x, fr, it) → Closed S o cs x fr it
 | .dat t, cs, x, fr, it, hr => by
  unfold oClose at hr
  obtain ⟨⟨y, f⟩, h1, hr⟩ := RM.run_bind' hr
  cases RM.run_pure' hr
  exact ⟨reify_froOk h1, fun n hn => (by cases hn), fun E w vs hv hf _ => ⟨.nil, trivial, rfl, reify_rep h1 hv hf⟩⟩
 | .row e t, cs, x, fr, it, hr => by
  unfold oClose at hr
  split at hr
  ·rename_i tt b
   simp only [RM.run] at hr
   split at hr
   ·rename_i B hB
    split at hr
    ·rename_i e' t' xs
     split at hr
     ·rename_i hb
      simp only [Bool.and_eq_true] at hb
      have he := Nat.eq_of_beq_eq_true hb.2
      subst he
      obtain ⟨zs, h1, hr⟩ := RM.run_bind' hr
      cases RM.run_pure' hr
      obtain ⟨ee, rfl⟩ := Ty.as_some (run_ofOption h1)
      cases ee
      refine ⟨.nil, fun n hn => ?_, fun E w vs hv hf hblk => ?_⟩
      ·simp [IT.ids] at hn; subst hn; exact ⟨_, hB, rfl⟩
      ·obtain ⟨v, rfl, hv1⟩ := one_reps hv
       obtain ⟨p, hp, hk⟩ := hv1
       obtain ⟨p', hp', hBr⟩ := hblk b (by simp [IT.ids]) _ hB
       rw [hp] at hp'
       cases hp'
       exact ⟨.row p, hp, p, v, rfl, rfl, hk, hBr⟩
     ·cases hr
    ·cases hr
   ·cases hr
  ·cases hr
   refine ⟨.nil, fun n hn => (by cases hn), fun E w vs hv hf _ => ?_⟩
   obtain ⟨v, rfl, hv1⟩ := one_reps hv
   have hv2 : v = .slice none 0 0 := hv1
   exact ⟨.row nilPlace, rfl, nilPlace, v, rfl, rfl, .inl ⟨rfl, hv2, rfl⟩, .inl ⟨rfl, rfl, rfl⟩⟩
  ·cases hr
 | .cells fx o, cs, x, fr, it, hr => by
  unfold oClose at hr
  split at hr
  ·rename_i b off
   split at hr
   ·rename_i ho
    have ho := Nat.eq_of_beq_eq_true ho
    subst ho
    simp only [RM.run] at hr
    split at hr
    ·rename_i B hB
     split at hr
     ·rename_i ds
      obtain ⟨⟨y, f, t⟩, h1, hr⟩ := RM.run_bind' hr
      cases RM.run_pure' hr
      obtain ⟨k1, k2, k3⟩ := oClose_spec (o := o) h1
      refine ⟨k1, fun n hn => ?_, fun E w vs hv hf hblk => ?_⟩
      ·simp only [IT.ids, List.mem_cons] at hn
       rcases hn with rfl | hn
       ·exact ⟨_, hB, rfl⟩
       ·exact k2 n hn
      ·obtain ⟨v, rfl, p, hp, hn, rfl⟩ := one_reps hv
       obtain ⟨p', hp', _, us, e, hw, hcs⟩ := hblk b (by simp [IT.ids]) _ hB
       rw [hp] at hp'
       cases hp'
       obtain ⟨q, g1, g2⟩ := k3 E w us.toList hcs hf fun n hn => hblk n (by simp [IT.ids, hn])
       exact ⟨.cells p q, ⟨hp, g1⟩, p, q, us, e, rfl, hn, rfl, hw, g2⟩
     ·cases hr
    ·cases hr
   ·cases hr
  ·cases hr
 | .mclo k o, cs, x, fr, it, hr => by
  unfold oClose at hr
  split at hr
  ·rename_i k' bs
   split at hr
   ·rename_i hk
    have hk := Nat.eq_of_beq_eq_true hk
    subst hk
    obtain ⟨k1, k2, k3⟩ := oClose_spec (o := o) hr
    refine ⟨k1, k2, fun E w vs hv hf hblk => ?_⟩
    obtain ⟨v, rfl, ps, g1, g2, rfl⟩ := one_reps hv
    obtain ⟨pl, m1, m2⟩ := k3 E w _ (ptrs_creps g1 g2) hf hblk
    exact ⟨pl, m1, _, rfl, m2⟩
   ·cases hr
  ·cases hr
 | .unit, cs, x, fr, it, hr => by
  unfold oClose at hr
  split at hr
  ·cases hr
   exact ⟨.nil, fun n hn => (by cases hn), fun E w vs hv _ _ => ⟨.nil, trivial, hv, rfl⟩⟩
  ·cases hr
 | .pair a b, cs, x, fr, it, hr => by
  unfold oClose at hr
  obtain ⟨⟨y, f, t⟩, h1, hr⟩ := RM.run_bind' hr
  obtain ⟨⟨z, g, u⟩, h2, hr⟩ := RM.run_bind' hr
  obtain ⟨_, h3, hr⟩ := RM.run_bind' hr
  cases RM.run_pure' hr
  obtain ⟨k1, k2, k3⟩ := oClose_spec h1
  obtain ⟨l1, l2, l3⟩ := oClose_spec h2
  refine ⟨k1.append l1 (run_guardR h3), fun n hn => ?_, fun E w vs hv hf hblk => ?_⟩
  ·simp only [IT.ids, List.mem_append] at hn
   rcases hn with hn | hn
   ·exact k2 n hn
   ·exact l2 n hn
  ·obtain ⟨p, m1, m2⟩ := k3 E w _ (hv.take a.size) hf.left fun n hn => hblk n (by simp [IT.ids, hn])
   obtain ⟨q, n1, n2⟩ := l3 E w _ (hv.drop a.size) hf.right fun n hn => hblk n (by simp [IT.ids, hn])
   exact ⟨.pair p q, ⟨m1, n1⟩, _, _, p, q, (List.take_append_drop _ _).symm, rfl, m2, n2⟩
 | .gone o, cs, x, fr, it, hr => by
  obtain ⟨h1, h2, h3⟩ := oClose_spec (o := o) hr
  exact ⟨h1, h2, h3⟩
 | .map a b, cs, x, fr, it, hr => by
  unfold oClose at hr
  split at hr
  ·rename_i k1 k2 n
   simp only [RM.run] at hr
   split at hr
   ·rename_i B hB
    split at hr
    ·rename_i a' b' m cur
     obtain ⟨zs, h1, hr⟩ := RM.run_bind' hr
     cases RM.run_pure' hr
     obtain ⟨ee, rfl⟩ := Ty.as_some (run_ofOption h1)
     cases ee
     refine ⟨.nil, fun i hi => ?_, fun E w vs hv hf hblk => ?_⟩
     ·simp [IT.ids] at hi; subst hi; exact ⟨_, hB, rfl⟩
     ·obtain ⟨v, rfl, p, hp, hn, hv1⟩ := one_reps hv
      obtain ⟨p', hp', hBr⟩ := hblk n (by simp [IT.ids]) _ hB
      rw [hp] at hp'
      cases hp'
      obtain ⟨g0, es, cl, g1, g2, g3, _⟩ := hBr
      exact ⟨.row p, hp, p, rfl, hn, by rw [hv1], g0, es, cl, g1, (fun h => by cases h), g3, fun _ _ h => by cases h⟩
    ·cases hr
   ·cases hr
  ·cases hr
end Go.Vc
end

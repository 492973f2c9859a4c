/-
  Regions, third part: whatever order the machine draws, the region comes to the state that the order of the text comes to.
-/
import Derived.Test.YtpnnfimacblhgaaVcn
set_option linter.unusedVariables false
set_option linter.unusedSimpArgs false
namespace Go.Vc
open Go

variable {P : Program} {X : Ctx} {w0 : World} {foot : Foot} {base : Mem} {S : St} {E : Env} {a : Act} {w : World} {ctx : Tags}

theorem TRel.congr {S' : St} (h : TRel w0 foot base S E a w) (hs : ∀ n, find S'.sl n = find S.sl n) (hb : ∀ b, find S'.bl b = find S.bl b) (hu : ∀ i, i ∈ S.used → i ∈ S'.used) (hn : S'.n = S.n) (hp : S'.pin = S.pin) : TRel w0 foot base S' E a w :=
  { toHRel := h.toHRel.congr (fun id B hf => by rwa [hb] at hf) hu
    slots := fun n ts v hf ht => h.slots n ts v (by rwa [hs] at hf) ht
    size := hn ▸ h.size
    defers := h.defers
    pins := fun n p h1 => ⟨hp ▸ (h.pins n p h1).1, (h.pins n p h1).2⟩
    untagged := fun n ts v hf ht => h.untagged n ts v (by rwa [hs] at hf) ht }

theorem apartAll_spec {recs : List Rec} {an : List (List Nat)} : ∀ {n : Nat}, apartAll recs an n = true → ∀ i j c d, i < j → j < n → recs[i]? = some c → recs[j]? = some d →
    i ∈ an.getD j [] ∨ ((∀ l ∈ Res.ws c.o c.r, l ∉ d.rs ++ Res.ws d.o d.r) ∧ ∀ l ∈ Res.ws d.o d.r, l ∉ c.rs)
  | 0, _, i, j, c, d, hij, hj, _, _ => by omega
  | n + 1, h, i, j, c, d, hij, hj, hc, hd => by
    simp only [apartAll, Bool.and_eq_true, List.all_eq_true] at h
    by_cases hn : j = n
    · subst hn
      have := h.2 i (List.mem_range.2 hij)
      rw [hc, hd] at this
      simp only [Bool.or_eq_true, Bool.and_eq_true, Bool.not_eq_true'] at this
      rcases this with h1 | ⟨h1, h2⟩
      · exact .inl (has_mem.1 h1)
      · exact .inr ⟨meet_spec h1, meet_spec h2⟩
    · exact apartAll_spec h.1 i j c d hij (by omega) hc hd

theorem tagsApart_spec {recs : List Rec} : ∀ {n : Nat}, tagsApart recs n = true → ∀ i j c d t, i < j → j < n → recs[i]? = some c → recs[j]? = some d → d.o.dst = some t → ∀ x ∈ c.ctx, x.1 ≠ t
  | 0, _, i, j, c, d, t, hij, hj, _, _, _ => by omega
  | n + 1, h, i, j, c, d, t, hij, hj, hc, hd, ht => by
    simp only [tagsApart, Bool.and_eq_true, List.all_eq_true] at h
    by_cases hn : j = n
    · subst hn
      have := h.2 i (List.mem_range.2 hij)
      rw [hc, hd] at this
      simp only [ht, Bool.not_eq_true'] at this
      exact mentions_spec this
    · exact tagsApart_spec h.1 i j c d t hij (by omega) hc hd ht

theorem predsOk_spec {ops : List Oper} : ∀ {n : Nat}, predsOk ops n = true → ∀ i o, i < n → ops[i]? = some o → ∀ p ∈ preds o, p < i
  | 0, _, i, o, hi, _ => by omega
  | n + 1, h, i, o, hi, ho => by
    simp only [predsOk, Bool.and_eq_true] at h
    by_cases hn : i = n
    · subst hn
      rw [ho] at h
      intro p hp
      have := List.all_eq_true.1 h.2 p hp
      exact Nat.le_of_ble_eq_true this
    · exact predsOk_spec h.1 i o (by omega) ho

theorem clean_spec : ∀ {l : List (Nat × (Tags × SV))}, clean l = true → ∀ n ts v, find l n = some (ts, v) → ts = []
  | [], _, n, ts, v, h => by cases h
  | (m, ts', v') :: l, h, n, ts, v, hf => by
    unfold clean at h
    split at h
    · rename_i heq; cases heq
    · rename_i l' heq
      cases heq
      unfold find at hf
      split at hf
      · cases hf; rfl
      · exact clean_spec h n ts v hf
    · cases h

theorem ancs_get : ∀ {l : List Oper} {acc : List (List Nat)} (j : Nat), (ancs l acc).getD j [] = if j < acc.length then acc.getD j [] else
    match l[j - acc.length]? with
    | some o => dd ((preds o).flatMap fun p => p :: ((ancs l acc).take j).getD p []) []
    | none => []
  | [], acc, j => by
    simp only [ancs]
    split
    · rfl
    · rename_i h
      rw [List.getD_eq_getElem?_getD, List.getElem?_eq_none (by omega)]
      simp
  | o :: l, acc, j => by
    simp only [ancs]
    rw [ancs_get (l := l)]
    simp only [List.length_append, List.length_singleton]
    have hpre : ∀ (l : List Oper) (acc : List (List Nat)), (ancs l acc).take acc.length = acc := by
      intro l
      induction l with
      | nil => intro acc; simp [ancs]
      | cons o l ih =>
        intro acc
        have := ih (acc ++ [dd ((preds o).flatMap fun p => p :: acc.getD p []) []])
        simp only [List.length_append, List.length_singleton] at this
        simp only [ancs]
        have h2 := congrArg (List.take acc.length) this
        rw [List.take_take, Nat.min_eq_left (by omega)] at h2
        rw [h2]
        simp
    split
    · rename_i hj
      by_cases h2 : j < acc.length
      · rw [if_pos h2, List.getD_eq_getElem?_getD, List.getElem?_append_left h2, ← List.getD_eq_getElem?_getD]
      · have hj' : j = acc.length := by omega
        subst hj'
        rw [if_neg h2]
        simp only [Nat.sub_self, List.getElem?_cons_zero]
        rw [List.getD_eq_getElem?_getD, List.getElem?_append_right (by omega)]
        simp only [Nat.sub_self, List.getElem?_cons_zero, Option.getD_some]
        have := hpre (o :: l) acc
        simp only [ancs] at this
        rw [this]
    · rename_i hj
      rw [if_neg (by omega)]
      have e : j - acc.length = (j - (acc.length + 1)) + 1 := by omega
      rw [e, List.getElem?_cons_succ]

/-- What has been listed holds all forerunners of what has been listed. -/
theorem ancs_closed {ops : List Oper} {L : Nat → Bool} (hp : predsOk ops ops.length = true) (hcl : ∀ i o, ops[i]? = some o → L i = true → ∀ p ∈ preds o, L p = true) :
    ∀ (i : Nat), L i = true → ∀ p ∈ (ancs ops []).getD i [], L p = true := by
  intro i
  induction i using Nat.strongRecOn with
  | _ i ih =>
    intro hL p hm
    rw [ancs_get] at hm
    simp only [List.length_nil, Nat.not_lt_zero, if_false, Nat.sub_zero] at hm
    split at hm
    · rename_i o ho
      obtain ⟨q, hq, hm⟩ := List.mem_flatMap.1 ((dd_mem hm).resolve_right (by simp))
      have hLq := hcl i o ho hL q hq
      have hi := (List.getElem?_eq_some_iff.1 ho).1
      have hqi := predsOk_spec hp i o hi ho q hq
      rcases List.mem_cons.1 hm with rfl | hm
      · exact hLq
      · rw [List.getD_eq_getElem?_getD, List.getElem?_take_of_lt hqi, ← List.getD_eq_getElem?_getD] at hm
        exact ih q hqi hLq p hm
    · cases hm

/-- The set that has one operation more. -/
def andOne (L : Nat → Bool) (i : Nat) : Nat → Bool := fun j => L j || decide (j = i)

theorem draw_step (hT : TabOk P X.tab) (hK : ∀ f con, X.con f = some con → ConOk P f con) {ops : Array Oper} {recs : List Rec} {S' : St} (hseq : exSeq X ops ops.toList S = some (recs, S')) (hp : predsOk ops.toList ops.size = true) (hcl : clean S.sl = true)
    (htg : tagsApart recs ops.size = true) (hap : apartAll recs (ancs ops.toList []) ops.size = true) (hcond : ∀ p ∈ condsOf recs, p) {L : Nat → Bool} (hL : ∀ i o, ops[i]? = some o → L i = true → ∀ p ∈ preds o, L p = true)
    {i : Nat} (hi : i < ops.size) (hLi : L i = false) (hpre : ∀ o, ops[i]? = some o → ∀ p ∈ preds o, L p = true) (h : TRel w0 foot base (stX L recs S) E a w) {Q : Exit → Act → World → Prop} {K : Act → World → Prop}
    (hK' : ∀ E' a' w', TRel w0 foot base (stX (andOne L i) recs S) E' a' w' → K a' w') : wpOp P ops Q i K a w := by
  obtain ⟨hlen, hS', hat⟩ := exSeq_at hseq
  have ho : ops[i]? = some ops[i] := Array.getElem?_eq_getElem hi
  have hto : ∀ {j : Nat} (hj : j < ops.size), ops.toList[j]? = some ops[j] := fun hj => by simp
  obtain ⟨c, hc, hstep⟩ := hat i ops[i] (hto hi)
  obtain ⟨h1, h2, h3, h4, h5, h6, h7, h8⟩ := stepOp_spec hstep
  have hp' : predsOk ops.toList ops.toList.length = true := by simpa using hp
  have hLl : ∀ i o, ops.toList[i]? = some o → L i = true → ∀ p ∈ preds o, L p = true := fun i o ho => hL i o (by simpa using ho)
  have hanc := ancs_closed hp' hLl
  -- forerunners of the operation
  have hanci : ∀ p ∈ (ancs ops.toList []).getD i [], L p = true := by
    intro p hm
    rw [ancs_get] at hm
    simp only [List.length_nil, Nat.not_lt_zero, if_false, Nat.sub_zero] at hm
    split at hm
    · rename_i o ho'
      obtain ⟨q, hq, hm⟩ := List.mem_flatMap.1 ((dd_mem hm).resolve_right (by simp))
      have hLq := hpre o (by simpa using ho') q hq
      have hqi := predsOk_spec hp i o hi ho' q hq
      rcases List.mem_cons.1 hm with rfl | hm
      · exact hLq
      · rw [List.getD_eq_getElem?_getD, List.getElem?_take_of_lt hqi, ← List.getD_eq_getElem?_getD] at hm
        exact hanc q hLq p hm
    · cases hm
  have hjlt : ∀ {j : Nat} {d : Rec}, recs[j]? = some d → j < ops.size := fun {j d} hd => by
    have := (List.getElem?_eq_some_iff.1 hd).1
    rw [hlen] at this
    simpa using this
  -- a writer of what is read has been carried out just if it stands ahead
  have hwr : ∀ l ∈ c.rs, ∀ j d, recs[j]? = some d → l ∈ Res.ws d.o d.r → L j = decide (j < i) := fun l hl j d hd hld => by
    rcases Nat.lt_trichotomy j i with hji | hji | hji
    · rw [decide_eq_true hji]
      rcases apartAll_spec hap j i d c hji hi hd hc with hm | ⟨hm, _⟩
      · exact hanci j hm
      · exact absurd (List.mem_append_left _ hl) (hm l hld)
    · subst hji; rw [hLi]; simp
    · rw [decide_eq_false (by omega)]
      rcases apartAll_spec hap i j c d hji (hjlt hd) hc hd with hm | ⟨_, hm⟩
      · cases hLj : L j with
        | false => rfl
        | true => have := hanc j hLj i hm; rw [hLi] at this; cases this
      · exact absurd hl (hm l hld)
  have hagree : ∀ l ∈ c.rs, Agree (stX (fun j => decide (j < i)) recs S) (stX L recs S) l := fun l hl =>
    stX_agree (.refl _ _) fun j d hd hld => (hwr l hl j d hd hld).symm
  have hctxs : ∀ t ∈ c.ctx, find (stX L recs S).sl t.1 = find (stX (fun j => decide (j < i)) recs S).sl t.1 := fun t ht =>
    hagree (.slot t.1) (by rw [h8]; exact List.mem_append_left _ (List.mem_map_of_mem ht))
  have hg : guardCtx (stX L recs S) ops ops[i] = some c.ctx := by
    unfold guardCtx at h1 ⊢
    cases hog : ops[i].guard with
    | none => rw [hog] at h1; exact h1
    | some jw =>
      obtain ⟨j, want⟩ := jw
      rw [hog] at h1
      simp only at h1 ⊢
      cases hd : (ops[j]?).bind (·.dst) with
      | none => rw [hd] at h1; cases h1
      | some d =>
        rw [hd] at h1
        simp only at h1 ⊢
        cases hf : find (stX (fun j => decide (j < i)) recs S).sl d with
        | none => rw [hf] at h1; cases h1
        | some tv =>
          obtain ⟨tags, v⟩ := tv
          rw [hf] at h1
          have hcc : c.ctx = (d, want) :: tags := (Option.some.inj h1).symm
          have := hctxs (d, want) (by rw [hcc]; exact List.mem_cons_self)
          simp only at this
          rw [this, hf, hcc]
  have hrun : (exOp X ops[i]).run (stX L recs S) c.ctx = some c.r := by
    rw [← h2]
    exact RM.run_agree fun l hl => hagree l (by rw [h8]; exact List.mem_append_right _ hl)
  have hwrap : ∀ (ts : Tags) (p : Prop), (∀ t ∈ ts, t ∈ c.ctx) → wrapP (stX L recs S) ts p = wrapP (stX (fun j => decide (j < i)) recs S) ts p := by
    intro ts
    induction ts with
    | nil => intro p _; rfl
    | cons t ts ih =>
      intro p hts
      obtain ⟨n, want⟩ := t
      have e : boolAt (stX L recs S) n = boolAt (stX (fun j => decide (j < i)) recs S) n := by
        unfold boolAt
        rw [hctxs (n, want) (hts _ List.mem_cons_self)]
      unfold wrapP
      rw [e]
      exact ih _ fun t ht => hts t (List.mem_cons_of_mem _ ht)
  have hmemc : c ∈ recs := List.mem_of_getElem? hc
  have hconds : ∀ q ∈ c.r.conds, wrapP (stX L recs S) c.ctx q := fun q hq => by
    rw [hwrap _ _ fun t ht => ht]
    refine hcond _ ?_
    exact List.mem_flatMap.2 ⟨c, hmemc, by rw [h6]; exact List.mem_map_of_mem hq⟩
  have hnew : ∀ id ∈ c.r.new, id ∉ (stX L recs S).used := fun id hid hu => by
    rcases stX_used.1 hu with hu | ⟨j, d, hd, hLj, hidd⟩
    · exact allFresh_spec h4 id hid (stX_used.2 (.inl hu))
    · rcases Nat.lt_trichotomy j i with hji | hji | hji
      · exact allFresh_spec h4 id hid (stX_used.2 (.inr ⟨j, d, hd, by simpa using hji, hidd⟩))
      · subst hji; rw [hLi] at hLj; cases hLj
      · have hjs := hjlt hd
        obtain ⟨d', hd', hstep'⟩ := hat j ops[j] (hto hjs)
        rw [hd] at hd'
        cases hd'
        have := (stepOp_spec hstep').2.2.2.1
        exact allFresh_spec this id hidd (stX_used.2 (.inr ⟨i, c, hc, by simpa using hji, hid⟩))
  have hdst : DstOk (stX L recs S) c.ctx ops[i] := fun t ht => by
    obtain ⟨g1, g2, g3⟩ := dstOk_spec h3 t ht
    refine ⟨by rw [stX_n] at g1 ⊢; exact g1, fun n ts v hf x hx => ?_, g3⟩
    rcases stX_slots hf with hf | ⟨j, d, hd, hLj, rfl⟩
    · rw [clean_spec hcl n ts v hf] at hx; cases hx
    · rcases Nat.lt_trichotomy j i with hji | hji | hji
      · exact tagsApart_spec htg j i d c t hji hi hd hc (by rw [h7]; exact ht) x hx
      · subst hji; rw [hLi] at hLj; cases hLj
      · intro e
        have hld : Loc.slot t ∈ d.rs := by
          have hjs := hjlt hd
          obtain ⟨d', hd', hstep'⟩ := hat j ops[j] (hto hjs)
          rw [hd] at hd'
          cases hd'
          rw [(stepOp_spec hstep').2.2.2.2.2.2.2]
          exact List.mem_append_left _ (List.mem_map.2 ⟨x, hx, by rw [e]⟩)
        have hlc : Loc.slot t ∈ Res.ws c.o c.r := by
          rw [h7]; unfold Res.ws; rw [ht]; simp
        rcases apartAll_spec hap i j c d hji (hjlt hd) hc hd with hm | ⟨hm, _⟩
        · have := hanc j hLj i hm; rw [hLi] at this; cases this
        · exact hm _ hlc (List.mem_append_left _ hld)
  refine wpOp_sound hT hK h ho hg hrun hdst hnew h5 hconds fun E' a' w' h' => hK' E' a' w' ?_
  -- the two states are one
  have hall : ∀ l, Agree (upd (stX L recs S) ops[i] c.ctx c.r) (stX (andOne L i) recs S) l := fun l => by
    rw [← h7]
    by_cases hl : l ∈ Res.ws c.o c.r
    · refine stX_last hc (by simp [andOne]) hl fun j d hji hd hld => ?_
      have hne : j ≠ i := by omega
      simp only [andOne, hne, decide_false, Bool.or_false]
      rcases apartAll_spec hap i j c d hji (hjlt hd) hc hd with hm | ⟨hm, _⟩
      · cases hLj : L j with
        | false => rfl
        | true => have := hanc j hLj i hm; rw [hLi] at this; cases this
      · exact absurd (List.mem_append_right _ hld) (hm l hl)
    · refine (upd_other hl).symm.trans (stX_agree (.refl _ _) fun j d hd hld => ?_)
      have hne : j ≠ i := fun e => by subst e; rw [hc] at hd; cases hd; exact hl hld
      simp [andOne, hne]
  refine h'.congr (fun n => hall (.slot n)) (fun b => hall (.blk b)) (fun id hid => ?_) (by rw [stX_n]; show S.n = (stX L recs S).n; rw [stX_n]) (by rw [stX_pin]; show S.pin = (stX L recs S).pin; rw [stX_pin])
  rcases List.mem_append.1 hid with hid | hid
  · exact stX_used.2 (.inr ⟨i, c, hc, by simp [andOne], hid⟩)
  · rcases stX_used.1 hid with hu | ⟨j, d, hd, hLj, hidd⟩
    · exact stX_used.2 (.inl hu)
    · exact stX_used.2 (.inr ⟨j, d, hd, by simp [andOne, hLj], hidd⟩)

theorem getD_set {listed : Array Bool} {i j : Nat} (hi : i < listed.size) : (listed.setIfInBounds i true).getD j false = andOne (fun k => listed.getD k false) i j := by
  unfold andOne
  simp only [Array.getD_eq_getD_getElem?, Array.getElem?_setIfInBounds]
  by_cases hj : i = j
  · subst hj; simp [hi]
  · simp [hj, Ne.symm hj]

theorem mem_ready {ops : Array Oper} {listed : Array Bool} (hs : listed.size = ops.size) {i : Nat} : i ∈ Region.ready .any ops listed ↔ ∃ o, ops[i]? = some o ∧ listed.getD i false = false ∧ ∀ p ∈ preds o, listed.getD p false = true := by
  unfold Region.ready
  simp only [List.mem_filter, List.mem_range, Bool.and_eq_true, Bool.not_eq_true']
  constructor
  · rintro ⟨hi, h1, h2⟩
    refine ⟨ops[i], Array.getElem?_eq_getElem hi, ?_, ?_⟩
    · rw [Array.getD_eq_getD_getElem?] at h1 ⊢
      rw [Array.getElem?_eq_getElem (by omega)] at h1 ⊢
      exact h1
    · rw [Array.getElem?_eq_getElem hi] at h2
      simp only [Option.map_some, Option.getD_some] at h2
      intro p hp
      unfold preds at hp
      obtain ⟨e, he, rfl⟩ := List.mem_map.1 hp
      obtain ⟨he1, he2⟩ := List.mem_filter.1 he
      have := Array.all_eq_true_iff_forall_mem.1 h2 e (by simpa using he1)
      rw [he2] at this
      simpa using this
  · rintro ⟨o, ho, h1, h2⟩
    have hi := (Array.getElem?_eq_some_iff.1 ho).1
    refine ⟨hi, ?_, ?_⟩
    · rw [Array.getD_eq_getD_getElem?] at h1 ⊢
      rw [Array.getElem?_eq_getElem (by omega)] at h1 ⊢
      exact h1
    · rw [ho]
      simp only [Option.map_some, Option.getD_some]
      refine Array.all_eq_true_iff_forall_mem.2 fun e he => ?_
      cases hb : Region.binds .any e with
      | false => simp
      | true =>
        have := h2 e.on (by
          unfold preds
          exact List.mem_map_of_mem (List.mem_filter.2 ⟨by simpa using he, hb⟩))
        simpa using this

/-- A region in any order. -/
theorem exDraw_sound (hT : TabOk P X.tab) (hK : ∀ f con, X.con f = some con → ConOk P f con) {ops : Array Oper} {recs : List Rec} {S' : St} (hr : exDraw X ops S = some (recs, S')) (h : TRel w0 foot base S E a w) (hcond : ∀ p ∈ condsOf recs, p)
    {Q : Exit → Act → World → Prop} (hQ : ∀ E' a' w', TRel w0 foot base S' E' a' w' → Q .normal a' w') : wpAny P .any ops Q ops.size (Array.replicate ops.size false) a w := by
  unfold exDraw at hr
  split at hr
  · cases hr
  · rename_i recs' S'' hseq
    split at hr
    · rename_i hb
      cases hr
      simp only [Bool.and_eq_true] at hb
      obtain ⟨hp, hcl, htg, hap⟩ := hb
      obtain ⟨hlen, hS', hat⟩ := exSeq_at hseq
      have hlen' : recs.length = ops.size := by simpa using hlen
      -- a smallest one that is not listed is ready
      have least : ∀ (L : Nat → Bool), (∃ i, i < ops.size ∧ L i = false) → ∃ i, i < ops.size ∧ L i = false ∧ ∀ j, j < i → L j = true := fun L ⟨i, hi, hL⟩ => by
        induction i using Nat.strongRecOn with
        | _ i ih =>
          by_cases hex : ∃ j, j < i ∧ L j = false
          · obtain ⟨j, hj, hLj⟩ := hex
            exact ih j hj (by omega) hLj
          · refine ⟨i, hi, hL, fun j hj => ?_⟩
            cases hLj : L j with
            | true => rfl
            | false => exact absurd ⟨j, hj, hLj⟩ hex
      have all : ∀ (fuel : Nat) (listed : Array Bool) (E : Env) (a : Act) (w : World), listed.size = ops.size → ((List.range ops.size).filter fun i => !listed.getD i false).length = fuel →
          (∀ i o, ops[i]? = some o → listed.getD i false = true → ∀ p ∈ preds o, listed.getD p false = true) → TRel w0 foot base (stX (fun i => listed.getD i false) recs S) E a w → wpAny P .any ops Q fuel listed a w := by
        intro fuel
        have fin : ∀ (listed : Array Bool) (E : Env) (a : Act) (w : World), listed.size = ops.size → TRel w0 foot base (stX (fun i => listed.getD i false) recs S) E a w → Region.ready .any ops listed = [] → Q .normal a w := fun listed E a w hs h hready => by
          refine hQ E a w ?_
          have hfull : ∀ i, i < ops.size → listed.getD i false = true := fun i hi => by
            cases hLi : listed.getD i false with
            | true => rfl
            | false =>
              obtain ⟨k, hk, hLk, hbelow⟩ := least (fun i => listed.getD i false) ⟨i, hi, hLi⟩
              have : k ∈ Region.ready .any ops listed := (mem_ready hs).2 ⟨ops[k], Array.getElem?_eq_getElem hk, hLk, fun p hpp => hbelow p (predsOk_spec hp k ops[k] hk (by simp) p hpp)⟩
              rw [hready] at this
              cases this
          have hag : ∀ l, Agree (stX (fun i => listed.getD i false) recs S) S' l := fun l => by
            rw [hS']
            exact stX_agree (.refl _ _) fun i c hc _ => hfull i (by rw [← hlen']; exact (List.getElem?_eq_some_iff.1 hc).1)
          refine h.congr (fun n => hag (.slot n)) (fun b => hag (.blk b)) (fun id hid => ?_) (by rw [hS', stX_n, stX_n]) (by rw [hS', stX_pin, stX_pin])
          rw [hS']
          rcases stX_used.1 hid with hu | ⟨j, d, hd, _, hidd⟩
          · exact stX_used.2 (.inl hu)
          · exact stX_used.2 (.inr ⟨j, d, hd, rfl, hidd⟩)
        induction fuel with
        | zero =>
          intro listed E a w hs hcount hclosed h
          have hready : Region.ready .any ops listed = [] := by
            refine List.eq_nil_iff_forall_not_mem.2 fun i hi => ?_
            obtain ⟨o, ho, hL, _⟩ := (mem_ready hs).1 hi
            have hi' := (Array.getElem?_eq_some_iff.1 ho).1
            have : i ∈ (List.range ops.size).filter fun i => !listed.getD i false := List.mem_filter.2 ⟨List.mem_range.2 hi', by simp [hL]⟩
            rw [List.eq_nil_of_length_eq_zero hcount] at this
            cases this
          exact ⟨hready, fin listed E a w hs h hready⟩
        | succ fuel ih =>
          intro listed E a w hs hcount hclosed h
          refine ⟨fin listed E a w hs h, fun i hi => ?_⟩
          obtain ⟨o, ho, hL, hpre⟩ := (mem_ready hs).1 hi
          have hi' := (Array.getElem?_eq_some_iff.1 ho).1
          have hfun : (fun j => (listed.setIfInBounds i true).getD j false) = andOne (fun k => listed.getD k false) i := by
            funext j; exact getD_set (by omega)
          refine draw_step hT hK hseq hp hcl htg hap hcond (L := fun i => listed.getD i false) hclosed hi' hL (fun o' ho' p hpp => hpre p (by rw [ho] at ho'; cases ho'; exact hpp)) h fun E' a' w' h' => ?_
          refine ih _ E' a' w' (by simpa using hs) ?_ (fun j o' ho' hj p hpp => ?_) (by rw [hfun]; exact h')
          · have hperm : ((List.range ops.size).filter fun j => !(listed.setIfInBounds i true).getD j false).length + 1 = ((List.range ops.size).filter fun j => !listed.getD j false).length := by
              have e1 : ((List.range ops.size).filter fun j => !(listed.setIfInBounds i true).getD j false) = ((List.range ops.size).filter fun j => !listed.getD j false).erase i := by
                rw [List.Nodup.erase_eq_filter (List.nodup_range.filter _), List.filter_filter]
                refine List.filter_congr fun j _ => ?_
                rw [getD_set (by omega)]
                unfold andOne
                by_cases hji : j = i
                · simp [hji]
                · simp [hji]
              rw [e1, List.length_erase_of_mem (List.mem_filter.2 ⟨List.mem_range.2 hi', by simp [hL]⟩)]
              omega
            omega
          · rw [getD_set (by omega)] at hj ⊢
            unfold andOne at hj ⊢
            simp only [Bool.or_eq_true, decide_eq_true_eq] at hj ⊢
            rcases hj with hj | rfl
            · exact .inl (hclosed j o' ho' hj p hpp)
            · rw [ho] at ho'
              cases ho'
              exact .inl (hpre p hpp)
      refine all ops.size _ E a w (by simp) ?_ (fun i o ho hi => ?_) ?_
      · have : ((List.range ops.size).filter fun i => !(Array.replicate ops.size false).getD i false) = List.range ops.size := by
          refine List.filter_eq_self.2 fun i _ => ?_
          simp only [Array.getD_eq_getD_getElem?, Array.getElem?_replicate]
          split <;> rfl
        rw [this, List.length_range]
      · have : (Array.replicate ops.size false).getD i false = false := by
          simp only [Array.getD_eq_getD_getElem?, Array.getElem?_replicate]
          split <;> rfl
        rw [this] at hi
        cases hi
      · have e : (fun i => (Array.replicate ops.size false).getD i false) = fun _ => false := by
          funext i
          simp only [Array.getD_eq_getD_getElem?, Array.getElem?_replicate]
          split <;> rfl
        have h2 : ∀ (cs : List Rec) (S : St), stX (fun _ => false) cs S = S := by
          intro cs
          induction cs with
          | nil => intro S; rfl
          | cons c cs ih => intro S; exact ih S
        rw [e, h2]
        exact h
    · cases hr

end Go.Vc

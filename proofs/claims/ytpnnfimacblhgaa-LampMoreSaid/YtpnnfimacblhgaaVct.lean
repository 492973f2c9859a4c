/-
  A function's own verification condition over owned data, and that it gives the contract.
-/
import Derived.Test.YtpnnfimacblhgaaVcz
set_option linter.unusedVariables false
set_option linter.unusedSimpArgs false
namespace Go.Vc
open Go

variable {P : Program} {X : Ctx} {w0 : World} {foot : Foot} {base : Mem} {S T : St} {E : Env} {a : Act} {w : World} {ctx : Tags}

def slotsOf : List SV → Nat → List (Nat × (Tags × SV))
  | [], _ => []
  | s :: ss, i => (i, [], s) :: slotsOf ss (i + 1)

/-- The first number for the arguments' blocks. -/
def own0 : Nat := 1000000

def oS0 (fn : Func) (c : OCon) (x : (argTy c.args).den) : St :=
  let r := oOpen (argTy c.args) x own0
  { sl := slotsOf (insS c.al (svOs c.args r.1) r.2.2.1) 0, bl := r.2.1, used := r.2.2.1.ids, n := fn.ntmps, pin := r.2.2.1.ids }

/-- Equations of data, part by part. -/
def oEqs : (o : OTy) → o.den → o.den → List Prop
  | .pair a b, x, y => oEqs a x.1 y.1 ++ oEqs b x.2 y.2
  | .cells _ o, x, y => oEqs o x y
  | .mclo _ o, x, y => oEqs o x y
  | .gone o, x, y => oEqs o x y
  | .unit, _, _ => []
  | _, x, y => [x = y]

theorem oEqs_eq : ∀ {o : OTy} {x y : o.den}, (∀ p ∈ oEqs o x y, p) → x = y
  | .pair a b, x, y, h => by
    have h1 := oEqs_eq (o := a) (x := x.1) (y := y.1) fun p hp => h p (List.mem_append_left _ hp)
    have h2 := oEqs_eq (o := b) (x := x.2) (y := y.2) fun p hp => h p (List.mem_append_right _ hp)
    exact Prod.ext h1 h2
  | .cells _ o, x, y, h => oEqs_eq (o := o) h
  | .mclo _ o, x, y, h => oEqs_eq (o := o) h
  | .gone o, x, y, h => oEqs_eq (o := o) h
  | .unit, _, _, _ => rfl
  | .dat t, x, y, h => h _ (List.mem_singleton.2 rfl)
  | .row e t, x, y, h => h _ (List.mem_singleton.2 rfl)

def optEq : Option Nat → Option Nat → Bool
  | none, none => true
  | some m, some n => Nat.beq m n
  | _, _ => false

/-- Blocks that stay where they are bear the same numbers. -/
def itFix : OTy → Bool → IT → IT → Bool
  | .row _ _, top, .row a, .row b => !top || optEq a b
  | .row _ _, top, _, _ => !top
  | .cells fx o, top, .cells m t, .cells m' t' => !(fx || top) || (Nat.beq m m' && itFix o false t t')
  | .mclo _ o, _, t, t' => itFix o false t t'
  | .pair a b, _, .pair p q, .pair p' q' => itFix a false p p' && itFix b false q q'
  | _, _, _, _ => true

theorem ITAt_eq : ∀ {t : IT} {p q : PT}, ITAt E t p → ITAt E t q → p = q
  | .nil, .nil, .nil, _, _ => rfl
  | .row none, .row p, .row q, h, k => by rw [show p = _ from h, show q = _ from k]
  | .row (some n), .row p, .row q, h, k => by
    have h : E.place n = some p := h
    have k : E.place n = some q := k
    rw [h] at k
    cases k
    rfl
  | .cells n t, .cells p q, .cells p' q', h, k => by
    have h1 := h.1
    rw [k.1] at h1
    cases h1
    rw [ITAt_eq h.2 k.2]
  | .pair a b, .pair p q, .pair p' q', h, k => by rw [ITAt_eq h.1 k.1, ITAt_eq h.2 k.2]

theorem itFix_spec : ∀ {o : OTy} {top : Bool} {t t' : IT} {p p' : PT}, itFix o top t t' = true → ITAt E t p → ITAt E t' p' → OFix o top p p' := by
  intro o
  induction o with
  | row e ty =>
    intro top t t' p p' h hp hp' htop
    subst htop
    cases t with
    | row a =>
      cases t' with
      | row b =>
        have hab : a = b := by
          simp only [itFix, Bool.not_true, Bool.false_or] at h
          cases a <;> cases b <;> simp [optEq] at h ⊢
          exact h
        subst hab
        exact ITAt_eq hp' hp
      | nil => cases h
      | cells _ _ => cases h
      | pair _ _ => cases h
    | nil => cases h
    | cells _ _ => cases h
    | pair _ _ => cases h
  | cells fx o ih =>
    intro top t t' p p' h hp hp'
    cases p with
    | cells q0 q =>
      cases p' with
      | cells q0' q' =>
        intro htop
        cases t with
        | cells m u =>
          cases t' with
          | cells m' u' =>
            simp only [itFix, htop, Bool.not_true, Bool.false_or, Bool.and_eq_true] at h
            have hm := Nat.eq_of_beq_eq_true h.1
            subst hm
            have h1 := hp.1
            rw [hp'.1] at h1
            cases h1
            exact ⟨rfl, ih h.2 hp.2 hp'.2⟩
          | nil => cases hp'
          | row b => cases b <;> cases hp'
          | pair _ _ => cases hp'
        | nil => cases hp
        | row b => cases b <;> cases hp
        | pair _ _ => cases hp
      | nil => trivial
      | row _ => trivial
      | pair _ _ => trivial
    | nil => trivial
    | row _ => trivial
    | pair _ _ => trivial
  | mclo k o ih =>
    intro top t t' p p' h hp hp'
    have := ih h hp hp'
    cases p <;> cases p' <;> exact this
  | pair a b iha ihb =>
    intro top t t' p p' h hp hp'
    cases p with
    | pair p q =>
      cases p' with
      | pair p' q' =>
        cases t with
        | pair u v =>
          cases t' with
          | pair u' v' =>
            simp only [itFix, Bool.and_eq_true] at h
            exact ⟨iha h.1 hp.1 hp'.1, ihb h.2 hp.2 hp'.2⟩
          | nil => cases hp'
          | row b => cases b <;> cases hp'
          | cells _ _ => cases hp'
        | nil => cases hp
        | row b => cases b <;> cases hp
        | cells _ _ => cases hp
      | nil => trivial
      | row _ => trivial
      | cells _ _ => trivial
    | nil => trivial
    | row _ => trivial
    | cells _ _ => trivial
  | dat t => intro top t t' p p' _ _ _; trivial
  | unit => intro top t t' p p' _ _ _; cases p <;> cases p' <;> trivial
  | gone o _ => intro top t t' p p' _ _ _; trivial

/-- The kept arguments read back: equations, what freezes, numbers. -/
def kClose : (os : List OTy) → List C → IT → (argTy os).den → RM (List Prop × Fro × IT)
  | [], _, _, _ => .ret ([], [], .nil)
  | o :: os, cs, it, y => (match it with
    | .pair s t => do
      let q ← kClose os (cs.drop o.size) t y.2
      match o.kept with
      | true => (do
        let r ← oClose o (cs.take o.size)
        guardR (itFix o true s r.2.2 && froApart r.2.1 q.2.1)
        return (oEqs o r.1 y.1 ++ q.1, r.2.1 ++ q.2.1, .pair r.2.2 q.2.2))
      | false => .ret (q.1, q.2.1, .pair .nil q.2.2)
    | _ => .fail)

def resSVs (X : Ctx) : List ResultVar → RM (List SV)
  | [] => .ret []
  | r :: rs => do
    let s ← resR X r
    let ss ← resSVs X rs
    return (s :: ss)

def ooutR (X : Ctx) (rs : List ResultVar) (c : OCon) (x : (argTy c.args).den) : RM (List Prop) := do
  let ss ← resSVs X rs
  let cs ← svCells c.outs ss
  let r ← oClose (argTy c.outs) cs
  let i := oOpen (argTy c.args) x own0
  let k ← kClose c.args i.1 i.2.2.1 (c.upd x)
  let ids := k.2.2.ids ++ r.2.2.ids
  guardR (froApart k.2.1 r.2.1 && (nodupB ids && allNoId (k.2.1 ++ r.2.1) ids))
  return (oEqs (argTy c.outs) r.1 (c.fn x) ++ k.1)

def oretPost (X : Ctx) (rs : List ResultVar) (c : OCon) (x : (argTy c.args).den) : Ex → St → Prop
  | .exit _, _ => False
  | _, S => match (ooutR X rs c x).run S [] with
    | some ps => conjP ps True
    | none => False

/-- The verification condition of a function. -/
@[irreducible] def obodyVC (X : Ctx) (fn : Func) (c : OCon) (A : Ann) (x : (argTy c.args).den) : Prop :=
  match fn.body with
  | some code => vc X A code (oS0 fn c x) (oretPost X fn.results.toList c x)
  | none => False

def ofnOk (fn : Func) (c : OCon) : Bool := Nat.ble (c.args.length + alLen c.al) fn.ntmps && (fn.body.isSome && ((argTy c.args).ok && ((argTy c.outs).ok && Nat.beq fn.results.toList.length c.outs.length)))

theorem argTy_ok : ∀ {os : List OTy}, (argTy os).ok = true → ∀ o ∈ os, o.ok = true
  | [], _, o, ho => by cases ho
  | o' :: os, h, o, ho => by
    simp only [argTy, OTy.ok, Bool.and_eq_true] at h
    rcases List.mem_cons.1 ho with rfl | ho
    · exact h.1
    · exact argTy_ok h.2 o ho

/-! ### The beginning -/

theorem slotsOf_rep : ∀ {ss : List SV} {vs : List Value} {i : Nat}, SReps E ss vs → ∀ n tags v, find (slotsOf ss i) n = some (tags, v) → tags = [] ∧ i ≤ n ∧ n < i + vs.length ∧ SRep E v (vs.getD (n - i) undef)
  | [], vs, i, h, n, tags, v, hf => by cases hf
  | s :: ss, vs, i, h, n, tags, v, hf => by
    obtain ⟨u, us, rfl, k1, k2⟩ := h
    unfold slotsOf at hf
    by_cases e : i = n
    · subst e
      have : some (([] : Tags), s) = some (tags, v) := by simpa [find] using hf
      cases this
      exact ⟨rfl, Nat.le_refl _, by simp, by simpa using k1⟩
    · rw [find_skip e] at hf
      obtain ⟨h1, h2, h3, h4⟩ := slotsOf_rep k2 n tags v hf
      refine ⟨h1, by omega, by simp only [List.length_cons]; omega, ?_⟩
      have : n - i = (n - (i + 1)) + 1 := by omega
      rw [this]
      simpa using h4

def placeOf (bd : List (Nat × Place)) (n : Nat) : Option Place := find bd n

theorem obegin_rel {fn : Func} {c : OCon} {x : (argTy c.args).den} {F : Mem} {vs : List Value} {pl : PT} (hok : (argTy c.args).ok = true) (hlen : c.args.length + alLen c.al ≤ fn.ntmps) (hF : ∀ b o, F b = some o → w.heap[b]? = some o)
    (hx : ORep F w (argTy c.args) x (vcells vs) pl) (hs : Shape c.args vs) (hnp : NodupP pl.list) (hFn : ∀ p ∈ pl.list, p.nil = false → F p.blk = none) (hal : AlOk c.al pl) :
    ITAt ⟨F, placeOf (bindPT (oOpen (argTy c.args) x own0).2.2.1 pl)⟩ (oOpen (argTy c.args) x own0).2.2.1 pl ∧
    TRel w ⟨blksOf pl.list, placeOf (bindPT (oOpen (argTy c.args) x own0).2.2.1 pl)⟩ F (oS0 fn c x) ⟨F, placeOf (bindPT (oOpen (argTy c.args) x own0).2.2.1 pl)⟩ { tmps := (insV c.al vs pl).toArray ++ Array.replicate (fn.ntmps - (insV c.al vs pl).toArray.size) undef, defers := [] } w := by
  obtain ⟨h1, h2, h3, h4⟩ := oOpen_ids (argTy c.args) x own0
  have hfit := oOpen_fits (x := x) (n := own0) hx
  obtain ⟨key1, key2⟩ := bindPT_keys hfit
  have nd : ((bindPT (oOpen (argTy c.args) x own0).2.2.1 pl).map (·.1)).Nodup := by rw [key1]; exact h3
  have place : ∀ i p, (i, p) ∈ bindPT (oOpen (argTy c.args) x own0).2.2.1 pl → placeOf (bindPT (oOpen (argTy c.args) x own0).2.2.1 pl) i = some p := fun i p hm => find_nodup nd hm
  have hat : ITAt ⟨F, placeOf (bindPT (oOpen (argTy c.args) x own0).2.2.1 pl)⟩ (oOpen (argTy c.args) x own0).2.2.1 pl := bindPT_at hfit place
  obtain ⟨hcs, hbl⟩ := oOpen_rep (E := ⟨F, placeOf (bindPT (oOpen (argTy c.args) x own0).2.2.1 pl)⟩) (n := own0) rfl hok hx hat
  have hsl0 := svOs_rep hcs hs
  have hvl0 := hs.length
  have hsl : SReps ⟨F, placeOf (bindPT (oOpen (argTy c.args) x own0).2.2.1 pl)⟩ (insS c.al (svOs c.args (oOpen (argTy c.args) x own0).1) (oOpen (argTy c.args) x own0).2.2.1) (insV c.al vs pl) := by
    cases hc : c.al with
    | none => exact hsl0
    | some a =>
      obtain ⟨pos, path⟩ := a
      rw [hc] at hal
      obtain ⟨p, hp, hpn⟩ := hal
      obtain ⟨n, hn⟩ := selP_fits hfit hp
      obtain ⟨p', k1, k2⟩ := selI_at hat hn
      rw [hp] at k1
      cases k1
      unfold insS insV
      simp only [hp, hn]
      exact hsl0.ins ⟨p, k2, hpn, rfl⟩
  have hvl : (insV c.al vs pl).length = c.args.length + alLen c.al := by
    cases hc : c.al with
    | none => exact hvl0
    | some a =>
      obtain ⟨pos, path⟩ := a
      rw [hc] at hal
      obtain ⟨p, hp, hpn⟩ := hal
      unfold insV alLen
      simp only [hp]
      rw [insAt_length, hvl0]
  clear hsl0
  have bnd : ∀ i p, placeOf (bindPT (oOpen (argTy c.args) x own0).2.2.1 pl) i = some p → (i, p) ∈ bindPT (oOpen (argTy c.args) x own0).2.2.1 pl := fun i p h => find_mem h
  have inL : ∀ i p, placeOf (bindPT (oOpen (argTy c.args) x own0).2.2.1 pl) i = some p → p ∈ pl.list ∧ i ∈ (oOpen (argTy c.args) x own0).2.2.1.ids := fun i p h => by
    have hm := bnd i p h
    exact ⟨by rw [← key2]; exact List.mem_map_of_mem (f := (·.2)) hm, by rw [← key1]; exact List.mem_map_of_mem (f := (·.1)) hm⟩
  refine ⟨hat, { keep := .refl _ _, frz := hF, src := fun b o hb => .inl hb, blks := fun i B hf => ?_, own := fun i B p hf hp hn => ?_, inj := fun i j B D p q hf hf' hp hq hn hn' hij => ?_, used := fun i p hp => (inL i p hp).2, slots := fun n tags v hf ht => ?_, size := ?_, defers := rfl, pins := fun n p hp => ⟨(inL n p hp).2, hp⟩, untagged := fun n tags v hf ht => ?_ }⟩
  · obtain ⟨p, e1, e2, _⟩ := hbl i B (find_mem hf)
    exact ⟨p, e1, e2⟩
  · obtain ⟨hm, _⟩ := inL i p hp
    exact ⟨.inr ⟨p, hm, hn, rfl⟩, fun _ => hFn p hm hn⟩
  · refine NodupP.apart (l := bindPT (oOpen (argTy c.args) x own0).2.2.1 pl) (by rw [key2]; exact hnp) (bnd i p hp) (bnd j q hq) hij hn hn'
  · obtain ⟨g1, g2, g3, g4⟩ := slotsOf_rep hsl n tags v hf
    rw [Nat.sub_zero] at g4
    generalize insV c.al vs pl = ws at *
    have hn : n < ws.length := by omega
    have : (ws.toArray ++ Array.replicate (fn.ntmps - ws.toArray.size) undef).getD n undef = ws.getD n undef := by
      rw [Array.getD_eq_getD_getElem?, Array.getElem?_append_left (by simpa using hn)]
      simp [List.getD_eq_getElem?_getD]
    show SRep _ v ((ws.toArray ++ Array.replicate (fn.ntmps - ws.toArray.size) undef).getD n undef)
    rw [this]
    exact g4
  · generalize insV c.al vs pl = ws at *
    show (ws.toArray ++ Array.replicate (fn.ntmps - ws.toArray.size) undef).size = fn.ntmps
    simp
    omega
  · obtain ⟨g1, _⟩ := slotsOf_rep hsl n tags v hf
    subst g1
    exact absurd (fun t ht => by cases ht) ht

/-! ### The end -/

theorem resSVs_rep (hT : TabOk P X.tab) (h : TRel w0 foot base S E a w) : ∀ {rs : List ResultVar} {ss : List SV}, (resSVs X rs).run S [] = some ss → ∃ vs, (rs.mapM (rd a.tmps)).run P w = .ok vs w ∧ SReps E ss vs
  | [], ss, hr => by cases hr; exact ⟨[], rfl, rfl⟩
  | r :: rs, ss, hr => by
    unfold resSVs at hr
    obtain ⟨s, h1, hr⟩ := RM.run_bind' hr
    obtain ⟨ss', h2, hr⟩ := RM.run_bind' hr
    cases RM.run_pure' hr
    obtain ⟨v, g1, g2⟩ := resR_sound hT h h1
    obtain ⟨vs, k1, k2⟩ := resSVs_rep hT h h2
    exact ⟨v :: vs, by simp [List.mapM_cons, g1, k1], v, vs, rfl, g2, k2⟩

theorem KReps.of : ∀ {os : List OTy} {cs : List C} {it0 : IT} {y : (argTy os).den} {ps : List Prop} {fr : Fro} {it : IT} {vs : List Value} {pl : PT},
    (kClose os cs it0 y).run S ctx = some (ps, fr, it) →
    (FroOk S.bl fr ∧ (∀ n ∈ it.ids, ∃ B, find S.bl n = some B ∧ B.mut = true)) ∧
    ((∀ p ∈ ps, p) → CReps E cs vs → ITAt E it0 pl → Frozen S.bl E w fr → (∀ n ∈ it.ids, ∀ B, find S.bl n = some B → ∃ p, E.place n = some p ∧ BRep E w p B) → ∃ pl', ITAt E it pl' ∧ KReps E.F w os y vs pl pl')
  | [], cs, it0, y, ps, fr, it, vs, pl, hr => by
    cases hr
    exact ⟨⟨.nil, fun n hn => (by cases hn)⟩, fun _ _ _ _ _ => ⟨.nil, trivial, rfl⟩⟩
  | o :: os, cs, it0, y, ps, fr, it, vs, pl, hr => by
    unfold kClose at hr
    split at hr
    · rename_i s t
      obtain ⟨⟨qs, g, u⟩, h1, hr⟩ := RM.run_bind' hr
      obtain ⟨⟨k1, k2⟩, k3⟩ := KReps.of (vs := vs.drop o.size) (pl := match pl with | .pair _ q => q | _ => .nil) h1
      split at hr
      · rename_i hk
        obtain ⟨⟨z, f, v⟩, h2, hr⟩ := RM.run_bind' hr
        obtain ⟨_, h3, hr⟩ := RM.run_bind' hr
        cases RM.run_pure' hr
        have hg := run_guardR h3
        simp only [Bool.and_eq_true] at hg
        obtain ⟨c1, c2, c3⟩ := oClose_spec h2
        refine ⟨⟨c1.append k1 hg.2, fun n hn => ?_⟩, fun hp hcs hat hf hb => ?_⟩
        · simp only [IT.ids, List.mem_append] at hn
          rcases hn with hn | hn
          · exact c2 n hn
          · exact k2 n hn
        · cases pl with
          | pair p q =>
            obtain ⟨q', m1, m2⟩ := k3 (fun p hp' => hp p (List.mem_append_right _ hp')) (hcs.drop _) hat.2 hf.right fun n hn => hb n (by simp [IT.ids, hn])
            obtain ⟨p', n1, n2⟩ := c3 E w _ (hcs.take o.size) hf.left fun n hn => hb n (by simp [IT.ids, hn])
            have hz : z = y.1 := oEqs_eq fun p hp' => hp p (List.mem_append_left _ hp')
            subst hz
            refine ⟨.pair p' q', ⟨n1, m1⟩, p, q, p', q', rfl, rfl, m2, ?_⟩
            rw [hk]
            exact ⟨n2, itFix_spec hg.1 hat.1 n1⟩
          | nil => cases hat
          | row _ => cases hat
          | cells _ _ => cases hat
      · rename_i hk
        cases hr
        refine ⟨⟨k1, fun n hn => ?_⟩, fun hp hcs hat hf hb => ?_⟩
        · simp only [IT.ids, List.nil_append] at hn
          exact k2 n hn
        · cases pl with
          | pair p q =>
            obtain ⟨q', m1, m2⟩ := k3 hp (hcs.drop _) hat.2 hf fun n hn => hb n (by simp [IT.ids, hn])
            refine ⟨.pair .nil q', ⟨trivial, m1⟩, p, q, .nil, q', rfl, rfl, m2, ?_⟩
            rw [hk]
          | nil => cases hat
          | row _ => cases hat
          | cells _ _ => cases hat
    · cases hr

/-- The contract from the function's text. -/
theorem OOk.of (hT : TabOk P X.tab) (hK : ∀ f con, X.con f = some con → ConOk P f con) {f : Nat} {fn : Func} {c : OCon} {A : (argTy c.args).den → Ann} (hf : P.funcs[f]? = some fn) (hn : (fn.name == "runtime.NumGoroutine") = false)
    (ho : ofnOk fn c = true) (hv : ∀ x, (argTy c.args).wf x → c.pre x → obodyVC X fn c (A x) x) : OOk P f c := by
  simp only [ofnOk, Bool.and_eq_true] at ho
  obtain ⟨hlen, hbody, hokA, hokO, hres⟩ := ho
  have hlen := Nat.le_of_ble_eq_true hlen
  have hres := Nat.eq_of_beq_eq_true hres
  refine ⟨?_, argTy_ok hokA, hokO, fun F w x vs pl hF hx hs hnp hFn hpre hal => ?_⟩
  · obtain ⟨code, hb⟩ := Option.isSome_iff_exists.1 hbody
    exact ⟨fn, code, hf, hn, hb⟩
  · have h := hv x hx.wf hpre
    unfold obodyVC at h
    cases hb : fn.body with
    | none => rw [hb] at h; cases h
    | some code =>
      rw [hb] at h
      obtain ⟨hat0, hbeg⟩ := obegin_rel (fn := fn) hokA hlen hF hx hs hnp hFn hal
      refine calls_of_wp hf hb ?_
      refine wp_mono (vc_sound hT hK h hbeg) fun e a w' hp => ?_
      have done : ∀ S E, (match (ooutR X fn.results.toList c x).run S [] with | some ps => conjP ps True | none => False) → TRel w ⟨blksOf pl.list, placeOf (bindPT (oOpen (argTy c.args) x own0).2.2.1 pl)⟩ F S E a w' → a.defers = [] ∧ ∃ v, (results fn a.tmps).run P w' = .ok v w' ∧
          ∃ v' F' vs' pl' qs, Ending.returned v = .returned v' ∧ F.le F' ∧ (∀ b o, F' b = some o → w'.heap[b]? = some o) ∧ (∀ b o, F' b = some o → F b = some o ∨ w.heap.size ≤ b ∨ blksOf pl.list b) ∧
          Keep (blksOf pl.list) w w' ∧ OutV c.outs v' vs' ∧ Shape c.outs vs' ∧ ORep F' w' (argTy c.outs) (c.fn x) (vcells vs') qs ∧ KReps F' w' c.args (c.upd x) (vcells vs) pl pl' ∧
          NodupP (pl'.list ++ qs.list) ∧ ∀ p ∈ pl'.list ++ qs.list, p.nil = false → (blksOf pl.list p.blk ∨ w.heap.size ≤ p.blk) ∧ F' p.blk = none := fun S E hq hR => by
        split at hq
        · rename_i ps hps
          have hq := (conjP_elim hq).1
          unfold ooutR at hps
          obtain ⟨ss, h1, hps⟩ := RM.run_bind' hps
          obtain ⟨cs, h2, hps⟩ := RM.run_bind' hps
          obtain ⟨⟨y, fr, it⟩, h3, hps⟩ := RM.run_bind' hps
          obtain ⟨⟨ks, fk, ik⟩, h4, hps⟩ := RM.run_bind' hps
          obtain ⟨_, h5, hps⟩ := RM.run_bind' hps
          cases RM.run_pure' hps
          have hg := run_guardR h5
          simp only [Bool.and_eq_true] at hg
          obtain ⟨hap, hnd, hno⟩ := hg
          have hnd := nodupB_spec hnd
          have hno := allNoId_spec hno
          obtain ⟨vs', r1, r2⟩ := resSVs_rep hT hR h1
          obtain ⟨d1, d2, d3⟩ := oClose_spec h3
          obtain ⟨⟨e1, e2⟩, _⟩ := KReps.of (E := E) (w := w') (vs := []) (pl := .nil) h4
          have hfo := e1.append d1 hap
          obtain ⟨E1, l1, q1, f1, hR1⟩ := hR.toHRel.applyFro hfo
          have hfz := Frozen.of_apply hfo hR1
          have hids : ∀ n ∈ (IT.pair ik it).ids, ∃ B, find S.bl n = some B ∧ B.mut = true := fun n hn => by
            simp only [IT.ids, List.mem_append] at hn
            rcases hn with hn | hn
            · exact e2 n hn
            · exact d2 n hn
          have hfind : ∀ n ∈ (IT.pair ik it).ids, find (applyFro (fk ++ fr) S.bl) n = find S.bl n := fun n hn => find_applyFro_other (hno n hn)
          have hFw : ∀ b o, F b = some o → w'.heap[b]? = some o := fun b o hb => by
            rw [hR1.keep.block b (heap_lt (hF b o hb)) fun h => ?_]
            · exact hF b o hb
            · obtain ⟨p, hp, hpn, hpb⟩ := h
              rw [← hpb, hFn p hp hpn] at hb
              cases hb
          -- the memory that nobody changes, with what was there at the beginning
          have j1 : F.le (joinMem F E1.F) := fun b o hb => by unfold joinMem; rw [hb]
          have j2 : E1.F.le (joinMem F E1.F) := fun b o hb => by
            unfold joinMem
            split
            · rename_i o' ho'
              rw [← hFw b o' ho', hR1.frz b o hb]
            · exact hb
          have j3 : ∀ b o, joinMem F E1.F b = some o → w'.heap[b]? = some o := fun b o hb => by
            unfold joinMem at hb
            split at hb
            · rename_i o' ho'; cases hb; exact hFw b _ ho'
            · exact hR1.frz b o hb
          have j4 : ∀ b o, joinMem F E1.F b = some o → F b = some o ∨ w.heap.size ≤ b ∨ blksOf pl.list b := fun b o hb => by
            unfold joinMem at hb
            split at hb
            · rename_i o' ho'; cases hb; exact .inl ho'
            · exact hR1.src b o hb
          have lJ : E1.le ⟨joinMem F E1.F, E1.place⟩ := ⟨j2, fun _ _ h => h⟩
          have hblk : ∀ n ∈ (IT.pair ik it).ids, ∀ B, find S.bl n = some B → ∃ p, E1.place n = some p ∧ BRep ⟨joinMem F E1.F, E1.place⟩ w' p B := fun n hn B hB => by
            obtain ⟨p, g1, g2⟩ := hR1.blks n B (by rw [hfind n hn]; exact hB)
            exact ⟨p, g1, g2.mono lJ⟩
          have hfzJ : Frozen S.bl ⟨joinMem F E1.F, E1.place⟩ w' (fk ++ fr) := fun q hq => by
            obtain ⟨p, g1, g2⟩ := hfz q hq
            exact ⟨p, g1, g2.mono lJ⟩
          -- the arguments' own blocks are where they were
          have nd0 : ((bindPT (oOpen (argTy c.args) x own0).2.2.1 pl).map (·.1)).Nodup := by
            rw [(bindPT_keys (oOpen_fits hx)).1]
            exact (oOpen_ids (argTy c.args) x own0).2.2.1
          have hpin : ITAt ⟨joinMem F E1.F, E1.place⟩ (oOpen (argTy c.args) x own0).2.2.1 pl := by
            refine bindPT_at (oOpen_fits hx) fun i p hm => ?_
            show E1.place i = some p
            rw [q1]
            exact (hR.pins i p (find_nodup nd0 hm)).2
          have hcs0 : CReps ⟨joinMem F E1.F, E1.place⟩ (oOpen (argTy c.args) x own0).1 (vcells vs) := by
            have := (oOpen_rep (E := ⟨F, placeOf (bindPT (oOpen (argTy c.args) x own0).2.2.1 pl)⟩) (n := own0) rfl hokA hx hat0).1
            exact this.mono ⟨j1, fun i p hp => by show E1.place i = some p; rw [q1]; exact (hR.pins i p hp).2⟩
          obtain ⟨hcsO, hshO⟩ := svCells_rep h2 r2
          obtain ⟨qs, m1, m2⟩ := d3 ⟨joinMem F E1.F, E1.place⟩ w' (vcells vs') (hcsO.mono ((show E.le E1 from l1).trans lJ)) hfzJ.right fun n hn => hblk n (by simp [IT.ids, hn])
          have hy : y = c.fn x := oEqs_eq fun p hp => hq p (List.mem_append_left _ hp)
          subst hy
          obtain ⟨_, e3⟩ := KReps.of (E := ⟨joinMem F E1.F, E1.place⟩) (w := w') (vs := vcells vs) (pl := pl) h4
          obtain ⟨pl', n1, n2⟩ := e3 (fun p hp => hq p (List.mem_append_right _ hp)) hcs0 hpin hfzJ.left fun n hn => hblk n (by simp [IT.ids, hn])
          have hatA : ITAt ⟨joinMem F E1.F, E1.place⟩ (.pair ik it) (.pair pl' qs) := ⟨n1, m1⟩
          obtain ⟨g1, g2⟩ := ITAt_nodup hatA hnd fun i hi j hj hij p r hp hr hpn hrn => by
            obtain ⟨B, hB, _⟩ := hids i hi
            obtain ⟨D, hD, _⟩ := hids j hj
            exact hR1.inj i j B D p r (by rw [hfind i hi]; exact hB) (by rw [hfind j hj]; exact hD) hp hr hpn hrn hij
          refine ⟨hR.defers, _, results_run r1, _, joinMem F E1.F, vs', pl', qs, rfl, j1, j3, j4, hR1.keep, ?_, hshO, m2, n2, g1, fun p hp hpn => ?_⟩
          · unfold OutV
            have hl := hshO.length
            split
            · rename_i o heq
              rw [heq] at hl
              obtain ⟨v, hv⟩ := List.length_eq_one_iff.1 hl
              subst hv
              rfl
            · rename_i hne
              rw [dif_neg]
              intro h1'
              rw [h1'] at hl
              obtain ⟨o, ho⟩ := List.length_eq_one_iff.1 hl.symm
              exact hne o ho
          · rcases g2 p hp with h | ⟨i, hi, h⟩
            · rw [h] at hpn; cases hpn
            · obtain ⟨B, hB, hm⟩ := hids i hi
              have ho := hR1.own i B p (by rw [hfind i hi]; exact hB) h hpn
              refine ⟨ho.1.symm, ?_⟩
              unfold joinMem
              split
              · rename_i o' ho'
                rcases ho.1 with h1' | ⟨p', hp', hpn', hpb⟩
                · have := heap_lt (hF _ _ ho'); omega
                · rw [← hpb, hFn p' hp' hpn'] at ho'; cases ho'
              · exact ho.2 hm
        · cases hq
      cases e with
      | normal => obtain ⟨S, E, hq, hR⟩ := hp; exact done S E hq hR
      | ret => obtain ⟨S, E, hq, hR⟩ := hp; exact done S E hq hR
      | exit id => obtain ⟨S, E, hq, hR⟩ := hp; cases hq
      | goto l => cases hp
      | panic ch => cases hp
      | outgrown => cases hp

/-! ### Contracts by list -/

/-- A contract of either kind. -/
structure AC where
  con : Con
  ok : Program → Nat → Prop
  sound : ∀ P f, ok P f → ConOk P f con

instance : Coe DCon AC := ⟨fun c => ⟨c.con, fun P f => DOk P f c, fun P f h => h.con⟩⟩
instance : Coe OCon AC := ⟨fun c => ⟨c.con, fun P f => OOk P f c, fun P f h => h.con⟩⟩


/-- Which function value the arguments hold first: the key of a contract that speaks of a certain function value is 'function + 10000 * (that function + 1)'. -/
def cloKey : List SV → Nat
  | [] => 0
  | .one (.dat (.clo k _) _) :: _ => k + 1
  | _ :: l => cloKey l

def keyed : List (Nat × AC) → Nat → Bool
  | [], _ => false
  | (m, _) :: l, n => match Nat.beq (m % 10000) n with
    | true => true
    | false => keyed l n

def conOf (l : List (Nat × AC)) (f : Nat) : Option Con :=
  match keyed l f with
  | true => some { run := fun vs d => match find l (f + 10000 * cloKey vs) with
    | some c => c.con.run vs d
    | none => .fail }
  | false => none

def ctxOf (tab : List TI) (l : List (Nat × AC)) (wraps : List Nat := []) (clos : List (Nat × Ty) := []) (mclos : List Nat := []) : Ctx := { tab := tab, con := conOf l, wraps := wraps, clos := clos, mclos := mclos }

def Oks (P : Program) : List (Nat × AC) → Prop
  | [] => True
  | (f, c) :: l => c.ok P (f % 10000) ∧ Oks P l

theorem Oks.find : ∀ {l : List (Nat × AC)}, Oks P l → ∀ {k c}, Vc.find l k = some c → c.ok P (k % 10000)
  | [], _, k, c, h => by cases h
  | (m, c') :: l, hl, k, c, h => by
    unfold Vc.find at h
    split at h
    · rename_i hb
      have := Nat.eq_of_beq_eq_true hb
      subst this
      cases h
      exact hl.1
    · exact Oks.find hl.2 h

theorem Oks.keyed : ∀ {l : List (Nat × AC)}, Oks P l → ∀ {f}, Vc.keyed l f = true → ∃ c : AC, c.ok P f
  | [], _, f, h => by cases h
  | (m, c') :: l, hl, f, h => by
    unfold Vc.keyed at h
    split at h
    · rename_i hb
      have := Nat.eq_of_beq_eq_true hb
      exact ⟨c', this ▸ hl.1⟩
    · exact Oks.keyed hl.2 h

theorem Oks.small : ∀ {l : List (Nat × AC)} {f : Nat}, Vc.keyed l f = true → f < 10000
  | [], f, h => by cases h
  | (m, c') :: l, f, h => by
    unfold Vc.keyed at h
    split at h
    · rename_i hb
      have := Nat.eq_of_beq_eq_true hb
      omega
    · exact Oks.small h

theorem Oks.con {l : List (Nat × AC)} (hl : Oks P l) (f : Nat) (con : Con) (h : conOf l f = some con) : ConOk P f con := by
  unfold conOf at h
  split at h
  · rename_i hk
    cases h
    obtain ⟨c0, hc0⟩ := hl.keyed hk
    have hf := Oks.small hk
    refine ⟨(c0.sound P f hc0).fn, fun w0 foot base S ctx E w args vs d r hR hv hr hcond hn => ?_⟩
    simp only at hr
    split at hr
    · rename_i c hc
      have := hl.find hc
      rw [show (f + 10000 * cloKey args) % 10000 = f by omega] at this
      exact (c.sound P f this).calls w0 foot base S ctx E w args vs d r hR hv hr hcond hn
    · cases hr
  · cases h

theorem DOk.of' {tab : List TI} {l : List (Nat × AC)} {wraps : List Nat} {clos : List (Nat × Ty)} {mclos : List Nat} (hT : TabOk P tab) (hK : Oks P l) {f : Nat} {fn : Func} {c : DCon} {A : Tup c.args → Ann} (hf : P.funcs[f]? = some fn) (hn : (fn.name == "runtime.NumGoroutine") = false)
    (ho : fnOk fn c = true) (hv : ∀ x, wfs c.args x → c.pre x → bodyVC (ctxOf tab l wraps clos mclos) fn c (A x) x) : DOk P f c :=
  DOk.of (X := ctxOf tab l wraps clos mclos) (A := A) hT (Oks.con hK) hf hn ⟨ho, hv⟩

theorem OOk.of' {tab : List TI} {l : List (Nat × AC)} {wraps : List Nat} {clos : List (Nat × Ty)} {mclos : List Nat} (hT : TabOk P tab) (hK : Oks P l) {f : Nat} {fn : Func} {c : OCon} {A : (argTy c.args).den → Ann} (hf : P.funcs[f]? = some fn) (hn : (fn.name == "runtime.NumGoroutine") = false)
    (ho : ofnOk fn c = true) (hv : ∀ x, (argTy c.args).wf x → c.pre x → obodyVC (ctxOf tab l wraps clos mclos) fn c (A x) x) : OOk P f c :=
  OOk.of (X := ctxOf tab l wraps clos mclos) (A := A) hT (Oks.con hK) hf hn ho hv

def noAnn : Ann := { loop := fun _ => none, split := fun _ => false }

def laOf : List (Nat × (St → LA)) → Nat → Option (St → LA)
  | [], _ => none
  | (m, a) :: l, n => match Nat.beq m n with
    | true => some a
    | false => laOf l n

def loopAnn (l : List (Nat × (St → LA))) (split : List Nat := []) : Ann := { loop := laOf l, split := has split }

/-- A slice that is handed over, taken as data. -/
theorem DOk.asData {f : Nat} {args : List Ty} {e : Nat} {t : Ty} {pre : Tup args → Prop} {fn : Tup args → Tup [.list t]} (h : DOk P f { args := args, out := .row e t, pre := pre, fn := fn }) :
    DOk P f { args := args, out := .data [.list t], pre := pre, fn := fn } where
  fn := h.fn
  calls F w x vs hF hx hpre := by
    refine (h.calls F w x vs hF hx hpre).mono fun en w' hp => ?_
    obtain ⟨v, F', h1, h2, h3, h4, h5, p, h6, h7, h8⟩ := hp
    have h7 : BRep ⟨F', fun _ => none⟩ w' p (.row false e t (fn x).1) := h7
    rcases h7 with ⟨hn, hx', hl⟩ | ⟨hn, h0, ⟨g1, g2⟩, us, g3, g4, g5, g6⟩
    · refine ⟨v, F', h1, h2, h3, h4, h5, ?_⟩
      rcases h8 with ⟨_, hv, _⟩ | ⟨hn', _⟩
      · have hr : Rep F' (.list t) (fn x).1 [v] := by
          rw [hv, hx']
          exact ⟨none, 0, rfl, Nat.le_refl _, by simp [maxLenI], fun _ => rfl, fun p hp => by cases hp⟩
        exact hr
      · rw [hn] at hn'; cases hn'
    · obtain ⟨k1, k2⟩ := h6 hn
      have hle : F'.le (fun b => if b = p.blk then some (.cells us e (0, 0)) else F' b) := fun b o hb => by
        simp only
        split
        · rename_i hb'; subst hb'; rw [k2] at hb; cases hb
        · exact hb
      refine ⟨v, fun b => if b = p.blk then some (.cells us e (0, 0)) else F' b, h1, h2.trans hle, fun b o hb => ?_, fun b o hb => ?_, h5, ?_⟩
      · simp only at hb
        split at hb
        · rename_i hb'; subst hb'; cases hb; exact g3
        · exact h3 b o hb
      · simp only at hb
        split at hb
        · rename_i hb'; subst hb'; exact .inr k1
        · exact h4 b o hb
      · have hB : BRep ⟨fun b => if b = p.blk then some (.cells us e (0, 0)) else F' b, fun _ => none⟩ w' p (.row true e t (fn x).1) := .inr ⟨hn, h0, ⟨g1, g2⟩, us, g3, g4, fun _ => by simp, fun i y hy => by
          obtain ⟨ws, m1, m2⟩ := g6 i y hy
          exact ⟨ws, m1.mono hle, m2⟩⟩
        have := row_rep (lo := 0) (len := (fn x).1.length) hB (by omega) (v := v) (by
          rcases h8 with ⟨hn', _⟩ | ⟨_, hv, _⟩
          · rw [hn] at hn'; cases hn'
          · exact .inr ⟨hn, _, by rw [hv, g1]; rfl, .inr (by simp)⟩)
        rw [lit_full] at this
        exact this

end Go.Vc

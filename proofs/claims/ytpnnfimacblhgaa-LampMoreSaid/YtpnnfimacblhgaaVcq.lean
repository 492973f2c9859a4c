/-
  The verification condition of code with loops and leaps, and that it is sound. A loop bears an invariant: a state with data of its own, to which the state at the loop's head is matched (blocks under other numbers).
-/
import Derived.Test.YtpnnfimacblhgaaVcw
set_option linter.unusedVariables false
set_option linter.unusedSimpArgs false
namespace Go.Vc
open Go

variable {P : Program} {X : Ctx} {w0 : World} {foot : Foot} {base : Mem} {S T : St} {E : Env} {a : Act} {w : World} {ctx : Tags}

/-! ### One state matched to another -/

/-- The other state's block numbers: a number here, or a nil slice. -/
abbrev Ren := List (Nat × Option Nat)

def Ren.place (r : Ren) (E : Env) (b : Nat) : Option Place :=
  match find r b with
  | none => none
  | some none => some ⟨true, 0, 0, 0⟩
  | some (some m) => E.place m

def Ren.env (r : Ren) (E : Env) : Env := { E with place := r.place E }

def bindId (r : Ren) (b : Nat) (n : Nat) : Option Ren :=
  match find r b with
  | none => some ((b, some n) :: r)
  | some (some m) => (match Nat.beq m n with
    | true => some r
    | false => none)
  | some none => none

def bindNil (r : Ren) (b : Nat) : Option Ren :=
  match find r b with
  | none => some ((b, none) :: r)
  | _ => none

def Ren.Ext (r s : Ren) : Prop := ∀ b u, find r b = some u → find s b = some u

theorem Ren.Ext.refl (r : Ren) : r.Ext r := fun _ _ h => h
theorem Ren.Ext.trans {r s t : Ren} (h : r.Ext s) (k : s.Ext t) : r.Ext t := fun b u e => k b u (h b u e)

theorem bindId_spec {r s : Ren} {b n : Nat} (h : bindId r b n = some s) : r.Ext s ∧ find s b = some (some n) := by
  unfold bindId at h
  split at h
  · rename_i hf
    cases h
    refine ⟨fun c u hc => ?_, by simp [find]⟩
    rw [find_skip]
    · exact hc
    · rintro rfl; rw [hf] at hc; cases hc
  · rename_i m hf
    split at h
    · rename_i hb
      cases h
      have := Nat.eq_of_beq_eq_true hb
      subst this
      exact ⟨.refl _, hf⟩
    · cases h
  · cases h

theorem bindNil_spec {r s : Ren} {b : Nat} (h : bindNil r b = some s) : r.Ext s ∧ find s b = some none := by
  unfold bindNil at h
  split at h
  · rename_i hf
    cases h
    refine ⟨fun c u hc => ?_, by simp [find]⟩
    rw [find_skip]
    · exact hc
    · rintro rfl; rw [hf] at hc; cases hc
  · cases h

def bindIds (r : Ren) : List Nat → List Nat → Option Ren
  | [], [] => some r
  | b :: bs, n :: ns => match bindId r b n with
    | some s => bindIds s bs ns
    | none => none
  | _, _ => none

theorem bindIds_spec : ∀ {bs ns : List Nat} {r s : Ren}, bindIds r bs ns = some s → r.Ext s ∧ bs.length = ns.length ∧ ∀ (i : Nat) b, bs[i]? = some b → ∃ n, ns[i]? = some n ∧ find s b = some (some n)
  | [], [], r, s, h => by cases h; exact ⟨.refl _, rfl, fun i b hb => by simp at hb⟩
  | b :: bs, n :: ns, r, s, h => by
    unfold bindIds at h
    split at h
    · rename_i s1 h1
      obtain ⟨g1, g2, g3⟩ := bindIds_spec h
      obtain ⟨k1, k2⟩ := bindId_spec h1
      refine ⟨k1.trans g1, by simp [g2], fun i b' hb => ?_⟩
      cases i with
      | zero => simp at hb; subst hb; exact ⟨n, rfl, g1 _ _ k2⟩
      | succ i => simpa using g3 i b' (by simpa using hb)
    · cases h
  | [], _ :: _, _, _, h => by cases h
  | _ :: _, [], _, _, h => by cases h

/-- The invariant's cell, and the state's. -/
def matchC (r : Ren) : C → C → Option (Ren × List Prop)
  | .dat t x, .dat t' y => (Ty.as t y).map fun y' => (r, [x = y'])
  | .dat (.list t) xs, .nilsl => some (r, [Ty.L xs = []])
  | .row t b, .row t' b' => (match t.beq t' with
    | true => (bindId r b b').map fun s => (s, [])
    | false => none)
  | .row t b, .nilsl => (bindNil r b).map fun s => (s, [])
  | .ptr b o, .ptr b' o' => (match Nat.beq o o' with
    | true => (bindId r b b').map fun s => (s, [])
    | false => none)
  | .sub t b lo len, .sub t' b' lo' len' => (match t.beq t' with
    | true => (bindId r b b').map fun s => (s, [lo = lo', len = len'])
    | false => none)
  | .rptr t b i o, .rptr t' b' i' o' => (match t.beq t' && Nat.beq o o' with
    | true => (bindId r b b').map fun s => (s, [i = i'])
    | false => none)
  | .elt t xs i o, .elt t' ys j o' => (match Nat.beq o o' with
    | true => (Ty.as (a := .list t') (.list t) (lit ys)).map fun ys' => (r, [xs = Ty.L ys', i = j])
    | false => none)
  | .nilsl, .nilsl => some (r, [])
  | .nilptr, .nilptr => some (r, [])
  | .mclo k bs, .mclo k' bs' => (match Nat.beq k k' with
    | true => (bindIds r bs bs').map fun s => (s, [])
    | false => none)
  | _, _ => none

theorem matchC_ext {r s : Ren} {c d : C} {ps : List Prop} (h : matchC r c d = some (s, ps)) : r.Ext s := by
  unfold matchC at h
  split at h
  · obtain ⟨y, _, e⟩ := Option.map_eq_some_iff.1 h
    cases e
    exact .refl _
  · cases h; exact .refl _
  · split at h
    · obtain ⟨y, h1, e⟩ := Option.map_eq_some_iff.1 h
      cases e
      exact (bindId_spec h1).1
    · cases h
  · obtain ⟨y, h1, e⟩ := Option.map_eq_some_iff.1 h
    cases e
    exact (bindNil_spec h1).1
  · split at h
    · obtain ⟨y, h1, e⟩ := Option.map_eq_some_iff.1 h
      cases e
      exact (bindId_spec h1).1
    · cases h
  · split at h
    · obtain ⟨y, h1, e⟩ := Option.map_eq_some_iff.1 h
      cases e
      exact (bindId_spec h1).1
    · cases h
  · split at h
    · obtain ⟨y, h1, e⟩ := Option.map_eq_some_iff.1 h
      cases e
      exact (bindId_spec h1).1
    · cases h
  · split at h
    · obtain ⟨y, h1, e⟩ := Option.map_eq_some_iff.1 h
      cases e
      exact .refl _
    · cases h
  · cases h; exact .refl _
  · cases h; exact .refl _
  · split at h
    · obtain ⟨y, h1, e⟩ := Option.map_eq_some_iff.1 h
      cases e
      exact (bindIds_spec h1).1
    · cases h
  · cases h

theorem matchC_rep {r s f : Ren} {c d : C} {ps : List Prop} {v : Value} (h : matchC r c d = some (s, ps)) (hs : s.Ext f) (hp : ∀ p ∈ ps, p) (hv : CRep E d v) : CRep (f.env E) c v := by
  have pl : ∀ {b n p}, find s b = some (some n) → E.place n = some p → (f.env E).place b = some p := fun {b n p} hb hn => by
    show f.place E b = _
    unfold Ren.place
    rw [hs _ _ hb]
    exact hn
  unfold matchC at h
  split at h
  · obtain ⟨y, h1, e⟩ := Option.map_eq_some_iff.1 h
    cases e
    have := hp _ (List.mem_singleton.2 rfl)
    subst this
    obtain ⟨ee, rfl⟩ := Ty.as_some h1
    subst ee
    exact hv
  · cases h
    have := hp _ (List.mem_singleton.2 rfl)
    have hv : v = _ := hv
    subst hv
    refine ⟨rfl, none, 0, ?_, ?_, by simp [maxLenI], fun _ => rfl, fun p hp => by cases hp⟩
    · rw [this]; rfl
    · rw [this]; exact Nat.le_refl _
  · split at h
    · rename_i hb
      obtain ⟨y, h1, e⟩ := Option.map_eq_some_iff.1 h
      cases e
      obtain ⟨p, hpl, k⟩ := hv
      exact ⟨p, pl (bindId_spec h1).2 hpl, k⟩
    · cases h
  · obtain ⟨y, h1, e⟩ := Option.map_eq_some_iff.1 h
    cases e
    have hv : v = _ := hv
    refine ⟨⟨true, 0, 0, 0⟩, ?_, .inl ⟨rfl, hv, rfl⟩⟩
    show f.place E _ = _
    unfold Ren.place
    rw [hs _ _ (bindNil_spec h1).2]
  · split at h
    · rename_i hb
      obtain ⟨y, h1, e⟩ := Option.map_eq_some_iff.1 h
      cases e
      have := Nat.eq_of_beq_eq_true hb
      subst this
      obtain ⟨p, hpl, k⟩ := hv
      exact ⟨p, pl (bindId_spec h1).2 hpl, k⟩
    · cases h
  · split at h
    · rename_i hb
      obtain ⟨y, h1, e⟩ := Option.map_eq_some_iff.1 h
      cases e
      have e1 := hp _ (List.mem_cons_self)
      have e2 := hp _ (List.mem_cons_of_mem _ List.mem_cons_self)
      subst e1 e2
      have := Ty.beq_eq hb
      subst this
      obtain ⟨p, hpl, k⟩ := hv
      exact ⟨p, pl (bindId_spec h1).2 hpl, k⟩
    · cases h
  · split at h
    · rename_i hb
      simp only [Bool.and_eq_true] at hb
      obtain ⟨y, h1, e⟩ := Option.map_eq_some_iff.1 h
      cases e
      have e1 := hp _ (List.mem_cons_self)
      subst e1
      have := Ty.beq_eq hb.1
      subst this
      have := Nat.eq_of_beq_eq_true hb.2
      subst this
      obtain ⟨p, hpl, k⟩ := hv
      exact ⟨p, pl (bindId_spec h1).2 hpl, k⟩
    · cases h
  · split at h
    · rename_i hb
      obtain ⟨y, h1, e⟩ := Option.map_eq_some_iff.1 h
      cases e
      have e1 := hp _ (List.mem_cons_self)
      have e2 := hp _ (List.mem_cons_of_mem _ List.mem_cons_self)
      subst e2
      have := Nat.eq_of_beq_eq_true hb
      subst this
      obtain ⟨ee, rfl⟩ := Ty.as_some h1
      cases ee
      have e1 : _ = _ := e1
      subst e1
      exact hv
    · cases h
  · exact hv
  · exact hv
  · split at h
    · rename_i hb
      have := Nat.eq_of_beq_eq_true hb
      subst this
      obtain ⟨y, h1, e⟩ := Option.map_eq_some_iff.1 h
      cases e
      obtain ⟨_, g2, g3⟩ := bindIds_spec h1
      obtain ⟨qs, m1, m2, m3⟩ := hv
      refine ⟨qs, by omega, fun i b hi => ?_, m3⟩
      obtain ⟨n, n1, n2⟩ := g3 i b hi
      obtain ⟨p, p1, p2, p3⟩ := m2 i n n1
      exact ⟨p, p1, pl n2 p2, p3⟩
    · cases h
  · cases h

def matchCs (r : Ren) : List C → List C → Option (Ren × List Prop)
  | [], [] => some (r, [])
  | c :: cs, d :: ds => match matchC r c d with
    | none => none
    | some (s, ps) => (match matchCs s cs ds with
      | none => none
      | some (t, qs) => some (t, ps ++ qs))
  | _, _ => none

theorem matchCs_ext : ∀ {cs ds : List C} {r s : Ren} {ps : List Prop}, matchCs r cs ds = some (s, ps) → r.Ext s
  | [], [], r, s, ps, h => by cases h; exact .refl _
  | c :: cs, d :: ds, r, s, ps, h => by
    unfold matchCs at h
    split at h
    · cases h
    · rename_i s1 p1 h1
      split at h
      · cases h
      · rename_i t qs h2
        cases h
        exact (matchC_ext h1).trans (matchCs_ext h2)
  | [], _ :: _, _, _, _, h => by cases h
  | _ :: _, [], _, _, _, h => by cases h

theorem matchCs_rep {f : Ren} : ∀ {cs ds : List C} {r s : Ren} {ps : List Prop} {vs : List Value}, matchCs r cs ds = some (s, ps) → s.Ext f → (∀ p ∈ ps, p) → CReps E ds vs → CReps (f.env E) cs vs
  | [], [], r, s, ps, vs, h, _, _, hv => hv
  | c :: cs, d :: ds, r, s, ps, vs, h, hs, hp, hv => by
    unfold matchCs at h
    split at h
    · cases h
    · rename_i s1 p1 h1
      split at h
      · cases h
      · rename_i t qs h2
        cases h
        obtain ⟨v, us, rfl, k1, k2⟩ := hv
        exact ⟨v, us, rfl, matchC_rep h1 ((matchCs_ext h2).trans hs) (fun p hm => hp p (List.mem_append_left _ hm)) k1, matchCs_rep h2 hs (fun p hm => hp p (List.mem_append_right _ hm)) k2⟩
  | [], _ :: _, _, _, _, _, h, _, _, _ => by cases h
  | _ :: _, [], _, _, _, _, h, _, _, _ => by cases h

def matchSV (r : Ren) : SV → SV → Option (Ren × List Prop)
  | .one c, .one d => matchC r c d
  | .agg cs, .agg ds => matchCs r cs ds
  | _, _ => none

theorem matchSV_ext {r s : Ren} {u v : SV} {ps : List Prop} (h : matchSV r u v = some (s, ps)) : r.Ext s := by
  unfold matchSV at h
  split at h
  · exact matchC_ext h
  · exact matchCs_ext h
  · cases h

theorem matchSV_rep {r s f : Ren} {u v : SV} {ps : List Prop} {x : Value} (h : matchSV r u v = some (s, ps)) (hs : s.Ext f) (hp : ∀ p ∈ ps, p) (hv : SRep E v x) : SRep (f.env E) u x := by
  unfold matchSV at h
  split at h
  · exact matchC_rep h hs hp hv
  · obtain ⟨vs, rfl, k⟩ := hv; exact ⟨vs, rfl, matchCs_rep h hs hp k⟩
  · cases h

def matchSl (S : St) (r : Ren) : List (Nat × (Tags × SV)) → Option (Ren × List Prop)
  | [] => some (r, [])
  | (n, [], v) :: l => (match find S.sl n with
    | some ([], u) => (match matchSV r v u with
      | none => none
      | some (s, ps) => (match matchSl S s l with
        | none => none
        | some (t, qs) => some (t, ps ++ qs)))
    | _ => none)
  | _ :: _ => none

theorem matchSl_ext : ∀ {l : List (Nat × (Tags × SV))} {r s : Ren} {ps : List Prop}, matchSl S r l = some (s, ps) → r.Ext s
  | [], r, s, ps, h => by cases h; exact .refl _
  | (n, [], v) :: l, r, s, ps, h => by
    unfold matchSl at h
    split at h
    · split at h
      · cases h
      · rename_i s1 p1 h1
        split at h
        · cases h
        · rename_i t qs h2
          cases h
          exact (matchSV_ext h1).trans (matchSl_ext h2)
    · cases h
  | (_, _ :: _, _) :: _, _, _, _, h => by cases h

theorem matchSl_rep {f : Ren} (hS : TRel w0 foot base S E a w) : ∀ {l : List (Nat × (Tags × SV))} {r s : Ren} {ps : List Prop}, matchSl S r l = some (s, ps) → s.Ext f → (∀ p ∈ ps, p) →
    ∀ n ts v, find l n = some (ts, v) → ts = [] ∧ SRep (f.env E) v (a.tmps.getD n undef)
  | [], r, s, ps, _, _, _, n, ts, v, hf => by cases hf
  | (m, [], u) :: l, r, s, ps, h, hs, hp, n, ts, v, hf => by
    unfold matchSl at h
    split at h
    · rename_i u' hu
      split at h
      · cases h
      · rename_i s1 p1 h1
        split at h
        · cases h
        · rename_i t qs h2
          cases h
          by_cases e : m = n
          · subst e
            have : some (([] : Tags), u) = some (ts, v) := by simpa [find] using hf
            cases this
            exact ⟨rfl, matchSV_rep h1 ((matchSl_ext h2).trans hs) (fun p hm => hp p (List.mem_append_left _ hm)) (hS.slots m [] u' hu (fun t ht => by cases ht))⟩
          · rw [find_skip e] at hf
            exact matchSl_rep hS h2 hs (fun p hm => hp p (List.mem_append_right _ hm)) n ts v hf
    · cases h
  | (_, _ :: _, _) :: _, _, _, _, h, _, _, _, _, _, _ => by cases h

def matchBlk (r : Ren) : Blk → Blk → Option (Ren × List Prop)
  | .cells cs, .cells ds => matchCs r cs ds
  | .row fro e t xs, .row fro' e' t' ys => (match fro == fro' && Nat.beq e e' with
    | true => (Ty.as (a := .list t') (.list t) (lit ys)).map fun ys' => (r, [xs = Ty.L ys'])
    | false => none)
  | .fcells t x, .fcells t' y => (Ty.as (a := t') t y).map fun y' => (r, [x = y'])
  | _, _ => none

theorem matchBlk_ext {r s : Ren} {B B' : Blk} {ps : List Prop} (h : matchBlk r B B' = some (s, ps)) : r.Ext s := by
  unfold matchBlk at h
  split at h
  · exact matchCs_ext h
  · split at h
    · obtain ⟨y, _, e⟩ := Option.map_eq_some_iff.1 h
      cases e
      exact .refl _
    · cases h
  · obtain ⟨y, _, e⟩ := Option.map_eq_some_iff.1 h
    cases e
    exact .refl _
  · cases h

theorem matchBlk_rep {r s f : Ren} {B B' : Blk} {ps : List Prop} {p : Place} (h : matchBlk r B B' = some (s, ps)) (hs : s.Ext f) (hp : ∀ p ∈ ps, p) (hv : BRep E w p B') : BRep (f.env E) w p B ∧ B.mut = B'.mut := by
  unfold matchBlk at h
  split at h
  · obtain ⟨h0, vs, e, k1, k2⟩ := hv
    exact ⟨⟨h0, vs, e, k1, matchCs_rep h hs hp k2⟩, rfl⟩
  · split at h
    · rename_i hb
      simp only [Bool.and_eq_true, beq_iff_eq] at hb
      obtain ⟨ys', h1, e⟩ := Option.map_eq_some_iff.1 h
      cases e
      have hx := hp _ (List.mem_singleton.2 rfl)
      obtain ⟨h2, h3⟩ := hb
      have h3 := Nat.eq_of_beq_eq_true h3
      subst h2 h3
      obtain ⟨ee, rfl⟩ := Ty.as_some h1
      cases ee
      have hx : _ = _ := hx
      subst hx
      exact ⟨hv, rfl⟩
    · cases h
  · obtain ⟨y', h1, e⟩ := Option.map_eq_some_iff.1 h
    cases e
    have hx := hp _ (List.mem_singleton.2 rfl)
    obtain ⟨ee, rfl⟩ := Ty.as_some h1
    subst ee
    have hx : _ = _ := hx
    subst hx
    exact ⟨hv, rfl⟩
  · cases h

def matchBl (S : St) (r : Ren) : List (Nat × Blk) → Option (Ren × List Prop)
  | [] => some (r, [])
  | (n, B) :: l => (match find r n with
    | none => none
    | some none => (match B with
      | .row _ _ _ xs => (match matchBl S r l with
        | none => none
        | some (t, qs) => some (t, (xs = []) :: qs))
      | _ => none)
    | some (some m) => (match find S.bl m with
      | none => none
      | some B' => (match matchBlk r B B' with
        | none => none
        | some (s, ps) => (match matchBl S s l with
          | none => none
          | some (t, qs) => some (t, ps ++ qs)))))

theorem matchBl_ext : ∀ {l : List (Nat × Blk)} {r s : Ren} {ps : List Prop}, matchBl S r l = some (s, ps) → r.Ext s
  | [], r, s, ps, h => by cases h; exact .refl _
  | (n, B) :: l, r, s, ps, h => by
    unfold matchBl at h
    split at h
    · cases h
    · split at h
      · split at h
        · cases h
        · rename_i t qs h2
          cases h
          exact matchBl_ext h2
      · cases h
    · split at h
      · cases h
      · split at h
        · cases h
        · rename_i s1 p1 h1
          split at h
          · cases h
          · rename_i t qs h2
            cases h
            exact (matchBlk_ext h1).trans (matchBl_ext h2)

/-- What the matched blocks are. -/
def Matched (S : St) (f : Ren) (E : Env) (w : World) (n : Nat) (B : Blk) : Prop :=
  (find f n = some none ∧ BRep (f.env E) w ⟨true, 0, 0, 0⟩ B) ∨ ∃ m B', find f n = some (some m) ∧ find S.bl m = some B' ∧ ∀ p, BRep E w p B' → BRep (f.env E) w p B ∧ B.mut = B'.mut

theorem matchBl_rep {f : Ren} : ∀ {l : List (Nat × Blk)} {r s : Ren} {ps : List Prop}, matchBl S r l = some (s, ps) → s.Ext f → (∀ p ∈ ps, p) → ∀ n B, find l n = some B → Matched S f E w n B
  | [], r, s, ps, _, _, _, n, B, hf => by cases hf
  | (m, B) :: l, r, s, ps, h, hs, hp, n, D, hf => by
    unfold matchBl at h
    split at h
    · cases h
    · rename_i hr
      split at h
      · rename_i fro el t xs
        split at h
        · cases h
        · rename_i t' qs h2
          cases h
          by_cases e : m = n
          · subst e
            have : some (Blk.row fro el t xs) = some D := by simpa [find] using hf
            cases this
            have hx := hp _ List.mem_cons_self
            have hx : xs = [] := hx
            exact .inl ⟨hs _ _ (matchBl_ext h2 _ _ hr), .inl ⟨rfl, hx, rfl⟩⟩
          · rw [find_skip e] at hf
            exact matchBl_rep h2 hs (fun p hm => hp p (List.mem_cons_of_mem _ hm)) n D hf
      · cases h
    · rename_i k hr
      split at h
      · cases h
      · rename_i B' hB'
        split at h
        · cases h
        · rename_i s1 p1 h1
          split at h
          · cases h
          · rename_i t qs h2
            cases h
            have hs1 := (matchBl_ext h2).trans hs
            by_cases e : m = n
            · subst e
              have : some B = some D := by simpa [find] using hf
              cases this
              exact .inr ⟨k, B', hs1 _ _ (matchBlk_ext h1 _ _ hr), hB', fun p hv => matchBlk_rep h1 hs1 (fun p hm => hp p (List.mem_append_left _ hm)) hv⟩
            · rw [find_skip e] at hf
              exact matchBl_rep h2 hs (fun p hm => hp p (List.mem_append_right _ hm)) n D hf

/-- Blocks that both states have keep their numbers. -/
def idRen (S : St) : List (Nat × Blk) → Ren
  | [] => []
  | (n, _) :: l => match find S.bl n with
    | some _ => (n, some n) :: idRen S l
    | none => idRen S l

/-- No two numbers lead to the same block, and all are numbers of the invariant's. -/
def renOk (T : St) : Ren → List Nat → Bool
  | [], _ => true
  | (n, none) :: l, seen => has T.used n && renOk T l seen
  | (n, some m) :: l, seen => has T.used n && (!has seen m && renOk T l (m :: seen))

def renKeys (r : Ren) : Bool :=
  match r with
  | [] => true
  | (n, _) :: l => (match find l n with
    | some _ => false
    | none => true) && renKeys l

theorem renOk_used : ∀ {r : Ren} {seen : List Nat}, renOk T r seen = true → ∀ n u, find r n = some u → n ∈ T.used
  | [], _, _, n, u, h => by cases h
  | (m, none) :: l, seen, hr, n, u, h => by
    simp only [renOk, Bool.and_eq_true] at hr
    by_cases e : m = n
    · exact e ▸ has_mem.1 hr.1
    · rw [find_skip e] at h; exact renOk_used hr.2 n u h
  | (m, some k) :: l, seen, hr, n, u, h => by
    simp only [renOk, Bool.and_eq_true] at hr
    by_cases e : m = n
    · exact e ▸ has_mem.1 hr.1
    · rw [find_skip e] at h; exact renOk_used hr.2.2 n u h

theorem renOk_seen : ∀ {r : Ren} {seen : List Nat}, renOk T r seen = true → ∀ n m, find r n = some (some m) → m ∉ seen
  | [], _, _, n, m, h => by cases h
  | (k, none) :: l, seen, hr, n, m, h => by
    simp only [renOk, Bool.and_eq_true] at hr
    by_cases e : k = n
    · subst e; simp [find] at h
    · rw [find_skip e] at h; exact renOk_seen hr.2 n m h
  | (k, some j) :: l, seen, hr, n, m, h => by
    simp only [renOk, Bool.and_eq_true, Bool.not_eq_true'] at hr
    by_cases e : k = n
    · subst e
      have : j = m := by simpa [find] using h
      subst this
      intro hm
      rw [has_mem.2 hm] at hr
      cases hr.2.1
    · rw [find_skip e] at h
      exact fun hm => renOk_seen hr.2.2 n m h (List.mem_cons_of_mem _ hm)

theorem renOk_inj : ∀ {r : Ren} {seen : List Nat}, renOk T r seen = true → ∀ n n' m, find r n = some (some m) → find r n' = some (some m) → n = n'
  | [], _, _, n, n', m, h, _ => by cases h
  | (k, none) :: l, seen, hr, n, n', m, h, h' => by
    simp only [renOk, Bool.and_eq_true] at hr
    by_cases e : k = n
    · subst e; simp [find] at h
    · by_cases e' : k = n'
      · subst e'; simp [find] at h'
      · rw [find_skip e] at h; rw [find_skip e'] at h'
        exact renOk_inj hr.2 n n' m h h'
  | (k, some j) :: l, seen, hr, n, n', m, h, h' => by
    simp only [renOk, Bool.and_eq_true] at hr
    by_cases e : k = n
    · by_cases e' : k = n'
      · exact e.symm.trans e'
      · rw [find_skip e'] at h'
        subst e
        have : j = m := by simpa [find] using h
        subst this
        exact absurd List.mem_cons_self (renOk_seen hr.2.2 n' j h')
    · rw [find_skip e] at h
      by_cases e' : k = n'
      · subst e'
        have : j = m := by simpa [find] using h'
        subst this
        exact absurd List.mem_cons_self (renOk_seen hr.2.2 n j h)
      · rw [find_skip e'] at h'
        exact renOk_inj hr.2.2 n n' m h h'

/-- Blocks that keep their places are in both. -/
def pinOk (r : Ren) : List Nat → Bool
  | [] => true
  | n :: l => (match find r n with
    | some (some m) => Nat.beq n m
    | _ => false) && pinOk r l

theorem pinOk_spec {r : Ren} : ∀ {l : List Nat}, pinOk r l = true → ∀ n ∈ l, find r n = some (some n)
  | [], _, n, hn => by cases hn
  | m :: l, h, n, hn => by
    simp only [pinOk, Bool.and_eq_true] at h
    rcases List.mem_cons.1 hn with rfl | hn
    · have h1 := h.1
      split at h1
      · rename_i k hk
        rw [hk, Nat.eq_of_beq_eq_true h1]
      · cases h1
    · exact pinOk_spec h.2 n hn

/-- Places that stay keep their numbers, even where no block bears them. -/
def withPins (s : Ren) : List Nat → Ren
  | [] => s
  | n :: l => match find s n with
    | some _ => withPins s l
    | none => (n, some n) :: withPins s l

theorem withPins_ext (s : Ren) : ∀ l, s.Ext (withPins s l)
  | [] => .refl _
  | n :: l => by
    unfold withPins
    split
    · exact withPins_ext s l
    · rename_i hf
      intro k u hk
      rw [find_skip]
      · exact withPins_ext s l k u hk
      · rintro rfl; rw [hf] at hk; cases hk

theorem withPins_keys (s : Ren) : ∀ {l : List Nat} {n : Nat} {u : Option Nat}, find (withPins s l) n = some u → find s n = some u ∨ n ∈ l
  | [], n, u, h => .inl h
  | m :: l, n, u, h => by
    unfold withPins at h
    split at h
    · exact (withPins_keys s h).imp_right (List.mem_cons_of_mem _)
    · by_cases e : m = n
      · exact .inr (e ▸ List.mem_cons_self)
      · rw [find_skip e] at h
        exact (withPins_keys s h).imp_right (List.mem_cons_of_mem _)

def allHas (u : List Nat) : List Nat → Bool
  | [] => true
  | n :: l => has u n && allHas u l

theorem allHas_mem {u : List Nat} : ∀ {l : List Nat}, allHas u l = true → ∀ n ∈ l, n ∈ u
  | [], _, n, hn => by cases hn
  | m :: l, h, n, hn => by
    simp only [allHas, Bool.and_eq_true] at h
    rcases List.mem_cons.1 hn with rfl | hn
    · exact has_mem.1 h.1
    · exact allHas_mem h.2 n hn

def matchSt (S T : St) : Option (List Prop) :=
  match matchSl S (idRen S T.bl) T.sl with
  | none => none
  | some (r, ps) => match matchBl S r T.bl with
    | none => none
    | some (s, qs) => match renOk T s [] && (Nat.beq S.n T.n && (natsEq S.pin T.pin && (allHas T.used T.pin && pinOk (withPins s T.pin) T.pin))) with
      | true => some (ps ++ qs)
      | false => none

theorem matchSt_sound {cs : List Prop} (hm : matchSt S T = some cs) (h : TRel w0 foot base S E a w) (hc : ∀ p ∈ cs, p) : ∃ E', TRel w0 foot base T E' a w := by
  unfold matchSt at hm
  split at hm
  · cases hm
  · rename_i r ps h1
    split at hm
    · cases hm
    · rename_i s qs h2
      split at hm
      · rename_i hb
        cases hm
        simp only [Bool.and_eq_true] at hb
        have hs1 := matchBl_ext h2
        have hps : ∀ p ∈ ps, p := fun p hp => hc p (List.mem_append_left _ hp)
        have hqs : ∀ p ∈ qs, p := fun p hp => hc p (List.mem_append_right _ hp)
        have hext := withPins_ext s T.pin
        have hbl0 : ∀ n B, find T.bl n = some B → Matched S s E w n B := matchBl_rep h2 (.refl _) hqs
        have hren := hb.1
        have hused : ∀ n u, find (withPins s T.pin) n = some u → n ∈ T.used := fun n u hn => by
          rcases withPins_keys s hn with h | h
          · exact renOk_used hren n u h
          · exact allHas_mem hb.2.2.2.1 n h
        have hbl : ∀ n B, find T.bl n = some B → Matched S (withPins s T.pin) E w n B := matchBl_rep h2 hext hqs
        have hsl := matchSl_rep (f := withPins s T.pin) h h1 (hs1.trans hext) hps
        have hinj : ∀ n n' B B' m, find T.bl n = some B → find T.bl n' = some B' → find (withPins s T.pin) n = some (some m) → find (withPins s T.pin) n' = some (some m) → n = n' := fun n n' B B' m hB hB' hm hm' => by
          have g : ∀ {k D}, find T.bl k = some D → find (withPins s T.pin) k = some (some m) → find s k = some (some m) := fun {k D} hD hk => by
            rcases hbl0 k D hD with ⟨hf1, _⟩ | ⟨m', _, hf1, _⟩
            · rw [hext _ _ hf1] at hk; cases hk
            · rw [hext _ _ hf1] at hk; cases hk; exact hf1
          exact renOk_inj hren n n' m (g hB hm) (g hB' hm')
        clear hext hbl0 hs1
        generalize withPins s T.pin = s at *
        have hplace : ∀ n m, find s n = some (some m) → (s.env E).place n = E.place m := fun n m hf => by
          show s.place E n = _
          unfold Ren.place
          rw [hf]
        have hnil : ∀ n, find s n = some none → (s.env E).place n = some ⟨true, 0, 0, 0⟩ := fun n hf => by
          show s.place E n = _
          unfold Ren.place
          rw [hf]
        -- a block that is not nil comes from a block of the state's
        have back : ∀ n B p, find T.bl n = some B → (s.env E).place n = some p → p.nil = false → ∃ m B', find s n = some (some m) ∧ find S.bl m = some B' ∧ E.place m = some p ∧ BRep E w p B' ∧ B.mut = B'.mut := fun n B p hf hp hn => by
          rcases hbl n B hf with ⟨hf1, _⟩ | ⟨m, B', hf1, hf2, hto⟩
          · rw [hnil n hf1] at hp; cases hp; cases hn
          · rw [hplace n m hf1] at hp
            obtain ⟨q, hq, k⟩ := h.blks m B' hf2
            rw [hp] at hq
            cases hq
            exact ⟨m, B', hf1, hf2, hp, k, (hto p k).2⟩
        refine ⟨s.env E, { keep := h.keep, frz := h.frz, src := h.src, blks := fun n B hf => ?_, own := fun n B p hf hp hpn => ?_, inj := fun n n' B B' p p' hf hf' hp hp' hpn hpn' hne => ?_, used := fun n p hp => ?_, slots := fun n ts v hf ht => (hsl n ts v hf).2, size := ?_, defers := h.defers, pins := fun n p hp => ?_, untagged := fun n ts v hf ht => ?_ }⟩
        · rcases hbl n B hf with ⟨hf1, hB⟩ | ⟨m, B', hf1, hf2, hto⟩
          · exact ⟨_, hnil n hf1, hB⟩
          · obtain ⟨q, hq, k⟩ := h.blks m B' hf2
            exact ⟨q, (hplace n m hf1).trans hq, (hto q k).1⟩
        · obtain ⟨m, B', hf1, hf2, hpl, k, hmut⟩ := back n B p hf hp hpn
          have := h.own m B' p hf2 hpl hpn
          exact ⟨this.1, fun hm => this.2 (hmut ▸ hm)⟩
        · obtain ⟨m, D, hf1, hf2, hpl, _, _⟩ := back n B p hf hp hpn
          obtain ⟨m', D', hf1', hf2', hpl', _, _⟩ := back n' B' p' hf' hp' hpn'
          refine h.inj m m' D D' p p' hf2 hf2' hpl hpl' hpn hpn' fun e => hne ?_
          subst e
          exact hinj n n' B B' m hf hf' hf1 hf1'
        · have hp : s.place E n = some p := hp
          unfold Ren.place at hp
          split at hp
          · cases hp
          · rename_i hf; exact hused n _ hf
          · rename_i m hf; exact hused n _ hf
        · exact h.size.trans (Nat.eq_of_beq_eq_true hb.2.1)
        · obtain ⟨g1, g2⟩ := h.pins n p hp
          rw [natsEq_eq hb.2.2.1] at g1
          exact ⟨g1, (hplace n n (pinOk_spec hb.2.2.2.2 n g1)).trans g2⟩
        · have := (hsl n ts v hf).1
          subst this
          exact absurd (fun t ht => by cases ht) ht
      · cases hm

/-! ### Rows that are frozen ahead of a match -/

def freeze1 (S : St) (m : Nat) : St :=
  match find S.bl m with
  | some (.row false e t xs) => { S with bl := applyFro [(m, .row true e t xs)] S.bl }
  | _ => S

theorem freeze1_rel (h : TRel w0 foot base S E a w) (m : Nat) : ∃ E', TRel w0 foot base (freeze1 S m) E' a w := by
  unfold freeze1
  split
  · rename_i e t xs hf
    obtain ⟨E', hle, hpl, _, hR⟩ := h.toHRel.applyFro (FroOk.one (D := .row true e t xs) hf (.inl ⟨_, _, _, _, rfl, rfl⟩))
    exact ⟨E', { toHRel := hR, slots := fun n ts v hs ht => (h.slots n ts v hs ht).mono hle, size := h.size, defers := h.defers, pins := fun n p hp => ⟨(h.pins n p hp).1, by rw [hpl]; exact (h.pins n p hp).2⟩, untagged := h.untagged }⟩
  · exact ⟨E, h⟩

def freezeAll (S : St) : List Nat → St
  | [] => S
  | m :: l => freezeAll (freeze1 S m) l

theorem freezeAll_rel : ∀ {l : List Nat} {S : St} {E : Env}, TRel w0 foot base S E a w → ∃ E', TRel w0 foot base (freezeAll S l) E' a w
  | [], S, E, h => ⟨E, h⟩
  | m :: l, S, E, h => by
    obtain ⟨E', h'⟩ := freeze1_rel h m
    exact freezeAll_rel (l := l) (S := freeze1 S m) h'

def hasFro : List (Nat × Blk) → Bool
  | [] => false
  | (_, .row true _ _ _) :: _ => true
  | _ :: l => hasFro l

def toFreeze (r : Ren) : List (Nat × Blk) → List Nat
  | [] => []
  | (n, .row true _ _ _) :: l => (match find r n with
    | some (some m) => m :: toFreeze r l
    | _ => toFreeze r l)
  | _ :: l => toFreeze r l

/-- Ahead of a match, rows that the other state has as frozen ones are frozen. -/
def frozenFor (S T : St) : St :=
  match hasFro T.bl with
  | false => S
  | true => (match matchSl S (idRen S T.bl) T.sl with
    | none => S
    | some (r, _) => freezeAll S (toFreeze r T.bl))

theorem frozenFor_rel (h : TRel w0 foot base S E a w) : ∃ E', TRel w0 foot base (frozenFor S T) E' a w := by
  unfold frozenFor
  split
  · exact ⟨E, h⟩
  · split
    · exact ⟨E, h⟩
    · exact freezeAll_rel h

/-! ### The verification condition -/

inductive Ex where
  | normal
  | exit (id : Nat)
  | ret

/-- A loop's invariant: data, a condition on them, a measure, slots and blocks; which slots and blocks are as at the loop's beginning. -/
structure LA where
  σ : Type
  ok : σ → Prop
  mu : σ → Nat
  sl : σ → List (Nat × SV)
  bl : σ → List (Nat × Blk)
  keep : List Nat
  keepB : List Nat

def keepSl (S : St) : List Nat → List (Nat × (Tags × SV))
  | [] => []
  | n :: l => match find S.sl n with
    | some ([], v) => (n, [], v) :: keepSl S l
    | _ => keepSl S l

def keepBl (S : St) : List Nat → List (Nat × Blk)
  | [] => []
  | n :: l => match find S.bl n with
    | some B => (n, B) :: keepBl S l
    | none => keepBl S l

def untag : List (Nat × SV) → List (Nat × (Tags × SV))
  | [] => []
  | (n, v) :: l => (n, [], v) :: untag l

def keysB : List (Nat × Blk) → List Nat
  | [] => []
  | (n, _) :: l => n :: keysB l

def invSt (S : St) (L : LA) (s : L.σ) : St :=
  { sl := untag (L.sl s) ++ keepSl S L.keep
    bl := L.bl s ++ keepBl S L.keepB
    used := keysB (L.bl s ++ keepBl S L.keepB) ++ S.pin
    n := S.n
    pin := S.pin }

structure Ann where
  loop : Nat → Option (St → LA)
  split : Nat → Bool

def headId : Code → Option Nat
  | .region id _ _ => some id
  | .seq a b => (match headId a with
    | some n => some n
    | none => headId b)
  | .cond _ a b => (match headId a with
    | some n => some n
    | none => headId b)
  | .block _ c => headId c
  | .loop c => headId c
  | .scope c => headId c
  | _ => none

def matchP (S T : St) (q : Prop) : Prop :=
  match matchSt (frozenFor S T) T with
  | some cs => conjP cs q
  | none => False

def splitOf (A : Ann) : Operand → Bool
  | .tmp t => A.split t
  | _ => true

def seqPost (k : St → Prop) (Q : Ex → St → Prop) : Ex → St → Prop
  | .normal, S => k S
  | e, S => Q e S

def blockPost (id : Nat) (Q : Ex → St → Prop) : Ex → St → Prop
  | .exit i, S => (match Nat.beq i id with
    | true => Q .normal S
    | false => Q (.exit i) S)
  | e, S => Q e S

def condR (c : Operand) : RM Bool := do asB (← ev c)

def vc (X : Ctx) (A : Ann) : Code → St → (Ex → St → Prop) → Prop
  | .skip, S, Q => Q .normal S
  | .region _ ops draw, S, Q => match region X ops draw S with
    | some (recs, S') => conjP (condsOf recs) (Q .normal S')
    | none => (match !draw && clean S.sl with
      | true => vcOps X ops ops.toList S [] (Q .normal)
      | false => False)
  | .seq x y, S, Q => vc X A x S (seqPost (fun S1 => vc X A y S1 Q) Q)
  | .cond c x y, S, Q => match (match splitOf A c with
      | true => none
      | false => ex X (.cond c x y) S) with
    | some (cs, _, S') => conjP cs (Q .normal S')
    | none => match (do asB (← ev c) : RM Bool).run S [] with
      | some b => (b = true → vc X A x S Q) ∧ (b = false → vc X A y S Q)
      | none => False
  | .block id c, S, Q => vc X A c S (blockPost id Q)
  | .exit id, S, Q => Q (.exit id) S
  | .ret, S, Q => Q .ret S
  | .label _, S, Q => Q .normal S
  | .scope c, S, Q => vc X A c S Q
  | .loop c, S, Q => match (match headId c with
      | some n => A.loop n
      | none => none) with
    | some la => (∃ s0, (la S).ok s0 ∧ matchP S (invSt S (la S) s0) True) ∧
        ∀ s, (la S).ok s → vc X A c (invSt S (la S) s) (seqPost (fun S' => ∃ s', (la S).ok s' ∧ (la S).mu s' < (la S).mu s ∧ matchP S' (invSt S (la S) s') True) Q)
    | none => False
  | _, _, _ => False

/-- What the machine's code ends in, told by a condition on symbolic states. -/
def Post (w0 : World) (foot : Foot) (base : Mem) (Q : Ex → St → Prop) : Exit → Act → World → Prop
  | .normal, a, w => ∃ S E, Q .normal S ∧ TRel w0 foot base S E a w
  | .exit id, a, w => ∃ S E, Q (.exit id) S ∧ TRel w0 foot base S E a w
  | .ret, a, w => ∃ S E, Q .ret S ∧ TRel w0 foot base S E a w
  | _, _, _ => False

theorem matchP_sound {q : Prop} (hm : matchP S T q) (h : TRel w0 foot base S E a w) : ∃ E', TRel w0 foot base T E' a w := by
  unfold matchP at hm
  split at hm
  · rename_i cs hcs
    obtain ⟨E', h'⟩ := frozenFor_rel (T := T) h
    exact matchSt_sound hcs h' (conjP_elim hm).1
  · cases hm

theorem vc_sound (hT : TabOk P X.tab) (hK : ∀ f con, X.con f = some con → ConOk P f con) {A : Ann} : ∀ {c : Code} {S : St} {Q : Ex → St → Prop} {E : Env} {a : Act} {w : World}, vc X A c S Q → TRel w0 foot base S E a w → c.wp P (Post w0 foot base Q) a w
  | .skip, S, Q, E, a, w, h, hR => wp_skip ⟨S, E, h, hR⟩
  | .label _, S, Q, E, a, w, h, hR => wp_label ⟨S, E, h, hR⟩
  | .exit id, S, Q, E, a, w, h, hR => wp_exit ⟨S, E, h, hR⟩
  | .ret, S, Q, E, a, w, h, hR => wp_ret ⟨S, E, h, hR⟩
  | .region id ops draw, S, Q, E, a, w, h, hR => by
    unfold vc at h
    split at h
    · rename_i recs S' hr
      exact region_sound hT hK hr hR (conjP_elim h).1 fun E' a' w' h' => ⟨S', E', (conjP_elim h).2, h'⟩
    · split at h
      · rename_i hb
        simp only [Bool.and_eq_true, Bool.not_eq_true'] at hb
        obtain ⟨rfl, hcl⟩ := hb
        exact vcRegion_sound hT hK h hcl hR fun S' E' a' w' hq h' => ⟨S', E', hq, h'⟩
      · cases h
  | .seq x y, S, Q, E, a, w, h, hR => by
    unfold vc at h
    refine wp_seq (wp_mono (vc_sound hT hK h hR) fun e a' w' hp => ?_)
    cases e with
    | normal => obtain ⟨S', E', h1, h2⟩ := hp; exact vc_sound hT hK h1 h2
    | exit id => exact hp
    | ret => exact hp
    | goto l => exact hp
    | panic ch => exact hp
    | outgrown => exact hp
  | .cond c x y, S, Q, E, a, w, h, hR => by
    unfold vc at h
    split at h
    · rename_i cs ch S' hx
      have hx : ex X (.cond c x y) S = some (cs, ch, S') := by
        split at hx
        · cases hx
        · exact hx
      exact (ex_sound hT hK hx).2 hR (conjP_elim h).1 fun E' a' w' h' => ⟨S', E', (conjP_elim h).2, h'⟩
    · split at h
      · rename_i b hb
        obtain ⟨s, e1, e2⟩ := RM.run_bind' hb
        have hv := asB_rep (ev_rep hR.toSRel (fun t ht => by cases ht) e1) e2
        exact wp_cond_split hv (fun ht => vc_sound hT hK (h.1 ht) hR) (fun ht => vc_sound hT hK (h.2 ht) hR)
      · cases h
  | .block id c, S, Q, E, a, w, h, hR => by
    unfold vc at h
    refine wp_block (wp_mono (vc_sound hT hK h hR) fun e a' w' hp => ?_)
    cases e with
    | normal => exact hp
    | exit i =>
      obtain ⟨S', E', h1, h2⟩ := hp
      have h1 : (match Nat.beq i id with | true => Q .normal S' | false => Q (.exit i) S') := h1
      show if i = id then _ else _
      split at h1
      · rename_i hb
        rw [if_pos (Nat.eq_of_beq_eq_true hb)]
        exact ⟨S', E', h1, h2⟩
      · rename_i hb
        rw [if_neg (fun e => by subst e; simp at hb)]
        exact ⟨S', E', h1, h2⟩
    | ret => exact hp
    | goto l => exact hp
    | panic ch => exact hp
    | outgrown => exact hp
  | .loop c, S, Q, E, a, w, h, hR => by
    unfold vc at h
    split at h
    · rename_i la hla
      obtain ⟨⟨s0, k0, k1⟩, k2⟩ := h
      obtain ⟨E0, hE0⟩ := matchP_sound k1 hR
      refine wp_loop_ghost (fun n a w => ∃ s E, (la S).ok s ∧ (la S).mu s = n ∧ TRel w0 foot base (invSt S (la S) s) E a w) _ ⟨s0, E0, k0, rfl, hE0⟩ ?_
      rintro n a1 w1 ⟨s, E1, hs, rfl, h1⟩
      refine wp_mono (vc_sound hT hK (k2 s hs) h1) fun e a' w' hp => ?_
      cases e with
      | normal =>
        obtain ⟨S', E', ⟨s', q1, q2, q3⟩, h2⟩ := hp
        obtain ⟨E'', h3⟩ := matchP_sound q3 h2
        exact ⟨_, q2, s', E'', q1, rfl, h3⟩
      | exit id => exact hp
      | ret => exact hp
      | goto l => exact hp
      | panic ch => exact hp
      | outgrown => exact hp
    · cases h
  | .scope c, S, Q, E, a, w, h, hR => by
    unfold vc at h
    refine wp_scope_straight (wp_mono (vc_sound hT hK h hR) fun e a' w' hp => ?_)
    cases e with
    | normal => exact hp
    | exit id => exact hp
    | ret => exact hp
    | goto l => cases hp
    | panic ch => cases hp
    | outgrown => cases hp
  | .rangeFunc _ _ _ _, _, _, _, _, _, h, _ => by cases h
  | .goto _, _, _, _, _, _, h, _ => by cases h

end Go.Vc

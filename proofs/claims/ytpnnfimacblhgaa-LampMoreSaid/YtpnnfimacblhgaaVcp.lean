/-
  Code: regions, tests, blocks, loops by invariants: the verification condition, and that it is sound.
-/
import Derived.Test.YtpnnfimacblhgaaVco
import Derived.Deep.LoopGhost
import Derived.Scope
set_option linter.unusedVariables false
set_option linter.unusedSimpArgs false
namespace Go.Vc
open Go

variable {P : Program} {X : Ctx} {w0 : World} {foot : Foot} {base : Mem} {S : St} {E : Env} {a : Act} {w : World} {ctx : Tags}

/-! ### Regions -/

def dropTags : List (Nat × (Tags × SV)) → List (Nat × (Tags × SV))
  | [] => []
  | (n, [], v) :: l => (n, [], v) :: dropTags l
  | (_, _ :: _, _) :: l => dropTags l

/-- No number stands twice. -/
def keysOnce : List (Nat × (Tags × SV)) → Bool
  | [] => true
  | (n, _) :: l => (match find l n with
    | some _ => false
    | none => true) && keysOnce l

theorem find_dropTags : ∀ {l : List (Nat × (Tags × SV))} {n : Nat} {ts : Tags} {v : SV}, keysOnce l = true → find (dropTags l) n = some (ts, v) → find l n = some (ts, v) ∧ ts = []
  | [], _, _, _, _, h => by cases h
  | (m, [], u) :: l, n, ts, v, hk, h => by
    simp only [keysOnce, Bool.and_eq_true] at hk
    unfold dropTags find at h
    unfold find
    split at h
    · rename_i hb; cases h; simp [hb]
    · exact find_dropTags hk.2 h
  | (m, t :: ts', u) :: l, n, ts, v, hk, h => by
    simp only [keysOnce, Bool.and_eq_true] at hk
    unfold dropTags at h
    obtain ⟨h1, h2⟩ := find_dropTags hk.2 h
    refine ⟨?_, h2⟩
    unfold find
    split
    · rename_i hb
      have := Nat.eq_of_beq_eq_true hb
      subst this
      rw [h1] at hk
      cases hk.1
    · exact h1

def cleaned (S : St) : St := { S with sl := dropTags S.sl }

theorem TRel.cleaned (h : TRel w0 foot base S E a w) (hk : keysOnce S.sl = true) : TRel w0 foot base (cleaned S) E a w :=
  { toHRel := h.toHRel
    slots := fun n ts v hf ht => h.slots n ts v (find_dropTags hk hf).1 ht
    size := h.size
    defers := h.defers
    pins := h.pins
    untagged := fun n ts v hf ht => h.untagged n ts v (find_dropTags hk hf).1 ht }

def region (X : Ctx) (ops : Array Oper) (draw : Bool) (S : St) : Option (List Rec × St) :=
  match (match draw with
    | true => exDraw X ops S
    | false => exSeq X ops ops.toList S) with
  | none => none
  | some (recs, S') => match keysOnce S'.sl && clean S.sl with
    | true => some (recs, cleaned S')
    | false => none

theorem region_sound (hT : TabOk P X.tab) (hK : ∀ f con, X.con f = some con → ConOk P f con) {id : Nat} {ops : Array Oper} {draw : Bool} {recs : List Rec} {S' : St} (hr : region X ops draw S = some (recs, S')) (h : TRel w0 foot base S E a w)
    (hc : ∀ p ∈ condsOf recs, p) {Q : Exit → Act → World → Prop} (hQ : ∀ E' a' w', TRel w0 foot base S' E' a' w' → Q .normal a' w') : (Code.region id ops draw).wp P Q a w := by
  unfold region at hr
  cases draw with
  | false =>
    simp only at hr
    split at hr
    · cases hr
    · rename_i recs' S'' hs
      split at hr
      · rename_i hk
        cases hr
        simp only [Bool.and_eq_true] at hk
        replace hk := hk.1
        refine wp_region ?_
        rw [List.range_eq_range']
        have := exSeq_sound (Q := Q) hT hK (k := 0) (fun j => by simp) hs h hc fun E' a' w' h' => hQ E' a' w' (h'.cleaned hk)
        simpa using this
      · cases hr
  | true =>
    simp only at hr
    split at hr
    · cases hr
    · rename_i recs' S'' hs
      split at hr
      · rename_i hk
        cases hr
        simp only [Bool.and_eq_true] at hk
        replace hk := hk.1
        refine wp_region_any hT.mixed ?_
        refine exDraw_sound (E := E) hT hK hs ?_ hc fun E' a' w' h' => hQ E' a' w' (h'.cleaned hk)
        exact { toHRel := h.toHRel.drew _, slots := h.slots, size := h.size, defers := h.defers, pins := h.pins, untagged := h.untagged }
      · cases hr

/-! ### Two ways that meet again -/

def joinC (b : Bool) : C → C → Option C
  | .dat t x, .dat t' y => (Ty.as t y).map fun y' => .dat t (bif b then x else y')
  | .row t i, .row t' j => (match t.beq t' && Nat.beq i j with
    | true => some (.row t i)
    | false => none)
  | .ptr i o, .ptr j o' => (match Nat.beq i j && Nat.beq o o' with
    | true => some (.ptr i o)
    | false => none)
  | .nilsl, .nilsl => some .nilsl
  | .nilptr, .nilptr => some .nilptr
  | .dat (.list t) xs, .nilsl => some (.dat (.list t) (lit (bif b then Ty.L xs else [])))
  | .nilsl, .dat (.list t) xs => some (.dat (.list t) (lit (bif b then [] else Ty.L xs)))
  | _, _ => none

def joinCs (b : Bool) : List C → List C → Option (List C)
  | [], [] => some []
  | c :: cs, d :: ds => match joinC b c d, joinCs b cs ds with
    | some e, some es => some (e :: es)
    | _, _ => none
  | _, _ => none

def joinTup (b : Bool) : List (Bool × List C) → List (Bool × List C) → Option (List (Bool × List C))
  | [], [] => some []
  | (g, cs) :: l, (h, ds) :: k => match g == h, joinCs b cs ds, joinTup b l k with
    | true, some es, some r => some ((g, es) :: r)
    | _, _, _ => none
  | _, _ => none

def joinSV (b : Bool) : SV → SV → Option SV
  | .one c, .one d => (joinC b c d).map .one
  | .agg cs, .agg ds => (joinCs b cs ds).map .agg
  | .tup l, .tup k => (joinTup b l k).map .tup
  | _, _ => none

def joinBlk (b : Bool) : Blk → Blk → Option Blk
  | .cells cs, .cells ds => (joinCs b cs ds).map .cells
  | .row fro e t xs, .row fro' e' t' ys => (match fro == fro' && (Nat.beq e e') with
    | true => (Ty.as (a := .list t') (.list t) (lit ys)).map fun ys' => .row fro e t (bif b then xs else Ty.L ys')
    | false => none)
  | _, _ => none

def joinSl (b : Bool) (ch : List Loc) (s2 : List (Nat × (Tags × SV))) : List (Nat × (Tags × SV)) → List (Nat × (Tags × SV))
  | [] => []
  | (n, ts, v) :: l => match locIn ch (.slot n) with
    | false => (n, ts, v) :: joinSl b ch s2 l
    | true => match ts, find s2 n with
      | [], some ([], v') => (match joinSV b v v' with
        | some u => (n, [], u) :: joinSl b ch s2 l
        | none => joinSl b ch s2 l)
      | _, _ => joinSl b ch s2 l

def joinBl (b : Bool) (ch : List Loc) (b2 : List (Nat × Blk)) : List (Nat × Blk) → Option (List (Nat × Blk))
  | [] => some []
  | (n, B) :: l => match joinBl b ch b2 l with
    | none => none
    | some r => match locIn ch (.blk n) with
      | false => some ((n, B) :: r)
      | true => match find b2 n with
        | none => some r
        | some B' => (match joinBlk b B B' with
          | some D => some ((n, D) :: r)
          | none => none)

def blOnce : List (Nat × Blk) → Bool
  | [] => true
  | (n, _) :: l => (match find l n with
    | some _ => false
    | none => true) && blOnce l

def join (b : Bool) (ch : List Loc) (S1 S2 : St) : Option St :=
  match keysOnce S1.sl && (blOnce S1.bl && (keysOnce S2.sl && (blOnce S2.bl && natsEq S1.pin S2.pin))), joinBl b ch S2.bl S1.bl with
  | true, some bl => some { sl := joinSl b ch S2.sl S1.sl, bl := bl, used := S1.used ++ S2.used, n := S1.n, pin := S1.pin }
  | _, _ => none

def orP (b want : Bool) (p : Prop) : Prop := b = want → p

/-- Code without loops and leaps: its conditions, what it changes, the state behind it. -/
def ex (X : Ctx) : Code → St → Option (List Prop × List Loc × St)
  | .skip, S => some ([], [], S)
  | .region _ ops draw, S => match region X ops draw S with
    | some (recs, S') => some (condsOf recs, recs.flatMap (fun c => Res.ws c.o c.r), S')
    | none => none
  | .seq a b, S => match ex X a S with
    | some (c1, h1, S1) => (match ex X b S1 with
      | some (c2, h2, S2) => some (c1 ++ c2, h1 ++ h2, S2)
      | none => none)
    | none => none
  | .cond c x y, S => match (do asB (← ev c) : RM Bool).run S [] with
    | some b => (match ex X x S, ex X y S with
      | some (c1, h1, S1), some (c2, h2, S2) => (match join b (h1 ++ h2) S1 S2 with
        | some S' => some (c1.map (orP b true) ++ c2.map (orP b false), h1 ++ h2, S')
        | none => none)
      | _, _ => none)
    | none => none
  | .block _ c, S => ex X c S
  | .scope c, S => ex X c S
  | .label _, S => some ([], [], S)
  | _, _ => none

/-! Outside what code changes, the two ends of a test are one. -/

theorem joinC_rep {b : Bool} {c d e : C} {v : Value} (h : joinC b c d = some e) (hv : CRep E (bif b then c else d) v) : CRep E e v := by
  unfold joinC at h
  split at h
  · obtain ⟨y', h1, rfl⟩ := Option.map_eq_some_iff.1 h
    obtain ⟨ee, rfl⟩ := Ty.as_some h1
    subst ee
    cases b <;> exact hv
  · split at h
    · rename_i hb
      simp only [Bool.and_eq_true] at hb
      cases h
      have h1 := Ty.beq_eq hb.1
      have h2 := Nat.eq_of_beq_eq_true hb.2
      subst h1 h2
      cases b <;> exact hv
    · cases h
  · split at h
    · rename_i hb
      simp only [Bool.and_eq_true] at hb
      cases h
      have h1 := Nat.eq_of_beq_eq_true hb.1
      have h2 := Nat.eq_of_beq_eq_true hb.2
      subst h1 h2
      cases b <;> exact hv
    · cases h
  · cases h; cases b <;> exact hv
  · cases h; cases b <;> exact hv
  · cases h
    cases b
    · have hv : v = _ := hv
      subst hv
      exact ⟨rfl, none, 0, rfl, Nat.le_refl _, by simp [maxLenI], fun _ => rfl, fun p hp => by cases hp⟩
    · exact hv
  · cases h
    cases b
    · exact hv
    · have hv : v = _ := hv
      subst hv
      exact ⟨rfl, none, 0, rfl, Nat.le_refl _, by simp [maxLenI], fun _ => rfl, fun p hp => by cases hp⟩
  · cases h

theorem joinCs_rep {b : Bool} : ∀ {cs ds es : List C} {vs : List Value}, joinCs b cs ds = some es → CReps E (bif b then cs else ds) vs → CReps E es vs
  | [], [], es, vs, h, hv => by cases h; cases b <;> exact hv
  | c :: cs, d :: ds, es, vs, h, hv => by
    unfold joinCs at h
    split at h
    · rename_i e es' h1 h2
      cases h
      cases b
      · obtain ⟨v, us, rfl, k1, k2⟩ := hv
        exact ⟨v, us, rfl, joinC_rep h1 k1, joinCs_rep h2 k2⟩
      · obtain ⟨v, us, rfl, k1, k2⟩ := hv
        exact ⟨v, us, rfl, joinC_rep h1 k1, joinCs_rep h2 k2⟩
    · cases h
  | [], _ :: _, es, vs, h, hv => by cases h
  | _ :: _, [], es, vs, h, hv => by cases h

theorem joinCs_one {b : Bool} {c d : C} {es : List C} (h : joinCs b [c] [d] = some es) : ∃ e, es = [e] ∧ joinC b c d = some e := by
  unfold joinCs at h
  split at h
  · rename_i e es' h1 h2
    cases h
    cases h2
    exact ⟨e, rfl, h1⟩
  · cases h

theorem joinCs_len {b : Bool} : ∀ {cs ds es : List C}, joinCs b cs ds = some es → cs.length = ds.length
  | [], [], es, h => rfl
  | c :: cs, d :: ds, es, h => by
    unfold joinCs at h
    split at h
    · rename_i e es' h1 h2
      simp [joinCs_len h2]
    · cases h
  | [], _ :: _, es, h => by cases h
  | _ :: _, [], es, h => by cases h

theorem joinPart_rep {g : Bool} {cs ds es : List C} {b : Bool} (h1 : joinCs b cs ds = some es) {v : Value} (hp : match (generalizing := false) g with | true => ∃ ws, v = .agg ws ∧ CReps E (bif b then cs else ds) ws.toList | false => ∃ c, (bif b then cs else ds) = [c] ∧ CRep E c v) :
    (match (generalizing := false) g with | true => ∃ ws, v = Value.agg ws ∧ CReps E es ws.toList | false => ∃ c, es = [c] ∧ CRep E c v) := by
  cases g with
  | true => obtain ⟨ws, rfl, hp⟩ := hp; exact ⟨ws, rfl, joinCs_rep h1 hp⟩
  | false =>
    obtain ⟨c, hc, hp⟩ := hp
    have hl := joinCs_len h1
    cases b with
    | true =>
      simp only [cond_true] at hc
      subst hc
      obtain ⟨d, rfl⟩ : ∃ d, ds = [d] := by
        cases ds with
        | nil => simp at hl
        | cons d ds' => cases ds' with
          | nil => exact ⟨d, rfl⟩
          | cons _ _ => simp at hl
      obtain ⟨e, rfl, he⟩ := joinCs_one h1
      exact ⟨e, rfl, joinC_rep he hp⟩
    | false =>
      simp only [cond_false] at hc
      subst hc
      obtain ⟨d, rfl⟩ : ∃ d, cs = [d] := by
        cases cs with
        | nil => simp at hl
        | cons d ds' => cases ds' with
          | nil => exact ⟨d, rfl⟩
          | cons _ _ => simp at hl
      obtain ⟨e, rfl, he⟩ := joinCs_one h1
      exact ⟨e, rfl, joinC_rep he hp⟩

theorem joinTup_rep {b : Bool} : ∀ {l k r : List (Bool × List C)} {vs : List Value}, joinTup b l k = some r → SRep.go E (bif b then l else k) vs → SRep.go E r vs
  | [], [], r, vs, h, hv => by cases h; cases b <;> exact hv
  | (g, cs) :: l, (g', ds) :: k, r, vs, h, hv => by
    unfold joinTup at h
    split at h
    · rename_i es r' hg h1 h2
      cases h
      have hg : g = g' := by simpa using hg
      subst hg
      cases b with
      | true =>
        obtain ⟨v, us, rfl, k1, k2⟩ := hv
        exact ⟨v, us, rfl, joinPart_rep h1 k1, joinTup_rep (b := true) h2 k2⟩
      | false =>
        obtain ⟨v, us, rfl, k1, k2⟩ := hv
        exact ⟨v, us, rfl, joinPart_rep h1 k1, joinTup_rep (b := false) h2 k2⟩
    · cases h
  | [], _ :: _, r, vs, h, hv => by cases h
  | _ :: _, [], r, vs, h, hv => by cases h

theorem joinSV_rep {b : Bool} {s t u : SV} {v : Value} (h : joinSV b s t = some u) (hv : SRep E (bif b then s else t) v) : SRep E u v := by
  unfold joinSV at h
  split at h
  · obtain ⟨c, h1, rfl⟩ := Option.map_eq_some_iff.1 h
    exact joinC_rep h1 (by cases b <;> exact hv)
  · obtain ⟨c, h1, rfl⟩ := Option.map_eq_some_iff.1 h
    cases b
    · obtain ⟨vs, rfl, k⟩ := hv; exact ⟨vs, rfl, joinCs_rep h1 k⟩
    · obtain ⟨vs, rfl, k⟩ := hv; exact ⟨vs, rfl, joinCs_rep h1 k⟩
  · obtain ⟨c, h1, rfl⟩ := Option.map_eq_some_iff.1 h
    cases b
    · obtain ⟨vs, rfl, k⟩ := hv; exact ⟨vs, rfl, joinTup_rep h1 k⟩
    · obtain ⟨vs, rfl, k⟩ := hv; exact ⟨vs, rfl, joinTup_rep h1 k⟩
  · cases h

theorem joinBlk_rep {b : Bool} {B B' D : Blk} {p : Place} (h : joinBlk b B B' = some D) (hv : BRep E w p (bif b then B else B')) : BRep E w p D ∧ D.mut = (bif b then B else B').mut := by
  unfold joinBlk at h
  split at h
  · obtain ⟨c, h1, rfl⟩ := Option.map_eq_some_iff.1 h
    cases b
    · obtain ⟨h0, vs, e, k1, k2⟩ := hv; exact ⟨⟨h0, vs, e, k1, joinCs_rep h1 k2⟩, rfl⟩
    · obtain ⟨h0, vs, e, k1, k2⟩ := hv; exact ⟨⟨h0, vs, e, k1, joinCs_rep h1 k2⟩, rfl⟩
  · split at h
    · rename_i hb
      simp only [Bool.and_eq_true, beq_iff_eq] at hb
      obtain ⟨ys', h1, rfl⟩ := Option.map_eq_some_iff.1 h
      obtain ⟨h2, h3⟩ := hb
      have h3 := Nat.eq_of_beq_eq_true h3
      subst h2 h3
      obtain ⟨ee, rfl⟩ := Ty.as_some h1
      cases ee
      cases b
      · exact ⟨hv, rfl⟩
      · exact ⟨hv, rfl⟩
    · cases h
  · cases h

theorem joinSl_find {b : Bool} {ch : List Loc} {s2 : List (Nat × (Tags × SV))} : ∀ {l : List (Nat × (Tags × SV))} {n : Nat} {ts : Tags} {u : SV}, keysOnce l = true → find (joinSl b ch s2 l) n = some (ts, u) →
    (find l n = some (ts, u) ∧ locIn ch (.slot n) = false) ∨ ∃ v v', find l n = some ([], v) ∧ find s2 n = some ([], v') ∧ joinSV b v v' = some u ∧ ts = []
  | [], _, _, _, _, h => by cases h
  | (m, ts', v) :: l, n, ts, u, hk, h => by
    simp only [keysOnce, Bool.and_eq_true] at hk
    have step : find (joinSl b ch s2 l) n = some (ts, u) → (find ((m, ts', v) :: l) n = some (ts, u) ∧ locIn ch (.slot n) = false) ∨ ∃ v1 v', find ((m, ts', v) :: l) n = some ([], v1) ∧ find s2 n = some ([], v') ∧ joinSV b v1 v' = some u ∧ ts = [] := fun h => by
      have hmn : ∀ x, find l n = some x → find ((m, ts', v) :: l) n = some x := fun x hx => by
        unfold find
        split
        · rename_i hb
          have := Nat.eq_of_beq_eq_true hb
          subst this
          rw [hx] at hk
          cases hk.1
        · exact hx
      rcases joinSl_find hk.2 h with ⟨h1, h2⟩ | ⟨v1, v', h1, h2⟩
      · exact .inl ⟨hmn _ h1, h2⟩
      · exact .inr ⟨v1, v', hmn _ h1, h2⟩
    unfold joinSl at h
    split at h
    · rename_i hc
      unfold find at h
      split at h
      · rename_i hb
        cases h
        have := Nat.eq_of_beq_eq_true hb
        subst this
        exact .inl ⟨by simp [find], hc⟩
      · exact step h
    · split at h
      · rename_i v' hf
        split at h
        · rename_i u' hu
          unfold find at h
          split at h
          · rename_i hb
            cases h
            have := Nat.eq_of_beq_eq_true hb
            subst this
            exact .inr ⟨v, v', by simp [find], hf, hu, rfl⟩
          · exact step h
        · exact step h
      · exact step h

theorem joinBl_find {b : Bool} {ch : List Loc} {b2 : List (Nat × Blk)} : ∀ {l r : List (Nat × Blk)} {n : Nat} {D : Blk}, blOnce l = true → joinBl b ch b2 l = some r → find r n = some D →
    (find l n = some D ∧ locIn ch (.blk n) = false) ∨ ∃ B B', find l n = some B ∧ find b2 n = some B' ∧ joinBlk b B B' = some D
  | [], r, n, D, _, h, hf => by cases h; cases hf
  | (m, B) :: l, r, n, D, hk, h, hf => by
    simp only [blOnce, Bool.and_eq_true] at hk
    unfold joinBl at h
    split at h
    · cases h
    · rename_i r' hr'
      have step : find r' n = some D → (find ((m, B) :: l) n = some D ∧ locIn ch (.blk n) = false) ∨ ∃ B1 B', find ((m, B) :: l) n = some B1 ∧ find b2 n = some B' ∧ joinBlk b B1 B' = some D := fun hf => by
        have hmn : ∀ x, find l n = some x → find ((m, B) :: l) n = some x := fun x hx => by
          unfold find
          split
          · rename_i hb
            have := Nat.eq_of_beq_eq_true hb
            subst this
            rw [hx] at hk
            cases hk.1
          · exact hx
        rcases joinBl_find hk.2 hr' hf with ⟨h1, h2⟩ | ⟨v1, v', h1, h2⟩
        · exact .inl ⟨hmn _ h1, h2⟩
        · exact .inr ⟨v1, v', hmn _ h1, h2⟩
      split at h
      · rename_i hc
        cases h
        unfold find at hf
        split at hf
        · rename_i hb
          cases hf
          have := Nat.eq_of_beq_eq_true hb
          subst this
          exact .inl ⟨by simp [find], hc⟩
        · exact step hf
      · split at h
        · cases h; exact step hf
        · rename_i B' hB'
          split at h
          · rename_i D' hD'
            cases h
            unfold find at hf
            split at hf
            · rename_i hb
              cases hf
              have := Nat.eq_of_beq_eq_true hb
              subst this
              exact .inr ⟨B, B', by simp [find], hB', hD'⟩
            · exact step hf
          · cases h

/-- Either end of a test is an end of the joined state. -/
theorem join_sound {b : Bool} {ch : List Loc} {S1 S2 S' : St} (hj : join b ch S1 S2 = some S') (hsame : ∀ l, l ∉ ch → Agree S1 S2 l) (hn : S1.n = S2.n) (h : TRel w0 foot base (bif b then S1 else S2) E a w) : TRel w0 foot base S' E a w := by
  unfold join at hj
  split at hj
  · rename_i bl hk hbl
    cases hj
    simp only [Bool.and_eq_true] at hk
    have hpin := natsEq_eq hk.2.2.2.2
    obtain ⟨k1, k2, k3, k4⟩ := hk
    have hnot : ∀ l, locIn ch l = false → l ∉ ch := fun l hl hm => by rw [locIn_spec.2 hm] at hl; cases hl
    have hblk : ∀ n D, find bl n = some D → ∃ B, find (bif b then S1 else S2).bl n = some B ∧ (∀ p, BRep E w p B → BRep E w p D ∧ D.mut = B.mut) := fun n D hf => by
      rcases joinBl_find k2 hbl hf with ⟨h1, h2⟩ | ⟨B, B', h1, h2, h3⟩
      · have hag := hsame (.blk n) (hnot _ h2)
        have hag : find S2.bl n = find S1.bl n := hag
        refine ⟨D, ?_, fun p hp => ⟨hp, rfl⟩⟩
        cases b
        · show find S2.bl n = _; rw [hag]; exact h1
        · exact h1
      · refine ⟨bif b then B else B', ?_, fun p hp => joinBlk_rep h3 hp⟩
        cases b
        · exact h2
        · exact h1
    have hslot : ∀ n ts u, find (joinSl b ch S2.sl S1.sl) n = some (ts, u) → ∃ v, find (bif b then S1 else S2).sl n = some (ts, v) ∧ (∀ x, SRep E v x → SRep E u x) := fun n ts u hf => by
      rcases joinSl_find k1 hf with ⟨h1, h2⟩ | ⟨v, v', h1, h2, h3, rfl⟩
      · have hag := hsame (.slot n) (hnot _ h2)
        have hag : find S2.sl n = find S1.sl n := hag
        refine ⟨u, ?_, fun x hx => hx⟩
        cases b
        · show find S2.sl n = _; rw [hag]; exact h1
        · exact h1
      · refine ⟨bif b then v else v', ?_, fun x hx => joinSV_rep h3 hx⟩
        cases b
        · exact h2
        · exact h1
    refine { keep := h.keep, frz := h.frz, src := h.src, blks := fun id D hf => ?_, own := fun id D p hf hp hpn => ?_, inj := fun id id' D D' p p' hf hf' hp hp' hpn hpn' hne => ?_, used := fun id p hp => ?_, slots := fun n ts u hf ht => ?_, size := ?_, defers := h.defers, pins := fun n p h1 => ?_, untagged := fun n ts u hf ht => ?_ }
    · obtain ⟨B, hB, hto⟩ := hblk id D hf
      obtain ⟨p, hp, k⟩ := h.blks id B hB
      exact ⟨p, hp, (hto p k).1⟩
    · obtain ⟨B, hB, hto⟩ := hblk id D hf
      obtain ⟨q, hq, k⟩ := h.blks id B hB
      rw [hp] at hq
      cases hq
      have := h.own id B p hB hp hpn
      exact ⟨this.1, fun hm => this.2 (by rw [← (hto p k).2]; exact hm)⟩
    · obtain ⟨B, hB, _⟩ := hblk id D hf
      obtain ⟨B', hB', _⟩ := hblk id' D' hf'
      exact h.inj id id' B B' p p' hB hB' hp hp' hpn hpn' hne
    · have := h.used id p hp
      cases b
      · exact List.mem_append_right _ this
      · exact List.mem_append_left _ this
    · obtain ⟨v, hv, hto⟩ := hslot n ts u hf
      exact hto _ (h.slots n ts v hv ht)
    · have := h.size
      cases b
      · rw [this]; exact hn.symm
      · exact this
    · have := h.pins n p h1
      cases b
      · exact ⟨by show n ∈ S1.pin; rw [hpin]; exact this.1, this.2⟩
      · exact this
    · obtain ⟨v, hv, _⟩ := hslot n ts u hf
      exact h.untagged n ts v hv ht
  · cases hj

theorem find_skip {α : Type} {m n : Nat} {x : α} {l : List (Nat × α)} (h : m ≠ n) : find ((m, x) :: l) n = find l n := by
  have : Nat.beq m n = false := by
    cases hb : Nat.beq m n with
    | false => rfl
    | true => exact absurd (Nat.eq_of_beq_eq_true hb) h
  simp only [find, this]

theorem find_cons_congr {α : Type} {m n : Nat} {x : α} {l k : List (Nat × α)} (h : find l n = find k n) : find ((m, x) :: l) n = find ((m, x) :: k) n := by
  simp only [find, h]

theorem joinSl_agree {b : Bool} {ch : List Loc} {s2 : List (Nat × (Tags × SV))} : ∀ {l : List (Nat × (Tags × SV))} {n : Nat}, locIn ch (.slot n) = false → find (joinSl b ch s2 l) n = find l n
  | [], _, _ => rfl
  | (m, ts, v) :: l, n, h => by
    have ih := joinSl_agree (b := b) (s2 := s2) (l := l) h
    unfold joinSl
    split
    · exact find_cons_congr ih
    · rename_i hm
      have hne : m ≠ n := fun e => by subst e; rw [h] at hm; cases hm
      rw [find_skip hne]
      split
      · split
        · rw [find_skip hne]; exact ih
        · exact ih
      · exact ih

theorem joinBl_agree {b : Bool} {ch : List Loc} {b2 : List (Nat × Blk)} : ∀ {l r : List (Nat × Blk)} {n : Nat}, locIn ch (.blk n) = false → joinBl b ch b2 l = some r → find r n = find l n
  | [], r, _, _, h => by cases h; rfl
  | (m, B) :: l, r, n, hn, h => by
    unfold joinBl at h
    split at h
    · cases h
    · rename_i r' hr'
      have ih := joinBl_agree hn hr'
      split at h
      · cases h; exact find_cons_congr ih
      · rename_i hm
        have hne : m ≠ n := fun e => by subst e; rw [hn] at hm; cases hm
        rw [find_skip hne]
        split at h
        · cases h; exact ih
        · split at h
          · cases h
            rw [find_skip hne]; exact ih
          · cases h

theorem join_agree {b : Bool} {ch : List Loc} {S1 S2 S' : St} (hj : join b ch S1 S2 = some S') {l : Loc} (hl : l ∉ ch) : Agree S1 S' l := by
  have hl : locIn ch l = false := by
    cases h : locIn ch l with
    | false => rfl
    | true => exact absurd (locIn_spec.1 h) hl
  unfold join at hj
  split at hj
  · rename_i bl hk hbl
    cases hj
    cases l with
    | slot n => exact joinSl_agree hl
    | blk n => exact joinBl_agree hl hbl
  · cases hj

theorem join_n {b : Bool} {ch : List Loc} {S1 S2 S' : St} (hj : join b ch S1 S2 = some S') : S'.n = S1.n := by
  unfold join at hj
  split at hj
  · cases hj; rfl
  · cases hj

/-! What code without loops leaves as it was. -/

theorem find_dropTags_keep : ∀ {l : List (Nat × (Tags × SV))} {n : Nat} {v : SV}, find l n = some ([], v) → find (dropTags l) n = some ([], v)
  | [], _, _, h => by cases h
  | (m, [], u) :: l, n, v, h => by
    unfold dropTags
    by_cases e : m = n
    · subst e
      simpa [find] using h
    · rw [find_skip e] at h ⊢
      exact find_dropTags_keep h
  | (m, t :: ts', u) :: l, n, v, h => by
    unfold dropTags
    unfold find at h
    split at h
    · cases h
    · exact find_dropTags_keep h

theorem cleaned_agree {S S' : St} (hk : keysOnce S'.sl = true) (hcl : Go.Vc.clean S.sl = true) {l : Loc} (h : Agree S S' l) : Agree S (cleaned S') l := by
  cases l with
  | blk n => exact h
  | slot n =>
    have h : find S'.sl n = find S.sl n := h
    show find (dropTags S'.sl) n = find S.sl n
    rw [← h]
    cases hf : find S'.sl n with
    | none =>
      cases hd : find (dropTags S'.sl) n with
      | none => rfl
      | some x =>
        obtain ⟨ts, v⟩ := x
        rw [(find_dropTags hk hd).1] at hf
        cases hf
    | some x =>
      obtain ⟨ts, v⟩ := x
      have := clean_spec hcl n ts v (h ▸ hf)
      subst this
      exact find_dropTags_keep hf

theorem exSeq_frame {ops : Array Oper} : ∀ {l : List Oper} {S : St} {recs : List Rec} {S' : St}, exSeq X ops l S = some (recs, S') → (∀ loc, loc ∉ recs.flatMap (fun c => Res.ws c.o c.r) → Agree S S' loc) ∧ S'.n = S.n
  | [], S, recs, S', h => by
    cases h
    exact ⟨fun loc _ => Agree.refl _ _, rfl⟩
  | o :: l, S, recs, S', h => by
    unfold exSeq at h
    split at h
    · cases h
    · rename_i c hc
      split at h
      · cases h
      · rename_i cs S'' hs
        cases h
        obtain ⟨h1, h2⟩ := exSeq_frame hs
        obtain ⟨_, _, _, _, _, _, ho, _⟩ := stepOp_spec hc
        refine ⟨fun loc hl => ?_, h2⟩
        simp only [List.flatMap_cons, List.mem_append, not_or] at hl
        rw [ho] at hl
        exact (upd_other hl.1).trans (h1 loc hl.2)

theorem region_frame {ops : Array Oper} {draw : Bool} {recs : List Rec} {S S' : St} (hr : region X ops draw S = some (recs, S')) : (∀ loc, loc ∉ recs.flatMap (fun c => Res.ws c.o c.r) → Agree S S' loc) ∧ S'.n = S.n := by
  unfold region at hr
  have key : ∀ S'', exSeq X ops ops.toList S = some (recs, S'') → keysOnce S''.sl = true → Go.Vc.clean S.sl = true → cleaned S'' = S' → (∀ loc, loc ∉ recs.flatMap (fun c => Res.ws c.o c.r) → Agree S S' loc) ∧ S'.n = S.n := fun S'' hs hk hcl e => by
    subst e
    obtain ⟨h1, h2⟩ := exSeq_frame hs
    exact ⟨fun loc hl => cleaned_agree hk hcl (h1 loc hl), h2⟩
  split at hr
  · cases hr
  · rename_i recs' S'' hs
    split at hr
    · rename_i hk
      cases hr
      simp only [Bool.and_eq_true] at hk
      cases draw with
      | false => exact key _ hs hk.1 hk.2 rfl
      | true =>
        simp only at hs
        unfold exDraw at hs
        split at hs
        · cases hs
        · rename_i r1 S1 hs1
          split at hs
          · cases hs
            exact key _ hs1 hk.1 hk.2 rfl
          · cases hs
    · cases hr

/-- Code without loops and leaps does what 'ex' says. -/
theorem ex_sound (hT : TabOk P X.tab) (hK : ∀ f con, X.con f = some con → ConOk P f con) : ∀ {c : Code} {S S' : St} {cs : List Prop} {ch : List Loc}, ex X c S = some (cs, ch, S') →
    ((∀ l, l ∉ ch → Agree S S' l) ∧ S'.n = S.n) ∧ ∀ {E : Env} {a : Act} {w : World}, TRel w0 foot base S E a w → (∀ p ∈ cs, p) → ∀ {Q : Exit → Act → World → Prop}, (∀ E' a' w', TRel w0 foot base S' E' a' w' → Q .normal a' w') → c.wp P Q a w
  | .skip, S, S', cs, ch, h => by
    cases h
    exact ⟨⟨fun l _ => Agree.refl _ _, rfl⟩, fun hR _ Q hQ => wp_skip (hQ _ _ _ hR)⟩
  | .region id ops draw, S, S', cs, ch, h => by
    unfold ex at h
    split at h
    · rename_i recs S'' hr
      cases h
      exact ⟨region_frame hr, fun hR hc Q hQ => region_sound hT hK hr hR hc hQ⟩
    · cases h
  | .seq x y, S, S', cs, ch, h => by
    unfold ex at h
    split at h
    · rename_i c1 h1 S1 hx
      split at h
      · rename_i c2 h2 S2 hy
        cases h
        obtain ⟨⟨fx, nx⟩, sx⟩ := ex_sound hT hK hx
        obtain ⟨⟨fy, ny⟩, sy⟩ := ex_sound hT hK hy
        refine ⟨⟨fun l hl => ?_, ny.trans nx⟩, fun hR hc Q hQ => ?_⟩
        · simp only [List.mem_append, not_or] at hl
          exact (fx l hl.1).trans (fy l hl.2)
        · refine wp_seq (sx hR (fun p hp => hc p (List.mem_append_left _ hp)) fun E' a' w' h' => ?_)
          exact sy h' (fun p hp => hc p (List.mem_append_right _ hp)) hQ
      · cases h
    · cases h
  | .cond c x y, S, S', cs, ch, h => by
    unfold ex at h
    split at h
    · rename_i b hb
      split at h
      · rename_i c1 h1 S1 c2 h2 S2 hx hy
        split at h
        · rename_i Sj hj
          cases h
          obtain ⟨⟨fx, nx⟩, sx⟩ := ex_sound hT hK hx
          obtain ⟨⟨fy, ny⟩, sy⟩ := ex_sound hT hK hy
          have hsame : ∀ l, l ∉ h1 ++ h2 → Agree S1 S2 l := fun l hl => by
            simp only [List.mem_append, not_or] at hl
            exact (fx l hl.1).symm.trans (fy l hl.2)
          have hnn : S1.n = S2.n := nx.trans ny.symm
          refine ⟨⟨fun l hl => ?_, ?_⟩, fun {E a w} hR hc Q hQ => ?_⟩
          · exact (fx l (fun hm => hl (List.mem_append_left _ hm))).trans (join_agree hj hl)
          · exact (join_n hj).trans nx
          · obtain ⟨s, e1, e2⟩ := RM.run_bind' hb
            have hv := asB_rep (ev_rep hR.toSRel (fun t ht => by cases ht) e1) e2
            refine wp_cond_split hv (fun ht => ?_) (fun ht => ?_)
            · refine sx hR (fun p hp => ?_) fun E' a' w' h' => ?_
              · exact hc (orP b true p) (List.mem_append_left _ (List.mem_map_of_mem hp)) ht
              · exact hQ E' a' w' (join_sound hj hsame hnn (by rw [ht]; exact h'))
            · refine sy hR (fun p hp => ?_) fun E' a' w' h' => ?_
              · exact hc (orP b false p) (List.mem_append_right _ (List.mem_map_of_mem hp)) ht
              · exact hQ E' a' w' (join_sound hj hsame hnn (by rw [ht]; exact h'))
        · cases h
      · cases h
    · cases h
  | .block id c, S, S', cs, ch, h => by
    unfold ex at h
    obtain ⟨f, s⟩ := ex_sound hT hK h
    exact ⟨f, fun hR hc Q hQ => wp_block (s hR hc fun E' a' w' h' => hQ E' a' w' h')⟩
  | .loop _, _, _, _, _, h => by cases h
  | .rangeFunc _ _ _ _, _, _, _, _, h => by cases h
  | .exit _, _, _, _, _, h => by cases h
  | .scope c, S, S', cs, ch, h => by
    unfold ex at h
    obtain ⟨f, s⟩ := ex_sound hT hK h
    exact ⟨f, fun hR hc Q hQ => wp_scope_straight (s hR hc fun E' a' w' h' => hQ E' a' w' h')⟩
  | .label _, S, S', cs, ch, h => by
    cases h
    exact ⟨⟨fun l _ => Agree.refl _ _, rfl⟩, fun hR _ Q hQ => wp_label (hQ _ _ _ hR)⟩
  | .goto _, _, _, _, _, h => by cases h
  | .ret, _, _, _, _, h => by cases h

end Go.Vc

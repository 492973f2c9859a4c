/-
  What everybody knows about claims: the law's own example, walked through.
-/
import Derived.Test.YtghpaejpccpgeaaVbg
import Derived.Test.YtghpaejpccpgeaaVcx
import Derived.Test.YtghpaejpccpgeaaRows
import Derived.WalkKit
import Derived.WalkSpells
import Derived.WalkLawsBesides
set_option maxRecDepth 100000
set_option linter.unusedVariables false
set_option linter.unusedSimpArgs false
namespace Go.Proofs
open Go Go.Vc Go.RowKit
namespace Ytghpaejpccpgeaa

/-! ### Rows that are written out -/

abbrev sl (b o n cap : Nat) : Value := .slice (some ⟨b, o, none⟩) n cap
abbrev i64 (n : Int) : Value := .int .i64 n

theorem row1 {F : Mem} {t : Ty} {x : t.den} {us : List Value} {b o cap : Nat} (hc : 1 ≤ cap) (hm : cap ≤ maxLenI) (h : Rep F t x us) (hc0 : ∀ (j : Nat) u, us[j]? = some u → F.cell b (o + j) u) :
    Rep F (.list t) [x] [sl b o 1 cap] := by
  refine ⟨some ⟨b, o, none⟩, cap, rfl, hc, hm, (fun h => by cases h), fun p hp i y hy => ?_⟩
  cases hp
  match i, hy with
  | 0, hy =>
    simp at hy
    subst hy
    exact ⟨rfl, us, h, h.length, fun j u hu => by simpa using hc0 j u hu⟩

theorem row2 {F : Mem} {t : Ty} {x y : t.den} {us vs : List Value} {b o cap : Nat} (hc : 2 ≤ cap) (hm : cap ≤ maxLenI) (h : Rep F t x us) (h' : Rep F t y vs) (hc0 : ∀ (j : Nat) u, us[j]? = some u → F.cell b (o + j) u)
    {o' : Nat} (ho : o + t.size = o') (hc1 : ∀ (j : Nat) u, vs[j]? = some u → F.cell b (o' + j) u) : Rep F (.list t) [x, y] [sl b o 2 cap] := by
  refine ⟨some ⟨b, o, none⟩, cap, rfl, hc, hm, (fun h => by cases h), fun p hp i z hz => ?_⟩
  cases hp
  match i, hz with
  | 0, hz =>
    simp at hz
    subst hz
    exact ⟨rfl, us, h, h.length, fun j u hu => by simpa using hc0 j u hu⟩
  | 1, hz =>
    simp at hz
    subst hz
    exact ⟨rfl, vs, h', h'.length, fun j u hu => by
      have := hc1 j u hu
      rw [← ho, Nat.add_assoc] at this
      simpa using this⟩

theorem cells1 {W : World} {b o : Nat} {u : Value} (h : W.cell? ⟨b, o, none⟩ = some u) : ∀ (j : Nat) v, [u][j]? = some v → (memOf W).cell b (o + j) v := by
  intro j v hv
  match j, hv with
  | 0, hv => simp at hv; subst hv; exact (cell_mem h).2

theorem cells2 {W : World} {b o : Nat} {u u' : Value} (h : W.cell? ⟨b, o, none⟩ = some u) (h' : W.cell? ⟨b, o + 1, none⟩ = some u') : ∀ (j : Nat) v, [u, u'][j]? = some v → (memOf W).cell b (o + j) v := by
  intro j v hv
  match j, hv with
  | 0, hv => simp at hv; subst hv; exact (cell_mem h).2
  | 1, hv => simp at hv; subst hv; exact (cell_mem h').2

theorem int_rep {F : Mem} {n : Int} (h : InR .i64 n) : Rep F I n [i64 n] := ⟨rfl, h⟩

theorem one_rep {W : World} {b : Nat} {n : Int} (h : InR .i64 n) (hc : W.cell? ⟨b, 0, none⟩ = some (i64 n)) : Rep (memOf W) (.list I) [n] [sl b 0 1 1] :=
  row1 (by omega) (by simp [maxLenI]) (int_rep h) (cells1 hc)

theorem two_rep {W : World} {b : Nat} {n m : Int} (h : InR .i64 n) (h' : InR .i64 m) (hc : W.cell? ⟨b, 0, none⟩ = some (i64 n)) (hc' : W.cell? ⟨b, 1, none⟩ = some (i64 m)) : Rep (memOf W) (.list I) [n, m] [sl b 0 2 2] :=
  row2 (by omega) (by simp [maxLenI]) (int_rep h) (int_rep h') (cells1 hc) rfl (cells1 hc')

theorem pair_rep {F : Mem} {a b : Ty} {x : a.den} {y : b.den} {u v : Value} (h : Rep F a x [u]) (h' : Rep F b y [v]) : Rep F (.pair a b) (x, y) [u, v] := ⟨[u], [v], rfl, h, h'⟩

/-! ### The example's memory -/

/-- The cells that both ways share. -/
structure LitA (W : World) (b0 b1 b2 b3 b4 b6 b7 : Nat) : Prop where
  lt0 : b0 < W.heap.size
  lt1 : b1 < W.heap.size
  lt2 : b2 < W.heap.size
  lt3 : b3 < W.heap.size
  lt4 : b4 < W.heap.size
  lt6 : b6 < W.heap.size
  lt7 : b7 < W.heap.size
  c0 : W.cell? ⟨b0, 0, none⟩ = some (i64 1)
  c10 : W.cell? ⟨b1, 0, none⟩ = some (i64 2)
  c11 : W.cell? ⟨b1, 1, none⟩ = some (i64 3)
  c20 : W.cell? ⟨b2, 0, none⟩ = some (sl b1 0 2 2)
  c21 : W.cell? ⟨b2, 1, none⟩ = some (i64 (-1))
  c3 : W.cell? ⟨b3, 0, none⟩ = some (i64 2)
  c4 : W.cell? ⟨b4, 0, none⟩ = some (i64 4)
  c60 : W.cell? ⟨b6, 0, none⟩ = some (sl b4 0 1 1)
  c61 : W.cell? ⟨b6, 1, none⟩ = some (i64 5)
  c63 : W.cell? ⟨b6, 3, none⟩ = some (i64 (-1))
  c70 : W.cell? ⟨b7, 0, none⟩ = some (sl b0 0 1 1)
  c71 : W.cell? ⟨b7, 1, none⟩ = some (sl b2 0 1 1)
  c72 : W.cell? ⟨b7, 2, none⟩ = some (sl b3 0 1 1)
  c73 : W.cell? ⟨b7, 3, none⟩ = some (sl b6 0 2 2)

theorem LitA.below {W W' : World} {b0 b1 b2 b3 b4 b6 b7 : Nat} (h : LitA W b0 b1 b2 b3 b4 b6 b7) (hb : Below W.heap.size W W') : LitA W' b0 b1 b2 b3 b4 b6 b7 := by
  have hs := hb.size
  exact ⟨Nat.lt_of_lt_of_le h.lt0 hs, Nat.lt_of_lt_of_le h.lt1 hs, Nat.lt_of_lt_of_le h.lt2 hs, Nat.lt_of_lt_of_le h.lt3 hs, Nat.lt_of_lt_of_le h.lt4 hs, Nat.lt_of_lt_of_le h.lt6 hs, Nat.lt_of_lt_of_le h.lt7 hs,
    (hb.cell h.lt0).trans h.c0, (hb.cell h.lt1).trans h.c10, (hb.cell h.lt1).trans h.c11, (hb.cell h.lt2).trans h.c20, (hb.cell h.lt2).trans h.c21, (hb.cell h.lt3).trans h.c3, (hb.cell h.lt4).trans h.c4,
    (hb.cell h.lt6).trans h.c60, (hb.cell h.lt6).trans h.c61, (hb.cell h.lt6).trans h.c63, (hb.cell h.lt7).trans h.c70, (hb.cell h.lt7).trans h.c71, (hb.cell h.lt7).trans h.c72, (hb.cell h.lt7).trans h.c73⟩

def claim0 : ClaimD := ([1], [([2, 3], -1)])
def stuckL : List ClaimD := [claim0, ([2], [([1], -1)])]
def freeL : List ClaimD := [claim0, ([2], [([4], 5), ([6], -1)])]

theorem r64 {n : Int} (h : -1000 ≤ n ∧ n ≤ 1000 := by decide) : InR .i64 n := inR64 (by omega) (by omega)

theorem LitA.legs0 {W : World} {b0 b1 b2 b3 b4 b6 b7 : Nat} (h : LitA W b0 b1 b2 b3 b4 b6 b7) : Rep (memOf W) (.list WantT) claim0.2 [sl b2 0 1 1] :=
  row1 (by omega) (by simp [maxLenI]) (pair_rep (two_rep r64 r64 h.c10 h.c11) (int_rep r64)) (cells2 h.c20 h.c21)

theorem LitA.stuck {W : World} {b0 b1 b2 b3 b4 b5 b6 b7 g cap : Nat} (h : LitA W b0 b1 b2 b3 b4 b6 b7) (hc : 2 ≤ cap) (hm : cap ≤ maxLenI) (h5 : W.cell? ⟨b5, 0, none⟩ = some (i64 1)) (h62 : W.cell? ⟨b6, 2, none⟩ = some (sl b5 0 1 1))
    (g0 : W.cell? ⟨g, 0, none⟩ = some (sl b0 0 1 1)) (g1 : W.cell? ⟨g, 1, none⟩ = some (sl b2 0 1 1)) (g2 : W.cell? ⟨g, 2, none⟩ = some (sl b3 0 1 1)) (g3 : W.cell? ⟨g, 3, none⟩ = some (sl b6 2 1 1)) :
    Rep (memOf W) (.list ClaimT) stuckL [sl g 0 2 cap] :=
  row2 hc hm (pair_rep (one_rep r64 h.c0) h.legs0) (pair_rep (one_rep r64 h.c3) (row1 (cap := 1) (by omega) (by simp [maxLenI]) (pair_rep (one_rep r64 h5) (int_rep r64)) (cells2 h62 h.c63)))
    (cells2 g0 g1) rfl (cells2 g2 g3)

theorem LitA.free {W : World} {b0 b1 b2 b3 b4 b5 b6 b7 : Nat} (h : LitA W b0 b1 b2 b3 b4 b6 b7) (h5 : W.cell? ⟨b5, 0, none⟩ = some (i64 6)) (h62 : W.cell? ⟨b6, 2, none⟩ = some (sl b5 0 1 1)) :
    Rep (memOf W) (.list ClaimT) freeL [sl b7 0 2 2] :=
  row2 (by omega) (by simp [maxLenI]) (pair_rep (one_rep r64 h.c0) h.legs0) (pair_rep (one_rep r64 h.c3) (row2 (cap := 2) (by omega) (by simp [maxLenI]) (pair_rep (one_rep r64 h.c4) (int_rep r64)) (pair_rep (one_rep r64 h5) (int_rep r64)) (cells2 h.c60 h.c61) rfl (cells2 h62 h.c63)))
    (cells2 h.c70 h.c71) rfl (cells2 h.c72 h.c73)

/-! ### Calls -/

theorem bool_calls {f : Nat} {ts : List Ty} {pre : Tup ts → Prop} {fn : Tup ts → Tup [.bool]} (h : DOk Try.prog f { args := ts, out := .data [.bool], pre := pre, fn := fn }) {b : Bool} {W : World} {x : Tup ts} {vs : List Value}
    (hx : VReps (memOf W) ts x vs) (hp : pre x) (hb : fn x = (b, ())) : Calls Try.prog f vs.toArray W fun e w' => e = .returned (.bool b) ∧ Below W.heap.size W w' := by
  refine (h.calls (memOf W) W x vs (fun b o h => h) hx hp).mono fun e w' => ?_
  rintro ⟨v, F', rfl, _, _, _, hk, hout⟩
  have hout : RepOut F' [.bool] (fn x) v := hout
  rw [hb] at hout
  have hout : [v] = [Value.bool b] := hout
  simp only [List.cons.injEq, and_true] at hout
  exact ⟨by rw [hout], ⟨hk.os, hk.tape, hk.output, hk.size, fun k hk' => hk.block k hk' (fun h => h)⟩⟩

theorem order_calls {W : World} {l : List ClaimD} {v : Value} (hr : Rep (memOf W) (.list ClaimT) l [v]) (hm : fMay l = true) :
    Calls Try.prog 14 #[v] W fun e w' => ∃ v0, e = .returned (.tuple #[v0, .bool (fOrder l).isSome]) ∧ Below W.heap.size W w' ∧ Rep (memOf w') (.list I) ((fOrder l).getD []) [v0] := by
  refine (ok14.calls (memOf W) W (l, ()) [v] (fun b o h => h) ⟨v, [], rfl, hr, rfl⟩ hm).mono fun e w' => ?_
  rintro ⟨u, F', rfl, _, hF, _, hk, hout⟩
  obtain ⟨vs, rfl, v0, us, e0, k0, v1, us1, e1, k1, e2⟩ := hout
  have k0 : Rep F' (.list I) ((fOrder l).getD []) [v0] := k0
  have k1 : [v1] = [Value.bool (fOrder l).isSome] := k1
  have e2 : us1 = [] := e2
  simp only [List.cons.injEq, and_true] at k1
  subst e2 k1
  refine ⟨v0, ?_, ⟨hk.os, hk.tape, hk.output, hk.size, fun k hk' => hk.block k hk' (fun h => h)⟩, k0.mono hF⟩
  rw [e1] at e0
  rw [show vs = #[v0, Value.bool (fOrder l).isSome] from Array.ext' e0]

theorem stuck_may : fMay stuckL = true := by decide
theorem stuck_no : (fOrder stuckL).isSome = false := by decide
theorem free_may : fMay freeL = true := by decide
theorem free_order : fOrder freeL = some [1, 0] := by decide
theorem free_grant : fGrant freeL 1 [] = true := by decide
theorem free_not : fFree freeL 0 = false := by decide

theorem mem_below {W W' : World} (h : Below W.heap.size W W') : (memOf W).le (memOf W') := fun b o hb => by
  have hlt : b < W.heap.size := heap_lt hb
  exact (h.block b hlt).trans hb

theorem LitA.store {W : World} {b0 b1 b2 b3 b4 b6 b7 : Nat} (h : LitA W b0 b1 b2 b3 b4 b6 b7) (hne : b7 ≠ b6) (o : Obj) (u : Value) : LitA ((W.alloc o).setCell ⟨b6, 2, none⟩ u) b0 b1 b2 b3 b4 b6 b7 := by
  have ha : Below W.heap.size W (W.alloc o) := (Below.refl _ _).alloc (Nat.le_refl _) o
  have h := h.below ha
  have hs : ((W.alloc o).setCell ⟨b6, 2, none⟩ u).heap.size = (W.alloc o).heap.size := by simp
  have key : ∀ (b o' : Nat) v, (b ≠ b6 ∨ o' ≠ 2) → (W.alloc o).cell? ⟨b, o', none⟩ = some v → ((W.alloc o).setCell ⟨b6, 2, none⟩ u).cell? ⟨b, o', none⟩ = some v := fun b o' v hd hc => by
    refine (World.cell?_setCell_other _ _ _ _ ?_).trans hc
    intro e
    simp only [Addr.mk.injEq, and_true] at e
    omega
  exact ⟨by rw [hs]; exact h.lt0, by rw [hs]; exact h.lt1, by rw [hs]; exact h.lt2, by rw [hs]; exact h.lt3, by rw [hs]; exact h.lt4, by rw [hs]; exact h.lt6, by rw [hs]; exact h.lt7,
    key _ _ _ (.inr (by omega)) h.c0, key _ _ _ (.inr (by omega)) h.c10, key _ _ _ (.inr (by omega)) h.c11, key _ _ _ (.inr (by omega)) h.c20, key _ _ _ (.inr (by omega)) h.c21, key _ _ _ (.inr (by omega)) h.c3,
    key _ _ _ (.inr (by omega)) h.c4, key _ _ _ (.inr (by omega)) h.c60, key _ _ _ (.inr (by omega)) h.c61, key _ _ _ (.inr (by omega)) h.c63, key _ _ _ (.inr (by omega)) h.c70, key _ _ _ (.inr (by omega)) h.c71,
    key _ _ _ (.inl hne) h.c72, key _ _ _ (.inr (by omega)) h.c73⟩

theorem call_stuck {W W0 : World} {B b0 b1 b2 b3 b4 b5 b6 b7 g cap : Nat} {Q : Ending → World → Prop} (hB : Below B W0 W) (hs : B ≤ W.heap.size) (hA : LitA W b0 b1 b2 b3 b4 b6 b7) (hc : 2 ≤ cap) (hm : cap ≤ maxLenI) (h5 : W.cell? ⟨b5, 0, none⟩ = some (i64 1))
    (h62 : W.cell? ⟨b6, 2, none⟩ = some (sl b5 0 1 1)) (g0 : W.cell? ⟨g, 0, none⟩ = some (sl b0 0 1 1)) (g1 : W.cell? ⟨g, 1, none⟩ = some (sl b2 0 1 1)) (g2 : W.cell? ⟨g, 2, none⟩ = some (sl b3 0 1 1)) (g3 : W.cell? ⟨g, 3, none⟩ = some (sl b6 2 1 1))
    (hf : W.frozen? ⟨b6, 2, none⟩ = false)
    (k : ∀ v0 w', Below B W0 w' → B ≤ w'.heap.size → LitA w' b0 b1 b2 b3 b4 b6 b7 → w'.cell? ⟨b7, 3, none⟩ = some (.slice (some ⟨b6, 0, none⟩) 2 2) → (∀ o, (w'.alloc o).cell? ⟨b6, 2, none⟩ = some (.slice (some ⟨b5, 0, none⟩) 1 1)) → (∀ o, (w'.alloc o).frozen? ⟨b6, 2, none⟩ = false) → Q (.returned (.tuple #[v0, .bool false])) w') :
    Calls Try.prog 14 #[sl g 0 2 cap] W Q := by
  refine (order_calls (hA.stuck hc hm h5 h62 g0 g1 g2 g3) stuck_may).mono ?_
  rintro e w' ⟨v0, rfl, hb, _⟩
  have hA' := hA.below hb
  rw [stuck_no]
  exact k v0 w' (hB.trans (hb.mono hs)) (Nat.le_trans hs hb.size) hA' hA'.c73
    (fun o => (((Below.refl _ _).alloc (Nat.le_refl _) o : Below w'.heap.size w' (w'.alloc o)).cell hA'.lt6).trans ((hb.cell hA.lt6).trans h62)) (fun o => (((Below.refl _ _).alloc (Nat.le_refl _) o : Below w'.heap.size w' (w'.alloc o)).frozen hA'.lt6).trans ((hb.frozen hA.lt6).trans hf))

theorem call_free {W W0 : World} {B b0 b1 b2 b3 b4 b5 b6 b7 : Nat} {Q : Ending → World → Prop} (hB : Below B W0 W) (hs : B ≤ W.heap.size) (hA : LitA W b0 b1 b2 b3 b4 b6 b7) (h5 : W.cell? ⟨b5, 0, none⟩ = some (i64 6)) (h62 : W.cell? ⟨b6, 2, none⟩ = some (sl b5 0 1 1))
    (k : ∀ v0 w', Below B W0 w' → B ≤ w'.heap.size → Rep (memOf w') (.list ClaimT) freeL [sl b7 0 2 2] → Rep (memOf w') (.list I) [1, 0] [v0] → Q (.returned (.tuple #[v0, .bool true])) w') :
    Calls Try.prog 14 #[sl b7 0 2 2] W Q := by
  refine (order_calls (hA.free h5 h62) free_may).mono ?_
  rintro e w' ⟨v0, rfl, hb, hr⟩
  rw [free_order] at hr ⊢
  exact k v0 w' (hB.trans (hb.mono hs)) (Nat.le_trans hs hb.size) ((hA.free h5 h62).mono (mem_below hb)) hr

theorem call_free' {W W0 : World} {B b0 b1 b2 b3 b4 b5 b6 b7 : Nat} {Q : Ending → World → Prop} (hB : Below B W0 W) (hs : B ≤ W.heap.size) (hA : LitA W b0 b1 b2 b3 b4 b6 b7) (hne : b7 ≠ b6) (h6 : B ≤ b6)
    (hc : ∀ o, (W.alloc o).cell? ⟨b6, 2, none⟩ = some (.slice (some ⟨b5, 0, none⟩) 1 1))
    (k : ∀ v0 w', Below B W0 w' → B ≤ w'.heap.size → Rep (memOf w') (.list ClaimT) freeL [sl b7 0 2 2] → Rep (memOf w') (.list I) [1, 0] [v0] → Q (.returned (.tuple #[v0, .bool true])) w') :
    Calls Try.prog 14 #[sl b7 0 2 2] ((W.alloc (.cells #[i64 6] 3)).setCell ⟨b6, 2, none⟩ (sl W.heap.size 0 1 1)) Q := by
  have h1 : (W.alloc (.cells #[i64 6] 3)).cell? ⟨W.heap.size, 0, none⟩ = some (i64 6) := by simp
  have hlt := hA.lt6
  refine call_free ((hB.alloc hs _).setCell h6 _) (by simp; omega) (hA.store hne _ _) (b5 := W.heap.size) ((World.cell?_setCell_other _ _ _ _ ?_).trans h1) (World.cell?_setCell_same _ _ _ (hc _)) k
  intro e
  simp only [Addr.mk.injEq, and_true] at e
  omega

theorem call_same {W W0 : World} {B : Nat} {l v0 : Value} {Q : Ending → World → Prop} (hB : Below B W0 W) (hs : B ≤ W.heap.size) (hl : Rep (memOf W) (.list ClaimT) freeL [l]) (hv : Rep (memOf W) (.list I) [1, 0] [v0])
    (k : ∀ w', Below B W0 w' → B ≤ w'.heap.size → Rep (memOf w') (.list ClaimT) freeL [l] → Q (.returned (.bool true)) w') :
    Calls Try.prog 16 #[v0, sl W.heap.size 0 2 2] (W.alloc (.cells #[i64 1, i64 0] 3)) Q := by
  have ha : Below W.heap.size W (W.alloc (.cells #[i64 1, i64 0] 3)) := (Below.refl _ _).alloc (Nat.le_refl _) _
  have c0 : (W.alloc (.cells #[i64 1, i64 0] 3)).cell? ⟨W.heap.size, 0, none⟩ = some (i64 1) := by simp
  have c1 : (W.alloc (.cells #[i64 1, i64 0] 3)).cell? ⟨W.heap.size, 1, none⟩ = some (i64 0) := by simp
  refine (bool_calls (ok16) (x := ([1, 0], [1, 0], ())) (vs := [v0, sl W.heap.size 0 2 2]) ⟨v0, _, rfl, hv.mono (mem_below ha), sl W.heap.size 0 2 2, [], rfl, two_rep r64 r64 c0 c1, rfl⟩ (by show 2 ≤ 1000000; omega) rfl).mono ?_
  rintro e w' ⟨rfl, hb⟩
  have hb' := ha.trans (hb.mono ha.size)
  exact k w' (hB.trans (hb'.mono hs)) (Nat.le_trans hs hb'.size) (hl.mono (mem_below hb'))

theorem nil_rep {F : Mem} {t : Ty} : Rep F (.list t) [] [.slice none 0 0] := ⟨none, 0, rfl, Nat.le_refl _, Nat.zero_le _, fun _ => rfl, fun p hp => by cases hp⟩

theorem call_grant (ok20 : DOk Try.prog 20 c20) {W W0 : World} {B : Nat} {l : Value} {Q : Ending → World → Prop} (hB : Below B W0 W) (hs : B ≤ W.heap.size) (hl : Rep (memOf W) (.list ClaimT) freeL [l])
    (k : ∀ w', Below B W0 w' → B ≤ w'.heap.size → Rep (memOf w') (.list ClaimT) freeL [l] → Q (.returned (.bool true)) w') :
    Calls Try.prog 20 #[l, i64 1, .slice none 0 0] W Q := by
  refine (bool_calls ok20 (x := (freeL, 1, [], ())) (vs := [l, i64 1, .slice none 0 0]) ⟨l, _, rfl, hl, i64 1, _, rfl, ⟨rfl, r64⟩, .slice none 0 0, _, rfl, nil_rep, rfl⟩ ⟨free_may, by show 0 ≤ 1000000; omega⟩ (by show (fGrant freeL 1 [], ()) = _; rw [free_grant])).mono ?_
  rintro e w' ⟨rfl, hb⟩
  exact k w' (hB.trans (hb.mono hs)) (Nat.le_trans hs hb.size) (hl.mono (mem_below hb))

theorem call_fr {W W0 : World} {B : Nat} {l : Value} {Q : Ending → World → Prop} (hB : Below B W0 W) (hs : B ≤ W.heap.size) (hl : Rep (memOf W) (.list ClaimT) freeL [l])
    (k : ∀ w', Below B W0 w' → B ≤ w'.heap.size → Rep (memOf w') (.list ClaimT) freeL [l] → Q (.returned (.bool false)) w') :
    Calls Try.prog 18 #[l, i64 0] W Q := by
  refine (bool_calls ok18 (x := (freeL, 0, ())) (vs := [l, i64 0]) ⟨l, _, rfl, hl, i64 0, _, rfl, ⟨rfl, r64⟩, rfl⟩ free_may (by show (fFree freeL 0, ()) = _; rw [free_not])).mono ?_
  rintro e w' ⟨rfl, hb⟩
  exact k w' (hB.trans (hb.mono hs)) (Nat.le_trans hs hb.size) (hl.mono (mem_below hb))

theorem call_may {W W0 : World} {B : Nat} {l : Value} {Q : Ending → World → Prop} (hB : Below B W0 W) (hs : B ≤ W.heap.size) (hl : Rep (memOf W) (.list ClaimT) freeL [l])
    (k : ∀ w', Below B W0 w' → Q (.returned (.bool true)) w') :
    Calls Try.prog 12 #[l] W Q := by
  refine (bool_calls ok12 (x := (freeL, ())) (vs := [l]) ⟨l, _, rfl, hl, rfl⟩ (may_short free_may) (by show (fMay freeL, ()) = _; rw [free_may])).mono ?_
  rintro e w' ⟨rfl, hb⟩
  exact k w' (hB.trans (hb.mono hs))

theorem cap35 : ¬281474976710656 < Builtin.nextslicecap 2 0 * Try.t35.bytes := by decide

end Ytghpaejpccpgeaa
end Go.Proofs

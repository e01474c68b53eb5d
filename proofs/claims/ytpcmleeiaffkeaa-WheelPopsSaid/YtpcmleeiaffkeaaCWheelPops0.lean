/- Functions of the program as plain Lean functions, what their calls do, and what follows of it. Conditions: each theorem's own. -/
import Derived.Test.YtpcmleeiaffkeaaCWheelPopsV
namespace Go.Proofs.Ytpcmleeiaffkeaa.QWhl
open Go.RowKit Go.Proofs.YtpcmleeiaffkeaaW.PrintWords Go.Proofs.YtpcmleeiaffkeaaW.PrintLast Go.Proofs.YtpcmleeiaffkeaaW.PrintMore
attribute [local go_sem] max2_int min2_int max_two min_two max_three min_three max_four min_four
set_option linter.unusedVariables false
set_option linter.unusedSimpArgs false
def errW : Option Int → Value
  | none => .nilIface
  | some c => .iface 0 (.int .i64 c)
theorem errW_none : errW none = .nilIface := rfl
theorem errW_some (c : Int) : errW (some c) = .iface 0 (.int .i64 c) := rfl
theorem info3 : (Try.prog.info? 3).map (fun i => (i.zero, i.size, i.bytes)) = some (some (.int .i64 0), 1, 8) := by kernel_rfl
structure S46 where
  f0 : Int
  f1 : Int
def z46 : S46 := ⟨(0 : Int), (0 : Int)⟩
def k46 : Kd S46 := Kd.iso (Kd.pair (Kd.int .i64) (Kd.int .i64)) (fun x : S46 => (x.f0, x.f1))
theorem k46_open {w : World} {x : S46} {cs : List Value} (h : k46.K w x cs) : cs = [.int .i64 x.f0, .int .i64 x.f1] := by
  obtain ⟨_, _, rfl, rfl, rfl⟩ := h
  exact rfl
theorem k46_openM {w : World} {base : Nat} {ok : Nat → Prop} {x : S46} {cs : List Value} (h : k46.M w base ok x cs) : cs = [.int .i64 x.f0, .int .i64 x.f1] := by
  obtain ⟨_, _, rfl, rfl, rfl⟩ := h
  exact rfl
theorem k46_mk (w : World) (x : S46)  : k46.K w x [.int .i64 x.f0, .int .i64 x.f1] := ⟨[.int .i64 x.f0], [.int .i64 x.f1], rfl, rfl, rfl⟩
theorem k46_mkM (w : World) (base : Nat) (ok : Nat → Prop) (x : S46)  : k46.M w base ok x [.int .i64 x.f0, .int .i64 x.f1] := ⟨[.int .i64 x.f0], [.int .i64 x.f1], rfl, rfl, rfl⟩
def rd_T46 (xs : List S46) (i : Int) : S46 := xs.getD i.toNat z46
theorem at_T46 {w : World} {A : Option Addr} {n : Nat} {xs : List S46} (h : Kd.C k46 w A n xs) (i : Int) (h0 : 0 ≤ i) (h1 : i < n) : ∃ ad , A = some ad ∧ w.cell? (ad.add (i.toNat * 2)) = some (.int .i64 (rd_T46 xs i).f0) ∧ w.cell? ⟨(ad.add (i.toNat * 2)).block, (ad.add (i.toNat * 2)).off + 1, none⟩ = some (.int .i64 (rd_T46 xs i).f1) := by
  obtain ⟨ad, c, e, _, hK, hc0⟩ := Kd.C_get h z46 i h0 h1
  have hc : ∀ j u, c[j]? = some u → w.cell? (ad.add (i.toNat * 2 + j)) = some u := hc0
  obtain rfl := k46_open hK
  exact ⟨ad, e, hc 0 _ rfl, by rw [← add_field _ _ 1 (by omega)]; exact hc 1 _ rfl⟩
end Go.Proofs.Ytpcmleeiaffkeaa.QWhl
namespace Go.Proofs.Ytpcmleeiaffkeaa.SrtK
open Go.RowKit Go.Proofs.YtpcmleeiaffkeaaW.PrintWords Go.Proofs.YtpcmleeiaffkeaaW.PrintLast Go.Proofs.YtpcmleeiaffkeaaW.PrintMore
open Go.Sort (flatK HoldsK putRowK)
set_option linter.unusedVariables false
section
variable {α : Type} [Inhabited α] {enc : α → List Value} {k : Nat}
theorem flat_get (hk : ∀ x, (enc x).length = k) (h0 : 0 < k) (xs : List α) (j i : Nat) (p : α) (hj : xs[j]? = some p) (hi : i < k) : (flatK enc k xs.toArray)[j * k + i]? = (enc p)[i]? := by
  have hl : j < xs.length := (List.getElem?_eq_some_iff.1 hj).1
  have hlt : j * k + i < xs.toArray.size * k := by
    have : (j + 1) * k ≤ xs.length * k := Nat.mul_le_mul_right _ hl
    rw [Nat.add_mul, Nat.one_mul] at this
    simp only [List.size_toArray]; omega
  have h1 : (j * k + i) / k = j := by rw [Nat.mul_comm, Nat.mul_add_div h0, Nat.div_eq_of_lt hi, Nat.add_zero]
  have h2 : (j * k + i) % k = i := by rw [Nat.mul_comm, Nat.mul_add_mod, Nat.mod_eq_of_lt hi]
  have hp : xs.toArray[j]! = p := by
    rw [getElem!_pos _ j (by simpa using hl)]
    obtain ⟨_, e⟩ := List.getElem?_eq_some_iff.1 hj
    simpa using e
  unfold flatK
  rw [Array.getElem?_map, Array.getElem?_range, if_pos hlt, Option.map_some, h1, h2, hp]
  have hi' : i < (enc p).length := by rw [hk]; exact hi
  rw [getElem!_pos _ i hi', List.getElem?_eq_getElem hi']
theorem reps_flat {R : α → List Value → Prop} (hk : ∀ x, (enc x).length = k) (h0 : 0 < k) (hR : ∀ x, R x (enc x)) (xs : List α) : Reps R k xs (flatK enc k xs.toArray).toList := by
  refine ⟨by simp, fun j p hj => ?_⟩
  have : ((flatK enc k xs.toArray).toList.drop (j * k)).take k = enc p := by
    apply List.ext_getElem?
    intro i
    by_cases hi : i < k
    · rw [List.getElem?_take_of_lt hi, List.getElem?_drop, Array.getElem?_toList]
      exact flat_get hk h0 xs j i p hj hi
    · rw [List.getElem?_take_eq_none (by omega), List.getElem?_eq_none (by rw [hk]; omega)]
  rw [this]; exact hR p
theorem flat_of_reps {R : α → List Value → Prop} (hk : ∀ x, (enc x).length = k) (h0 : 0 < k) (hR : ∀ x cs, R x cs → cs = enc x) (xs : List α) (inner : List Value) (h : Reps R k xs inner) : inner = (flatK enc k xs.toArray).toList := by
  apply List.ext_getElem?
  intro q
  by_cases hq : q < xs.length * k
  · have hj : q / k < xs.length := by rw [Nat.div_lt_iff_lt_mul h0]; exact hq
    have hi : q % k < k := Nat.mod_lt _ h0
    have e : q = q / k * k + q % k := by have := Nat.div_add_mod q k; rw [Nat.mul_comm] at this; omega
    have hp := List.getElem?_eq_getElem hj
    have h1 := hR _ _ (h.2 _ _ hp)
    have e5 : (flatK enc k xs.toArray).toList[q / k * k + q % k]? = (enc xs[q / k])[q % k]? := by rw [Array.getElem?_toList]; exact flat_get hk h0 xs _ _ _ hp hi
    rw [e, e5, ← h1, List.getElem?_take_of_lt hi, List.getElem?_drop]
  · rw [List.getElem?_eq_none (by rw [h.1]; omega), List.getElem?_eq_none (by simp; omega)]
variable {d : Kd α}
theorem R_parts {w : World} {base : Nat} {e : TypeId} {xs : List α} {ok : Nat → Prop} {v : Value} (hk : ∀ x, (enc x).length = k) (h0 : 0 < k) (hsz : d.sz = k) (hM : ∀ w base ok x cs, d.M w base ok x cs → cs = enc x) (h : d.R e w base ok v xs) :
    (v = .slice none 0 0 ∧ xs = []) ∨ ∃ g cap cur, v = .slice (some ⟨g, 0, none⟩) xs.length cap ∧ ok g ∧ base ≤ g ∧ w.heap[g]? = some (.cells cur e (0, 0)) ∧ xs.length ≤ cap ∧ cap ≤ maxLen ∧ cur.size = cap * k ∧ cur.toList.take (xs.length * k) = (flatK enc k xs.toArray).toList := by
  obtain ⟨hok, inner, ho, hr⟩ := h
  rw [hsz] at ho hr
  have hi := flat_of_reps (R := d.M w base fun k => ok k ∧ some k ≠ v.ownBlock) hk h0 (fun x cs => hM _ _ _ x cs) xs inner hr
  rcases ho.2 with ⟨e1, e2⟩ | ⟨g, cap, cur, hv, hg, hb, h1, h2, h3, h4⟩
  · exact .inl ⟨e1, List.length_eq_zero_iff.1 e2⟩
  · exact .inr ⟨g, cap, cur, hv, hok g (by rw [hv]; rfl), hg, hb, h1, h2, h3, by rw [h4, hi]⟩
end
end Go.Proofs.Ytpcmleeiaffkeaa.SrtK
namespace Go.Proofs.Ytpcmleeiaffkeaa.QWhl
open Go.RowKit Go.Proofs.YtpcmleeiaffkeaaW.PrintWords Go.Proofs.YtpcmleeiaffkeaaW.PrintLast Go.Proofs.YtpcmleeiaffkeaaW.PrintMore
open Go.Sort (flatK HoldsK)
set_option linter.unusedVariables false
set_option linter.unusedSimpArgs false
instance : Inhabited S46 := ⟨z46⟩
theorem S46.ext' {x y : S46} (h0 : x.f0 = y.f0) (h1 : x.f1 = y.f1) : x = y := by cases x; cases y; simp_all
instance : DecidableEq S46 := fun x y => decidable_of_iff (x.f0 = y.f0 ∧ x.f1 = y.f1) ⟨fun h => S46.ext' h.1 h.2, fun h => by rw [h]; exact ⟨rfl, rfl⟩⟩
def enc46 (x : S46) : List Value := [.int .i64 x.f0, .int .i64 x.f1]
theorem enc46_one (x : S46) : ∀ v ∈ enc46 x, v.oneCell' = true := by intro v hv; simp [enc46] at hv; rcases hv with rfl | rfl <;> rfl
def flat46 (xs : List S46) : List Value := xs.flatMap enc46
@[simp] theorem flat_len (xs : List S46) : (flat46 xs).length = xs.length * 2 := by
  induction xs with
  | nil => rfl
  | cons x r ih => unfold flat46 at *; rw [List.flatMap_cons, List.length_append, ih]; simp [enc46]; omega
theorem flat_cons (x : S46) (r : List S46) : flat46 (x :: r) = .int .i64 x.f0 :: .int .i64 x.f1 :: flat46 r := rfl
theorem flat_append (xs ys : List S46) : flat46 (xs ++ ys) = flat46 xs ++ flat46 ys := List.flatMap_append
theorem flat_get (xs : List S46) : ∀ j : Nat, (flat46 xs)[j]? = (xs[j / 2]?).bind fun x => (enc46 x)[j % 2]? := by
  induction xs with
  | nil => intro j; simp [flat46]
  | cons x r ih =>
    intro j
    rw [flat_cons]
    match j with
    | 0 => rfl
    | 1 => rfl
    | j + 2 =>
      rw [List.getElem?_cons_succ, List.getElem?_cons_succ, ih, show (j + 2) / 2 = j / 2 + 1 by omega, show (j + 2) % 2 = j % 2 by omega, List.getElem?_cons_succ]
theorem flat_one (xs : List S46) : ∀ v ∈ flat46 xs, v.oneCell' = true := by
  intro v hv
  unfold flat46 at hv
  obtain ⟨x, _, hx⟩ := List.mem_flatMap.1 hv
  exact enc46_one x v hx
theorem flatK_eq (xs : List S46) : (flatK enc46 2 xs.toArray).toList = flat46 xs := by
  apply List.ext_getElem?
  intro q
  by_cases hq : q < xs.length * 2
  · have hj : q / 2 < xs.length := by omega
    have hp := List.getElem?_eq_getElem hj
    rw [flat_get, hp, Option.bind_some]
    have := SrtK.flat_get (enc := enc46) (k := 2) (fun _ => rfl) (by decide) xs (q / 2) (q % 2) _ hp (by omega)
    rw [show q / 2 * 2 + q % 2 = q by omega] at this
    rw [Array.getElem?_toList]; exact this
  · rw [List.getElem?_eq_none (by simp; omega), List.getElem?_eq_none (by simp; omega)]
structure Row (w : World) (blk cap : Nat) (xs : List S46) (W : World) : Prop where
  grown : w.grownBy W (some blk)
  cells : ∃ cur : Array Value, W.heap[blk]? = some (.cells cur 46 (0, 0)) ∧ cur.size = cap * 2 ∧ cur.toList.take (xs.length * 2) = flat46 xs
  fits : xs.length ≤ cap
theorem grownBy_trans {w W W2 : World} {r : Option Nat} (h : w.grownBy W r) (k : W.grownBy W2 r) : w.grownBy W2 r :=
  ⟨k.os.trans h.os, k.tape.trans h.tape, k.output.trans h.output, Nat.le_trans h.size k.size, fun q hq hne => (k.block q (Nat.lt_of_lt_of_le hq h.size) hne).trans (h.block q hq hne)⟩
theorem grownBy_below {W W2 : World} {r : Option Nat} (h : Below W.heap.size W W2) : W.grownBy W2 r := ⟨h.os, h.tape, h.output, h.size, fun q hq _ => h.block q hq⟩
theorem grownBy_set (W : World) (b j : Nat) (v : Value) : W.grownBy (W.setCell ⟨b, j, none⟩ v) (some b) := ⟨rfl, rfl, rfl, by simp [World.setCell], fun q _ hne => Below.heap_setCell W _ v q (fun e => hne (by rw [e]))⟩
theorem grownBy_sets (b : Nat) : ∀ (vs : List Value) (o : Nat) (W : World), W.grownBy (W.setCells b o vs) (some b)
  | [], _, W => World.grownBy.refl W _
  | v :: r, o, W => grownBy_trans (grownBy_set W b o v) (grownBy_sets b r (o + 1) _)
theorem sets_blk (b : Nat) {t : TypeId} : ∀ (vs : List Value) (o : Nat) (W : World) (cur : Array Value), W.heap[b]? = some (.cells cur t (0, 0)) → o + vs.length ≤ cur.size →
    ∃ cur' : Array Value, (W.setCells b o vs).heap[b]? = some (.cells cur' t (0, 0)) ∧ cur'.size = cur.size ∧ ∀ j, cur'[j]? = if o ≤ j ∧ j < o + vs.length then vs[j - o]? else cur[j]?
  | [], o, W, cur, h, _ => ⟨cur, h, rfl, fun j => by rw [if_neg (by simp only [List.length_nil]; omega)]⟩
  | v :: r, o, W, cur, h, hl => by
    have hl' : o + 1 + r.length ≤ cur.size := by simp at hl; omega
    obtain ⟨cur', h1, h2, h3⟩ := sets_blk b r (o + 1) (W.setCell ⟨b, o, none⟩ v) (cur.setIfInBounds o v) (blk_put h o v rfl) (by simpa using hl')
    refine ⟨cur', h1, by rw [h2]; simp, fun j => ?_⟩
    rw [h3 j]
    simp only [List.length_cons]
    by_cases e : j = o
    · subst e
      rw [if_neg (by omega), if_pos (by omega), Nat.sub_self, Array.getElem?_setIfInBounds, if_pos rfl, if_pos (by omega)]
      rfl
    · by_cases c : o + 1 ≤ j ∧ j < o + 1 + r.length
      · rw [if_pos c, if_pos (by omega)]
        obtain ⟨q, rfl⟩ : ∃ q, j = o + 1 + q := ⟨j - (o + 1), by omega⟩
        rw [show o + 1 + q - (o + 1) = q by omega, show o + 1 + q - o = q + 1 by omega]
        simp
      · rw [if_neg c, if_neg (by omega), Array.getElem?_setIfInBounds, if_neg (by omega)]
namespace Row
variable {w W W2 : World} {blk cap : Nat} {xs : List S46}
theorem at_ (h : Row w blk cap xs W) (i : Nat) (hi : i < xs.length) : W.cell? ⟨blk, i * 2, none⟩ = some (.int .i64 xs[i].f0) ∧ W.cell? ⟨blk, i * 2 + 1, none⟩ = some (.int .i64 xs[i].f1) ∧ W.frozen? ⟨blk, i * 2, none⟩ = false ∧ W.frozen? ⟨blk, i * 2 + 1, none⟩ = false := by
  obtain ⟨cur, hb, hs, ht⟩ := h.cells
  have key : ∀ q, q < xs.length * 2 → W.cell? ⟨blk, q, none⟩ = (xs[q / 2]?).bind fun x => (enc46 x)[q % 2]? := fun q hq => by
    rw [blk_cell hb, ← flat_get, ← ht, List.getElem?_take_of_lt hq, Array.getElem?_toList]
  have h0 := key (i * 2) (by omega)
  have h1 := key (i * 2 + 1) (by omega)
  rw [show i * 2 / 2 = i by omega, show i * 2 % 2 = 0 by omega, List.getElem?_eq_getElem hi] at h0
  rw [show (i * 2 + 1) / 2 = i by omega, show (i * 2 + 1) % 2 = 1 by omega, List.getElem?_eq_getElem hi] at h1
  exact ⟨h0, h1, blk_frozen hb _, blk_frozen hb _⟩
theorem spare (h : Row w blk cap xs W) (q : Nat) (hq : q < cap * 2) : (W.cell? ⟨blk, q, none⟩).isSome = true ∧ W.frozen? ⟨blk, q, none⟩ = false := by
  obtain ⟨cur, hb, hs, ht⟩ := h.cells
  rw [blk_cell hb, Array.getElem?_eq_getElem (by omega)]
  exact ⟨rfl, blk_frozen hb _⟩
theorem cell (h : Row w blk cap xs W) (q : Nat) (v : Value) (hq : (flat46 xs)[q]? = some v) : W.cell? ⟨blk, q, none⟩ = some v := by
  obtain ⟨cur, hb, hs, ht⟩ := h.cells
  have hlt : q < xs.length * 2 := by have := (List.getElem?_eq_some_iff.1 hq).1; simpa using this
  rw [blk_cell hb, ← hq, ← ht, List.getElem?_take_of_lt hlt, Array.getElem?_toList]
theorem lt (h : Row w blk cap xs W) : blk < W.heap.size := by obtain ⟨cur, hb, _⟩ := h.cells; exact blk_lt hb
theorem below (h : Row w blk cap xs W) (hb : Below W.heap.size W W2) : Row w blk cap xs W2 := by
  obtain ⟨cur, hc, hs, ht⟩ := h.cells
  exact ⟨grownBy_trans h.grown (grownBy_below hb), ⟨cur, blk_below hc hb, hs, ht⟩, h.fits⟩
theorem drew (h : Row w blk cap xs W) : Row w blk cap xs W.drew := h.below (below_drew1 (Below.refl _ _))
theorem drewN (h : Row w blk cap xs W) (m : Nat) : Row w blk cap xs (W.drewN m) := h.below (pw_below_drewN (Below.refl _ _) m)
theorem alloc (h : Row w blk cap xs W) (o : Obj) : Row w blk cap xs (W.alloc o) := h.below (below_alloc (Below.refl _ _) o)
theorem far (h : Row w blk cap xs W) {g : Nat} (hne : blk ≠ g) (hg : w.heap.size ≤ g) (j : Nat) (v : Value) : Row w blk cap xs (W.setCell ⟨g, j, none⟩ v) := by
  obtain ⟨cur, hb, hs, ht⟩ := h.cells
  have h2 := h.grown
  exact ⟨⟨h2.os, h2.tape, h2.output, by simpa [World.setCell] using h2.size, fun q hq hn => (Below.heap_setCell W ⟨g, j, none⟩ v q (fun e => by simp only at e; omega)).trans (h2.block q hq hn)⟩, ⟨cur, blk_far hb hne v, hs, ht⟩, h.fits⟩
theorem start {cur : Array Value} (hb : w.heap[blk]? = some (.cells cur 46 (0, 0))) (hs : cur.size = cap * 2) (hf : xs.length ≤ cap) (ht : cur.toList.take (xs.length * 2) = (flatK enc46 2 xs.toArray).toList) : Row w blk cap xs w :=
  ⟨World.grownBy.refl _ _, ⟨cur, hb, hs, by rw [ht, flatK_eq]⟩, hf⟩
theorem take (h : Row w blk cap xs W) (m : Nat) : Row w blk cap (xs.take m) W := by
  obtain ⟨cur, hc, hs, ht⟩ := h.cells
  refine ⟨h.grown, ⟨cur, hc, hs, ?_⟩, by have := h.fits; rw [List.length_take]; omega⟩
  by_cases hm : m ≤ xs.length
  · rw [List.length_take, Nat.min_eq_left hm]
    have e : flat46 xs = flat46 (xs.take m) ++ flat46 (xs.drop m) := by rw [← flat_append, List.take_append_drop]
    have h2 : cur.toList.take (m * 2) = (cur.toList.take (xs.length * 2)).take (m * 2) := by rw [List.take_take, Nat.min_eq_left (by omega)]
    rw [h2, ht, e]
    have h3 : (flat46 (xs.take m)).length = m * 2 := by rw [flat_len, List.length_take, Nat.min_eq_left hm]
    rw [← h3, List.take_left']
    rfl
  · have e : xs.take m = xs := List.take_of_length_le (by omega)
    rw [e]; exact ht
theorem write (h : Row w blk cap xs W) (s : Nat) (ys : List S46) (hs : s ≤ xs.length) (hc : s + ys.length ≤ cap) : Row w blk cap (xs.take s ++ ys ++ xs.drop (s + ys.length)) (W.setCells blk (s * 2) (flat46 ys)) := by
  obtain ⟨cur, hb, hz, ht⟩ := h.cells
  have hf := h.fits
  obtain ⟨cur', h1, h2, h3⟩ := sets_blk blk (flat46 ys) (s * 2) W cur hb (by rw [flat_len]; omega)
  have hl : (xs.take s ++ ys ++ xs.drop (s + ys.length)).length ≤ cap := by simp; omega
  refine ⟨grownBy_trans h.grown (grownBy_sets blk _ _ W), ⟨cur', h1, by omega, ?_⟩, hl⟩
  apply List.ext_getElem?
  intro q
  by_cases hq : q < (xs.take s ++ ys ++ xs.drop (s + ys.length)).length * 2
  · rw [List.getElem?_take_of_lt hq, Array.getElem?_toList, h3 q, flat_get (xs.take s ++ ys ++ xs.drop (s + ys.length)) q]
    have hq2 : q / 2 < (xs.take s ++ ys ++ xs.drop (s + ys.length)).length := by omega
    simp only [flat_len]
    have hlt : (xs.take s).length = s := by rw [List.length_take]; omega
    by_cases c : s * 2 ≤ q ∧ q < s * 2 + ys.length * 2
    · rw [if_pos c, flat_get ys, List.append_assoc, List.getElem?_append_right (by omega), hlt, List.getElem?_append_left (by omega)]
      rw [show (q - s * 2) / 2 = q / 2 - s by omega, show (q - s * 2) % 2 = q % 2 by omega]
    · rw [if_neg c]
      have old : ∀ q, q < xs.length * 2 → cur[q]? = (xs[q / 2]?).bind fun x => (enc46 x)[q % 2]? := fun q hq => by
        rw [← flat_get, ← ht, List.getElem?_take_of_lt hq, Array.getElem?_toList]
      by_cases c2 : q < s * 2
      · rw [old q (by omega), List.append_assoc, List.getElem?_append_left (by omega), List.getElem?_take_of_lt (by omega)]
      · rw [List.getElem?_append_right (by simp; omega), List.length_append, hlt, List.getElem?_drop, show s + ys.length + (q / 2 - (s + ys.length)) = q / 2 by omega]
        have : q / 2 < xs.length := by simp at hq2; omega
        rw [old q (by omega)]
  · rw [List.getElem?_eq_none (by rw [List.length_take]; omega), List.getElem?_eq_none (by rw [flat_len]; omega)]
theorem set (h : Row w blk cap xs W) (i : Nat) (hi : i < xs.length) (x : S46) : Row w blk cap (xs.set i x) ((W.setCell ⟨blk, i * 2, none⟩ (.int .i64 x.f0)).setCell ⟨blk, i * 2 + 1, none⟩ (.int .i64 x.f1)) := by
  have := h.write i [x] (by omega) (by have := h.fits; simp; omega)
  have e : xs.take i ++ [x] ++ xs.drop (i + [x].length) = xs.set i x := by
    rw [List.set_eq_take_append_cons_drop, if_pos hi]; simp
  rw [e] at this
  exact this
theorem toR (h : Row w blk cap xs W) {base : Nat} {ok : Nat → Prop} (hbase : base ≤ blk) (hok : ok blk) (hm : cap ≤ maxLen) : Kd.R k46 46 W base ok (.slice (some ⟨blk, 0, none⟩) xs.length cap) xs := by
  obtain ⟨cur, hb, hz, ht⟩ := h.cells
  refine ⟨fun q hq => by cases hq; exact hok, (flatK enc46 2 xs.toArray).toList, ⟨by simp [show k46.sz = 2 from rfl], .inr ⟨blk, cap, cur, rfl, hbase, hb, h.fits, hm, by rw [hz]; rfl, ?_⟩⟩, SrtK.reps_flat (enc := enc46) (k := 2) (fun _ => rfl) (by decide) (fun x => k46_mkM _ _ _ x) xs⟩
  rw [flatK_eq]; exact ht
end Row
theorem Row.ofR {w : World} {base : Nat} {ok : Nat → Prop} {u : Value} {xs : List S46} (h : Kd.R k46 46 w base ok u xs) : (u = .slice none 0 0 ∧ xs = []) ∨ ∃ g cap, u = .slice (some ⟨g, 0, none⟩) xs.length cap ∧ ok g ∧ base ≤ g ∧ cap ≤ maxLen ∧ Row w g cap xs w := by
  rcases SrtK.R_parts (enc := enc46) (k := 2) (fun _ => rfl) (by decide) rfl (fun w base ok x cs h => k46_openM h) h with h | ⟨g, cap, cur, rfl, hokg, hgb, hb, h2, h3, h4, h5⟩
  · exact .inl h
  · exact .inr ⟨g, cap, rfl, hokg, hgb, h3, Row.start hb h4 h2 h5⟩
theorem zeros46 (n : Nat) : (Builtin.zeroCells (Value.agg #[.int .i64 0, .int .i64 0]).cells n).toList = flat46 (List.replicate n z46) := by
  apply List.ext_getElem?
  intro i
  rw [flat_get]
  by_cases h : i < n * 2
  · have h3 : i % 2 = 0 ∨ i % 2 = 1 := by omega
    rw [List.getElem?_replicate, if_pos (by omega)]
    rcases h3 with h3 | h3 <;> simp [Builtin.zeroCells, Value.cells, h3, h, enc46, z46]
  · rw [List.getElem?_eq_none (by simp [Builtin.zeroCells, Value.cells]; omega), List.getElem?_replicate, if_neg (by omega)]; rfl
theorem clear46 {w W : World} {blk cap : Nat} {xs : List S46} (h : Row w blk cap xs W) (i c : Nat) (hi : i < xs.length) (ty : TypeId) :
    (Builtin.clear_ #[42] ty #[.slice (some ⟨blk, i * 2, none⟩) (xs.length - i) c]).run Try.prog W = .ok (.tuple #[]) (W.setCells blk (i * 2) (flat46 (List.replicate (xs.length - i) z46))) := by
  have hf := h.fits
  have hst := run_storeCells_cells (P := Try.prog) blk (i * 2) (flat46 (List.replicate (xs.length - i) z46)) 0 W (fun j hj => (h.spare _ (by simp at hj; omega)).1) (fun j hj => (h.spare _ (by simp at hj; omega)).2) (flat_one _)
  rw [Nat.add_zero] at hst
  obtain ⟨m, hm⟩ : ∃ m, xs.length - i = m + 1 := ⟨xs.length - i - 1, by omega⟩
  rw [hm] at hst ⊢
  simp [Builtin.clear_, run_underlying Try.underlying42, Try.zeroValue46, zeros46, hst]
end Go.Proofs.Ytpcmleeiaffkeaa.QWhl
namespace Go.Proofs.Ytpcmleeiaffkeaa.QWhl
open Go.RowKit Go.Proofs.YtpcmleeiaffkeaaW.PrintWords Go.Proofs.YtpcmleeiaffkeaaW.PrintLast Go.Proofs.YtpcmleeiaffkeaaW.PrintMore
set_option linter.unusedVariables false
set_option linter.unusedSimpArgs false
abbrev PredOf (g kb : Nat) (key : Int) : Prop := ∀ (x : S46) (W : World), W.heap[kb]? = some (.cells #[.int .i64 key] 3 (0, 0)) →
    Calls Try.prog g #[.agg #[.int .i64 x.f0, .int .i64 x.f1], .pointer (some ⟨kb, 0, none⟩)] W fun e w' => e = .returned (.bool (decide (x.f1 = key))) ∧ Below W.heap.size W w'
set_option maxHeartbeats 4000000 in
theorem pred27 (kb : Nat) (key : Int) : PredOf 27 kb key := by
  intro x W hk
  have HK := Aside0.mk hk
  clear hk
  go_enter Try.func27, Try.ntmps27
  go_wp2_with ((with_reducible refine gate_dst (N := 2) rfl ?_); refine box_event ?hg (N := 2) ?hd (cs := #[.int .i64 x.f0, .int .i64 x.f1]) (t := 46) ?hr ?_; (case hd => rfl); (case hg => rfl); (case hr => first | (go_simp; done) | (go_simp; rfl)); intro gb hg w1 hbox hb; have hk1 : w1.cell? ⟨kb, 0, none⟩ = some (.int .i64 key) := (blk_cell (blk_below HK.out hb) 0).trans rfl; have hcz1 : w1.cell? ⟨gb, 1, none⟩ = some (.int .i64 x.f1) := (blk_cell hbox 1).trans rfl; have HB := Aside0.mk hb; clear hb hbox hg)
  go_ret
  exact ⟨by first | rfl | simp, by repeat (first | exact HB.out | apply below_alloc | apply pw_below_drewN | apply below_drew1)⟩
set_option maxHeartbeats 4000000 in
theorem pred25 (kb : Nat) (key : Int) : PredOf 25 kb key := by
  intro x W hk
  have HK := Aside0.mk hk
  clear hk
  go_enter Try.func25, Try.ntmps25
  go_wp2_with ((with_reducible refine gate_dst (N := 2) rfl ?_); refine box_event ?hg (N := 2) ?hd (cs := #[.int .i64 x.f0, .int .i64 x.f1]) (t := 46) ?hr ?_; (case hd => rfl); (case hg => rfl); (case hr => first | (go_simp; done) | (go_simp; rfl)); intro gb hg w1 hbox hb; have hk1 : w1.cell? ⟨kb, 0, none⟩ = some (.int .i64 key) := (blk_cell (blk_below HK.out hb) 0).trans rfl; have hcz1 : w1.cell? ⟨gb, 1, none⟩ = some (.int .i64 x.f1) := (blk_cell hbox 1).trans rfl; have HB := Aside0.mk hb; clear hb hbox hg)
  go_ret
  exact ⟨by first | rfl | simp, by repeat (first | exact HB.out | apply below_alloc | apply pw_below_drewN | apply below_drew1)⟩
def ixKey (l : List S46) (key : Int) : Int := match l.findIdx? (fun x => decide (x.f1 = key)) with | some j => (j : Int) | none => -1
theorem ixKey_hit {l : List S46} {key : Int} {j : Nat} (hj : j < l.length) (h : l[j].f1 = key) (hb : ∀ i, (hi : i < j) → l[i].f1 ≠ key) : ixKey l key = (j : Int) := by
  unfold ixKey
  have : l.findIdx? (fun x => decide (x.f1 = key)) = some j := List.findIdx?_eq_some_iff_getElem.2 ⟨hj, by simpa using h, fun i hi => by simpa using hb i hi⟩
  rw [this]
theorem ixKey_miss {l : List S46} {key : Int} (hb : ∀ i, (hi : i < l.length) → l[i].f1 ≠ key) : ixKey l key = -1 := by
  unfold ixKey
  have : l.findIdx? (fun x => decide (x.f1 = key)) = none := by
    rw [List.findIdx?_eq_none_iff]
    intro x hx
    obtain ⟨i, hi, rfl⟩ := List.getElem_of_mem hx
    simpa using hb i hi
  rw [this]
theorem rd46 {xs : List S46} {i : Nat} (h : i < xs.length) : rd_T46 xs i = xs[i] := by
  unfold rd_T46
  rw [Int.toNat_natCast, List.getD_eq_getElem?_getD, List.getElem?_eq_getElem h]; rfl
set_option maxHeartbeats 4000000 in
set_option maxRecDepth 100000 in
theorem index_calls (g kb : Nat) (key : Int) (hp : PredOf g kb key) (eg : ∀ args w, (callFunc g args).run Try.prog w = .ok (.enter g args) w) (A : Option Addr) (c : Nat) (l : List S46) (w : World) (hk : w.heap[kb]? = some (.cells #[.int .i64 key] 3 (0, 0))) (hr : Kd.C k46 w A l.length l) :
    Calls Try.prog 24 #[.slice A l.length c, .func (.func g) #[] #[.pointer (some ⟨kb, 0, none⟩)]] w fun e w' => e = .returned (.int .i64 (ixKey l key)) ∧ Below w.heap.size w w' := by
  have HK := Aside0.mk hk
  have HR := Aside0.mk hr
  have HP := Aside0.mk hp
  have hmx : l.length ≤ 9223372036854775807 := hr.2.1
  clear hk hr hp
  go_enter Try.func24, Try.ntmps24
  go_wp2
  go_loopg [5, 8] l.length (fun gg _ s8 wr => ∃ kk : Nat, kk ≤ l.length ∧ l.length - kk ≤ gg ∧ s8 = .int .i64 kk ∧ Aside0 (Below w.heap.size w wr) ∧ Aside0 (∀ i, (hi : i < l.length) → i < kk → l[i].f1 ≠ key))
  case atStart => exact ⟨0, Nat.zero_le _, by omega, rfl, ⟨Below.refl _ w⟩, ⟨fun j hj h0 => absurd h0 (Nat.not_lt_zero _)⟩⟩
  case round =>
    obtain ⟨kk, hkk, hg, rfl, BW, AA⟩ := hrel
    by_cases hlt : kk < l.length
    · have hltz : (kk : Int) < (l.length : Int) := by omega
      obtain ⟨ad, e, hx0, hx1⟩ := at_T46 (Kd.C_below HR.out BW.out) (kk : Int) (by omega) hltz
      rw [rd46 hlt] at hx0 hx1
      rw [Int.toNat_natCast] at hx0 hx1
      have hcall := HP.out l[kk] wr (blk_below HK.out BW.out)
      have hdec : decide (l[kk].f1 = key) = true ∨ decide (l[kk].f1 = key) = false := by cases decide (l[kk].f1 = key) <;> simp
      subst e
      rcases hdec with hd | hd
      · rw [hd] at hcall
        go_wp2_with (go_at_fn g; refine hcall.mono ?_; rintro e w' ⟨rfl, hb'⟩; have HB2 := Aside0.mk (below_step BW.out hb'); clear hb')
        go_ret
        refine ⟨?_, by repeat (first | exact HB2.out | apply below_alloc | apply pw_below_drewN | apply below_drew1)⟩
        rw [ixKey_hit hlt (of_decide_eq_true hd) (fun i hi => AA.out i (by omega) hi)]
        rfl
      · rw [hd] at hcall
        go_wp2_with (go_at_fn g; refine hcall.mono ?_; rintro e w' ⟨rfl, hb'⟩; have HB2 := Aside0.mk (below_step BW.out hb'); clear hb')
        go_roundg (l.length - (kk + 1))
        case measure => omega
        case rel =>
          refine ⟨kk + 1, by omega, by omega, by go_num, ⟨by repeat (first | exact HB2.out | apply below_alloc | apply pw_below_drewN | apply below_drew1)⟩, ⟨fun j hj h1 => ?_⟩⟩
          by_cases e : j = kk
          · subst e; exact of_decide_eq_false hd
          · exact AA.out j hj (by omega)
    · have e : kk = l.length := by omega
      subst e
      go_wp2
      go_ret
      refine ⟨?_, BW.out⟩
      rw [ixKey_miss (fun i hi => AA.out i hi (by omega))]
      rfl
theorem ixKey_cases (l : List S46) (key : Int) : (ixKey l key = -1 ∧ ∀ i, (hi : i < l.length) → l[i].f1 ≠ key) ∨ ∃ j : Nat, ixKey l key = (j : Int) ∧ ∃ hj : j < l.length, l[j].f1 = key ∧ ∀ i, (hi : i < l.length) → i < j → l[i].f1 ≠ key := by
  unfold ixKey
  cases h : l.findIdx? (fun x => decide (x.f1 = key)) with
  | none =>
    rw [List.findIdx?_eq_none_iff] at h
    exact .inl ⟨rfl, fun i hi => by simpa using h l[i] (by simp)⟩
  | some j =>
    obtain ⟨hj, hp, hb⟩ := List.findIdx?_eq_some_iff_getElem.1 h
    exact .inr ⟨j, rfl, hj, by simpa using hp, fun i hi hij => by simpa using hb i hij⟩
def drop46 (l : List S46) (key : Int) : List S46 := l.filter fun x => decide (x.f1 ≠ key)
theorem drop46_all {l : List S46} {key : Int} (h : ∀ i, (hi : i < l.length) → l[i].f1 ≠ key) : drop46 l key = l := by
  unfold drop46
  rw [List.filter_eq_self]
  intro x hx
  obtain ⟨i, hi, rfl⟩ := List.getElem_of_mem hx
  simpa using h i hi
structure Del (l : List S46) (key : Int) (i j : Nat) (d : List S46) : Prop where
  len : d.length = l.length
  lt : i < j
  low : d.take i = drop46 (l.take j) key
  cnt : (drop46 (l.take j) key).length = i
  high : ∀ t, i ≤ t → d[t]? = l[t]?
theorem Del.start {l : List S46} {key : Int} {j : Nat} (hj : j < l.length) (hk : l[j].f1 = key) (hb : ∀ i, (hi : i < l.length) → i < j → l[i].f1 ≠ key) : Del l key j (j + 1) l := by
  have e : drop46 (l.take (j + 1)) key = l.take j := by
    rw [List.take_succ_eq_append_getElem hj]
    unfold drop46
    rw [List.filter_append, List.filter_cons_of_neg (by simpa using hk), List.filter_nil, List.append_nil]
    exact drop46_all fun i hi => by
      rw [List.getElem_take]
      exact hb i (by simp at hi; omega) (by simp at hi; omega)
  exact ⟨rfl, by omega, e.symm, by rw [e, List.length_take]; omega, fun _ _ => rfl⟩
theorem Del.skip {l d : List S46} {key : Int} {i j : Nat} (h : Del l key i j d) (hj : j < l.length) (hk : l[j].f1 = key) : Del l key i (j + 1) d := by
  have e : drop46 (l.take (j + 1)) key = drop46 (l.take j) key := by
    rw [List.take_succ_eq_append_getElem hj]
    unfold drop46
    rw [List.filter_append, List.filter_cons_of_neg (by simpa using hk), List.filter_nil, List.append_nil]
  exact ⟨h.len, by have := h.lt; omega, by rw [e]; exact h.low, by rw [e]; exact h.cnt, h.high⟩
theorem Del.keep {l d : List S46} {key : Int} {i j : Nat} (h : Del l key i j d) (hj : j < l.length) (hk : l[j].f1 ≠ key) : Del l key (i + 1) (j + 1) (d.set i l[j]) := by
  have hl := h.len
  have hlt := h.lt
  have e : drop46 (l.take (j + 1)) key = drop46 (l.take j) key ++ [l[j]] := by
    rw [List.take_succ_eq_append_getElem hj]
    unfold drop46
    rw [List.filter_append, List.filter_cons_of_pos (by simpa using hk), List.filter_nil]
  refine ⟨by simp [hl], by omega, ?_, by rw [e, List.length_append, h.cnt]; rfl, fun t ht => ?_⟩
  · rw [e, ← h.low, List.take_succ_eq_append_getElem (by simp; omega), List.getElem_set_self, List.take_set_of_le (Nat.le_refl i)]
  · rw [List.getElem?_set_ne (by omega), h.high t (by omega)]
set_option maxHeartbeats 4000000 in
set_option maxRecDepth 100000 in
theorem delete_row (g kb : Nat) (key : Int) (hp : PredOf g kb key) (eg : ∀ args w, (callFunc g args).run Try.prog w = .ok (.enter g args) w) (blk cap : Nat) (l : List S46) (w : World) (hkb : kb ≠ blk) (hm : cap ≤ 9223372036854775807)
    (hk : w.heap[kb]? = some (.cells #[.int .i64 key] 3 (0, 0))) (hr : Row w blk cap l w) (hC : Kd.C k46 w (some ⟨blk, 0, none⟩) l.length l) :
    Calls Try.prog 26 #[.slice (some ⟨blk, 0, none⟩) l.length cap, .func (.func g) #[] #[.pointer (some ⟨kb, 0, none⟩)]] w fun e w' => e = .returned (.slice (some ⟨blk, 0, none⟩) (drop46 l key).length cap) ∧ Row w blk cap (drop46 l key) w' := by
  have hmx : l.length ≤ 9223372036854775807 := hC.2.1
  have hfit := hr.fits
  have e24 : ∀ args w, (callFunc 24 args).run Try.prog w = .ok (.enter 24 args) w := enters_of Try.func24 (by kernel_rfl) rfl
  have hIF := index_calls g kb key hp eg (some ⟨blk, 0, none⟩) cap l w hk hC
  have HK := Aside0.mk hk
  have HR := Aside0.mk hr
  have HP := Aside0.mk hp
  clear hk hr hC hp
  rcases ixKey_cases l key with ⟨e, hall⟩ | ⟨j0, e, hj0, hkey, hbef⟩
  · rw [e] at hIF
    rw [drop46_all hall]
    go_enter Try.func26, Try.ntmps26
    go_wp2_with (go_at_fn 24; refine hIF.mono ?_; rintro e w' ⟨rfl, hb'⟩; have HB2 := Aside0.mk hb'; clear hb')
    go_ret
    exact ⟨rfl, HR.out.below HB2.out⟩
  · rw [e] at hIF
    have hn1 : ¬ ((j0 : Int) = -1) := by omega
    go_enter Try.func26, Try.ntmps26
    go_wp2_with (go_at_fn 24; refine hIF.mono ?_; rintro e w' ⟨rfl, hb'⟩; have HB2 := Aside0.mk hb'; clear hb')
    clear hIF
    go_loopg [5, 6, 7] l.length (fun gg s5 s6 _ wr => ∃ (i j : Nat) (d : List S46), s5 = .int .i64 i ∧ s6 = .int .i64 j ∧ j ≤ l.length ∧ l.length - j ≤ gg ∧ Aside0 (Row w blk cap d wr) ∧ Aside0 (Del l key i j d))
    case atStart => exact ⟨j0, j0 + 1, l, rfl, by go_num, by omega, by omega, ⟨HR.out.below HB2.out⟩, ⟨Del.start hj0 hkey hbef⟩⟩
    case round =>
      obtain ⟨i, j, d, rfl, rfl, hjd, hgg, R2, D2⟩ := hrel
      have hdl := D2.out.len
      have hij := D2.out.lt
      by_cases hlt : j < l.length
      · have hltz : (j : Int) < (l.length : Int) := by omega
        obtain ⟨cj0, cj1, _, _⟩ := R2.out.at_ j (by omega)
        have ej : d[j]'(by omega) = l[j] := by
          have := D2.out.high j (by omega)
          rw [List.getElem?_eq_getElem (by omega), List.getElem?_eq_getElem hlt] at this
          exact Option.some.inj this
        rw [ej] at cj0 cj1
        have hkr : wr.heap[kb]? = some (.cells #[.int .i64 key] 3 (0, 0)) := (R2.out.grown.block kb (blk_lt HK.out) (by simp [hkb])).trans HK.out
        have hdec : decide (l[j].f1 = key) = true ∨ decide (l[j].f1 = key) = false := by cases decide (l[j].f1 = key) <;> simp
        obtain ⟨bb, hbb⟩ : ∃ bb, decide (l[j].f1 = key) = bb := ⟨_, rfl⟩
        have hcall : ∀ W, W.heap[kb]? = some (.cells #[.int .i64 key] 3 (0, 0)) → Calls Try.prog g #[.agg #[.int .i64 l[j].f0, .int .i64 l[j].f1], .pointer (some ⟨kb, 0, none⟩)] W fun e w' => e = .returned (.bool bb) ∧ Below W.heap.size W w' := fun W hW => by
          have := HP.out l[j] W hW
          rwa [hbb] at this
        have HKR := Aside0.mk hkr
        have HCL := Aside0.mk hcall
        clear hkr hcall
        have hil : i < d.length := by omega
        generalize hy0 : l[j].f0 = y0 at cj0 HCL
        generalize hy1 : l[j].f1 = y1 at cj1 HCL hbb
        have key0 : ∀ W : World, Row w blk cap (d.set i l[j]) ((W.setCell ⟨blk, i * 2, none⟩ (.int .i64 y0)).setCell ⟨blk, i * 2 + 1, none⟩ (.int .i64 y1)) ↔ Row w blk cap (d.set i l[j]) ((W.setCell ⟨blk, i * 2, none⟩ (.int .i64 l[j].f0)).setCell ⟨blk, i * 2 + 1, none⟩ (.int .i64 l[j].f1)) := fun W => by rw [hy0, hy1]
        have KY := Aside0.mk key0
        have HY := Aside0.mk hy1
        clear key0 hy0 hy1
        cases bb with
        | false =>
          go_wp2_with (first | ((with_reducible refine gate_dst (N := 7) rfl ?_); refine box_event ?hg (N := 7) ?hd (cs := #[.int .i64 0, .int .i64 0]) (t := 46) ?hr ?_; (case hd => rfl); (case hg => rfl); (case hr => first | (go_simp; done) | (go_simp; rfl)); intro gb hg w1 hbox hb; have hcz0 : w1.cell? ⟨gb, 0, none⟩ = some (.int .i64 0) := (blk_cell hbox 0).trans rfl; have hcz1 : w1.cell? ⟨gb, 1, none⟩ = some (.int .i64 0) := (blk_cell hbox 1).trans rfl; have hfz0 := blk_frozen hbox 0; have hfz1 := blk_frozen hbox 1; have BX := Aside0.mk hbox; have KX := Aside0.mk (blk_below HKR.out hb); have NE := Aside0.mk ((by rw [hg]; exact Nat.ne_of_lt (blk_lt HKR.out)) : kb ≠ gb); have NB := Aside0.mk ((by rw [hg]; exact Nat.ne_of_lt R2.out.lt) : blk ≠ gb); have GE := Aside0.mk ((by rw [hg]; exact R2.out.grown.size) : w.heap.size ≤ gb); have R3 := Aside0.mk (R2.out.below hb); clear hb hbox hg) | (go_at_fn g; refine (HCL.out _ (blk_far (blk_far KX.out NE.out _) NE.out _)).mono ?_; rintro e w2 ⟨rfl, hb2⟩; have R4 := Aside0.mk (((R3.out.far NB.out GE.out _ _).far NB.out GE.out _ _).below hb2); have BX2 := blk_below (blk_put (blk_put BX.out 0 _ rfl) 1 _ rfl) hb2; have hv0 : w2.cell? ⟨gb, 0, none⟩ = some (.int .i64 y0) := (blk_cell BX2 0).trans rfl; have hv1 : w2.cell? ⟨gb, 1, none⟩ = some (.int .i64 y1) := (blk_cell BX2 1).trans rfl; obtain ⟨ci0, ci1, fi0, fi1⟩ := R4.out.at_ i hil; clear BX2 hb2))
          go_roundg (l.length - (j + 1))
          case measure => omega
          case rel => exact ⟨i + 1, j + 1, d.set i l[j], by go_num, by go_num, by omega, Nat.le_refl _, ⟨(KY.out _).2 (R4.out.set i hil l[j])⟩, ⟨D2.out.keep hlt (by rw [HY.out]; exact of_decide_eq_false hbb)⟩⟩
        | true =>
          go_wp2_with (first | ((with_reducible refine gate_dst (N := 7) rfl ?_); refine box_event ?hg (N := 7) ?hd (cs := #[.int .i64 0, .int .i64 0]) (t := 46) ?hr ?_; (case hd => rfl); (case hg => rfl); (case hr => first | (go_simp; done) | (go_simp; rfl)); intro gb hg w1 hbox hb; have hcz0 : w1.cell? ⟨gb, 0, none⟩ = some (.int .i64 0) := (blk_cell hbox 0).trans rfl; have hcz1 : w1.cell? ⟨gb, 1, none⟩ = some (.int .i64 0) := (blk_cell hbox 1).trans rfl; have hfz0 := blk_frozen hbox 0; have hfz1 := blk_frozen hbox 1; have BX := Aside0.mk hbox; have KX := Aside0.mk (blk_below HKR.out hb); have NE := Aside0.mk ((by rw [hg]; exact Nat.ne_of_lt (blk_lt HKR.out)) : kb ≠ gb); have NB := Aside0.mk ((by rw [hg]; exact Nat.ne_of_lt R2.out.lt) : blk ≠ gb); have GE := Aside0.mk ((by rw [hg]; exact R2.out.grown.size) : w.heap.size ≤ gb); have R3 := Aside0.mk (R2.out.below hb); clear hb hbox hg) | (go_at_fn g; refine (HCL.out _ (blk_far (blk_far KX.out NE.out _) NE.out _)).mono ?_; rintro e w2 ⟨rfl, hb2⟩; have R4 := Aside0.mk (((R3.out.far NB.out GE.out _ _).far NB.out GE.out _ _).below hb2); clear hb2))
          go_roundg (l.length - (j + 1))
          case measure => omega
          case rel => exact ⟨i, j + 1, d, rfl, by go_num, by omega, Nat.le_refl _, ⟨R4.out⟩, ⟨D2.out.skip hlt (by rw [HY.out]; exact of_decide_eq_true hbb)⟩⟩
      · have ejl : j = l.length := by omega
        subst ejl
        have hcl := fun c ty => clear46 R2.out i c (by omega) ty
        rw [hdl] at hcl
        have hlen : (drop46 l key).length = i := by have := D2.out.cnt; rwa [List.take_of_length_le (Nat.le_refl _)] at this
        have hrow : Row w blk cap (drop46 l key) (wr.setCells blk (i * 2) (flat46 (List.replicate (l.length - i) z46))) := by
          have h1 := R2.out.write i (List.replicate (l.length - i) z46) (by omega) (by simp; omega)
          have h2 := h1.take i
          rw [List.append_assoc, List.take_append_of_le_length (by simp; omega), List.take_take, Nat.min_self, D2.out.low, List.take_of_length_le (Nat.le_refl _)] at h2
          exact h2
        have HROW := Aside0.mk hrow
        clear hrow
        go_wp2
        go_ret
        exact ⟨by rw [hlen]; rfl, HROW.out⟩
end Go.Proofs.Ytpcmleeiaffkeaa.QWhl
namespace Go.Proofs.Ytpcmleeiaffkeaa.QWhl
open Go.RowKit Go.Proofs.YtpcmleeiaffkeaaW.PrintWords Go.Proofs.YtpcmleeiaffkeaaW.PrintLast Go.Proofs.YtpcmleeiaffkeaaW.PrintMore
attribute [local go_sem] max2_int min2_int max_two min_two max_three min_three max_four min_four
set_option linter.unusedVariables false
set_option linter.unusedSimpArgs false
def cmp_Or_int.l0 : Nat → Int → List Int → Int → Int → Option (Int)
  | 0, _, _, _, _ => none
  | k + 1, x3, x6, x7, x8 => if x8 < x7 then (if 0 ≤ x8 then (if x8 < (x6.length : Int) then (if (rd x6 x8) = x3 then (cmp_Or_int.l0 k x3 x6 x7 (wrap64 (x8 + 1))) else (some (rd x6 x8))) else (none)) else (none)) else (some x3)
def cmp_Or_int.f (k : Nat) (l0 : List Int) : Option (Int) := cmp_Or_int.l0 k 0 l0 (l0.length : Int) 0
set_option maxHeartbeats 8000000 in
set_option maxRecDepth 100000 in
theorem cmp_Or_int.calls (k : Nat) (A0 : Option Addr) (c0 : Nat) (l0 : List Int) (r : Int) (w : World) (hr0 : Kd.C (Kd.int .i64) w A0 l0.length l0) (hc0 : l0.length ≤ c0) (h : cmp_Or_int.f k l0 = some r) :
    Calls Try.prog 28 #[.slice A0 l0.length c0] w fun e w' => e = .returned (.int .i64 r) ∧ Drawn0 w w' := by
  have HR0 := Aside0.mk hr0
  have HC0 := Aside0.mk hc0
  clear hr0 hc0
  have H : (cmp_Or_int.l0 k 0 l0 (l0.length : Int) 0) = some r := h
  clear h
  have H' := Aside0.mk H
  clear H
  go_enter Try.func28, Try.ntmps28
  go_wp2
  go_loopg [8] k (fun kq v8 w' => ∃ (x8_1 : Int), v8 = .int .i64 x8_1 ∧ Aside0 (cmp_Or_int.l0 kq 0 l0 (l0.length : Int) x8_1 = some r) ∧ Aside0 (kq ≤ k) ∧ Drawn0 w w')
  case atStart => exact ⟨(0), (by first | rfl | (simp; done) | (simp [*]; done)), H', ⟨Nat.le_refl _⟩, by repeat (first | exact Drawn0.refl _ | apply Drawn0.step)⟩
  case round =>
    clear H'
    obtain ⟨x8_1, rfl, HA, HK1, ⟨m1, rfl⟩⟩ := hrel
    cases gk with
    | zero => exact absurd HA.out (by simp [cmp_Or_int.l0])
    | succ k1 =>
      have H := HA.out
      clear HA
      simp only [cmp_Or_int.l0] at H
      by_cases c2 : x8_1 < (l0.length : Int)
      · rw [if_pos c2] at H
        have c2b0 : decide (x8_1 < (l0.length : Int)) = true := decide_eq_true c2
        clear c2
        by_cases c3 : 0 ≤ x8_1
        · rw [if_pos c3] at H
          have c3b0 : decide (0 ≤ x8_1) = true := decide_eq_true c3
          clear c3
          by_cases c4 : x8_1 < (l0.length : Int)
          · rw [if_pos c4] at H
            have c4b0 : decide (x8_1 < (l0.length : Int)) = true := decide_eq_true c4
            clear c4
            by_cases c5 : (rd l0 x8_1) = 0
            · rw [if_pos c5] at H
              have c5b0 : ((rd l0 x8_1) == 0) = true := beq_iff_eq.mpr c5
              have c5b1 : ((rd l0 x8_1) != 0) = false := bne_eq_false_iff_eq.mpr c5
              clear c5
              have H' := Aside0.mk H
              clear H
              have p101 : 0 ≤ (x8_1 : Int) := of_decide_eq_true (by first | (with_reducible assumption) | assumption)
              have q101 : x8_1 < (l0.length : Int) := of_decide_eq_true (by first | (with_reducible assumption) | assumption)
              obtain ⟨ad101, e101, hx101_0⟩ := Kd.at_int HR0.out x8_1 p101 q101
              cases e101
              replace p101 := eq_true p101
              replace q101 := eq_true q101
              go_wp2
              go_roundg k1
              case measure => have := HK1.out; omega
              case rel => exact ⟨(wrap64 (x8_1 + 1)), (by first | rfl | (simp; done) | (simp [*]; done)), H', ⟨by have := HK1.out; omega⟩, by repeat (first | exact Drawn0.refl _ | apply Drawn0.step)⟩
            · rw [if_neg c5] at H
              have c5b0 : ((rd l0 x8_1) == 0) = false := beq_eq_false_iff_ne.mpr c5
              have c5b1 : ((rd l0 x8_1) != 0) = true := bne_iff_ne.mpr c5
              obtain rfl := Option.some.inj H
              have p101 : 0 ≤ (x8_1 : Int) := of_decide_eq_true (by first | (with_reducible assumption) | assumption)
              have q101 : x8_1 < (l0.length : Int) := of_decide_eq_true (by first | (with_reducible assumption) | assumption)
              obtain ⟨ad101, e101, hx101_0⟩ := Kd.at_int HR0.out x8_1 p101 q101
              cases e101
              replace p101 := eq_true p101
              replace q101 := eq_true q101
              go_wp2
              go_ret
              exact ⟨by first | rfl | (simp; done) | (simp [*]; done), by repeat (first | exact Drawn0.refl _ | apply Drawn0.step)⟩
          · rw [if_neg c4] at H
            exact absurd H (by simp)
        · rw [if_neg c3] at H
          exact absurd H (by simp)
      · rw [if_neg c2] at H
        have c2b0 : decide (x8_1 < (l0.length : Int)) = false := decide_eq_false c2
        clear c2
        obtain rfl := Option.some.inj H
        go_wp2
        go_ret
        exact ⟨by first | rfl | (simp; done) | (simp [*]; done), by repeat (first | exact Drawn0.refl _ | apply Drawn0.step)⟩
def cmp_isNaN_int.f (a0 : Int) : Option (Bool) := some (a0 != a0)
set_option maxHeartbeats 8000000 in
set_option maxRecDepth 100000 in
theorem cmp_isNaN_int.calls (a0 : Int) (r : Bool) (w : World) (h : cmp_isNaN_int.f a0 = some r) :
    Calls Try.prog 32 #[.int .i64 a0] w fun e w' => e = .returned (.bool r) ∧ Drawn0 w w' := by
  have H : (some (a0 != a0)) = some r := h
  clear h
  obtain rfl := Option.some.inj H
  go_enter Try.func32, Try.ntmps32
  go_wp2
  go_ret
  exact ⟨by first | rfl | (simp; done) | (simp [*]; done), by repeat (first | exact Drawn0.refl _ | apply Drawn0.step)⟩
def cmp_Compare_int.f (a0 : Int) (a1 : Int) : Option (Int) := (cmp_isNaN_int.f a0).bind fun t102 => ((cmp_isNaN_int.f a1).bind fun t103 => (if t102 = true then (if t103 = true then (some 0) else (some (-1))) else (if t103 = true then (some 1) else (if a0 < a1 then (some (-1)) else (if a0 > a1 then (some 1) else (some 0))))))
set_option maxHeartbeats 8000000 in
set_option maxRecDepth 100000 in
theorem cmp_Compare_int.calls (a0 : Int) (a1 : Int) (r : Int) (w : World) (h : cmp_Compare_int.f a0 a1 = some r) :
    Calls Try.prog 29 #[.int .i64 a0, .int .i64 a1] w fun e w' => e = .returned (.int .i64 r) ∧ Drawn0 w w' := by
  have H : ((cmp_isNaN_int.f a0).bind fun t102 => ((cmp_isNaN_int.f a1).bind fun t103 => (if t102 = true then (if t103 = true then (some 0) else (some (-1))) else (if t103 = true then (some 1) else (if a0 < a1 then (some (-1)) else (if a0 > a1 then (some 1) else (some 0))))))) = some r := h
  clear h
  replace H := Option.bind_eq_some_iff.mp H
  obtain ⟨t102, A30, H⟩ := H
  replace H : ((cmp_isNaN_int.f a1).bind fun t103 => (if t102 = true then (if t103 = true then (some 0) else (some (-1))) else (if t103 = true then (some 1) else (if a0 < a1 then (some (-1)) else (if a0 > a1 then (some 1) else (some 0)))))) = some r := H
  have A3 := Aside0.mk A30
  clear A30
  replace H := Option.bind_eq_some_iff.mp H
  obtain ⟨t103, A40, H⟩ := H
  replace H : (if t102 = true then (if t103 = true then (some 0) else (some (-1))) else (if t103 = true then (some 1) else (if a0 < a1 then (some (-1)) else (if a0 > a1 then (some 1) else (some 0))))) = some r := H
  have A4 := Aside0.mk A40
  clear A40
  by_cases c5 : t102 = true
  · subst c5
    have H1 : (if t103 = true then (some 0) else (some (-1))) = some r := by rw [if_pos rfl] at H; exact H
    clear H
    have H := H1
    clear H1
    by_cases c6 : t103 = true
    · subst c6
      have H1 : (some 0) = some r := by rw [if_pos rfl] at H; exact H
      clear H
      have H := H1
      clear H1
      obtain rfl := Option.some.inj H
      go_enter Try.func29, Try.ntmps29
      go_wp2_with (first | ((with_reducible refine gate_callee (f := 32) rfl ?_); refine goesL_ (some 8) rfl rfl Try.func32 (by kernel_rfl) rfl #[.int .i64 a0] rfl (by (try simp only [List.map_toArray, List.map_cons, List.map_nil]); first | done | rfl | (simp only [List.length_drop, List.length_take]; rfl)) ?_; (with_reducible refine (cmp_isNaN_int.calls a0 true _ A3.out).mono ?_); rintro e w' ⟨rfl, ⟨nd, rfl⟩⟩; refine ⟨_, rfl, ?_⟩) | ((with_reducible refine gate_callee (f := 32) rfl ?_); refine goesL_ (some 10) rfl rfl Try.func32 (by kernel_rfl) rfl #[.int .i64 a1] rfl (by (try simp only [List.map_toArray, List.map_cons, List.map_nil]); first | done | rfl | (simp only [List.length_drop, List.length_take]; rfl)) ?_; (with_reducible refine (cmp_isNaN_int.calls a1 true _ A4.out).mono ?_); rintro e w' ⟨rfl, ⟨nd, rfl⟩⟩; refine ⟨_, rfl, ?_⟩))
      go_ret
      exact ⟨by first | rfl | (simp; done) | (simp [*]; done), by repeat (first | exact Drawn0.refl _ | apply Drawn0.step)⟩
    · replace c6 := Bool.eq_false_iff.mpr c6
      subst c6
      have H1 : (some (-1)) = some r := by rw [if_neg (show ¬ (false = true) by decide)] at H; exact H
      clear H
      have H := H1
      clear H1
      obtain rfl := Option.some.inj H
      go_enter Try.func29, Try.ntmps29
      go_wp2_with (first | ((with_reducible refine gate_callee (f := 32) rfl ?_); refine goesL_ (some 8) rfl rfl Try.func32 (by kernel_rfl) rfl #[.int .i64 a0] rfl (by (try simp only [List.map_toArray, List.map_cons, List.map_nil]); first | done | rfl | (simp only [List.length_drop, List.length_take]; rfl)) ?_; (with_reducible refine (cmp_isNaN_int.calls a0 true _ A3.out).mono ?_); rintro e w' ⟨rfl, ⟨nd, rfl⟩⟩; refine ⟨_, rfl, ?_⟩) | ((with_reducible refine gate_callee (f := 32) rfl ?_); refine goesL_ (some 10) rfl rfl Try.func32 (by kernel_rfl) rfl #[.int .i64 a1] rfl (by (try simp only [List.map_toArray, List.map_cons, List.map_nil]); first | done | rfl | (simp only [List.length_drop, List.length_take]; rfl)) ?_; (with_reducible refine (cmp_isNaN_int.calls a1 false _ A4.out).mono ?_); rintro e w' ⟨rfl, ⟨nd, rfl⟩⟩; refine ⟨_, rfl, ?_⟩))
      go_ret
      exact ⟨by first | rfl | (simp; done) | (simp [*]; done), by repeat (first | exact Drawn0.refl _ | apply Drawn0.step)⟩
  · replace c5 := Bool.eq_false_iff.mpr c5
    subst c5
    have H1 : (if t103 = true then (some 1) else (if a0 < a1 then (some (-1)) else (if a0 > a1 then (some 1) else (some 0)))) = some r := by rw [if_neg (show ¬ (false = true) by decide)] at H; exact H
    clear H
    have H := H1
    clear H1
    by_cases c7 : t103 = true
    · subst c7
      have H1 : (some 1) = some r := by rw [if_pos rfl] at H; exact H
      clear H
      have H := H1
      clear H1
      obtain rfl := Option.some.inj H
      go_enter Try.func29, Try.ntmps29
      go_wp2_with (first | ((with_reducible refine gate_callee (f := 32) rfl ?_); refine goesL_ (some 8) rfl rfl Try.func32 (by kernel_rfl) rfl #[.int .i64 a0] rfl (by (try simp only [List.map_toArray, List.map_cons, List.map_nil]); first | done | rfl | (simp only [List.length_drop, List.length_take]; rfl)) ?_; (with_reducible refine (cmp_isNaN_int.calls a0 false _ A3.out).mono ?_); rintro e w' ⟨rfl, ⟨nd, rfl⟩⟩; refine ⟨_, rfl, ?_⟩) | ((with_reducible refine gate_callee (f := 32) rfl ?_); refine goesL_ (some 10) rfl rfl Try.func32 (by kernel_rfl) rfl #[.int .i64 a1] rfl (by (try simp only [List.map_toArray, List.map_cons, List.map_nil]); first | done | rfl | (simp only [List.length_drop, List.length_take]; rfl)) ?_; (with_reducible refine (cmp_isNaN_int.calls a1 true _ A4.out).mono ?_); rintro e w' ⟨rfl, ⟨nd, rfl⟩⟩; refine ⟨_, rfl, ?_⟩))
      go_ret
      exact ⟨by first | rfl | (simp; done) | (simp [*]; done), by repeat (first | exact Drawn0.refl _ | apply Drawn0.step)⟩
    · replace c7 := Bool.eq_false_iff.mpr c7
      subst c7
      have H1 : (if a0 < a1 then (some (-1)) else (if a0 > a1 then (some 1) else (some 0))) = some r := by rw [if_neg (show ¬ (false = true) by decide)] at H; exact H
      clear H
      have H := H1
      clear H1
      by_cases c8 : a0 < a1
      · rw [if_pos c8] at H
        have c8b0 : decide (a0 < a1) = true := decide_eq_true c8
        clear c8
        obtain rfl := Option.some.inj H
        go_enter Try.func29, Try.ntmps29
        go_wp2_with (first | ((with_reducible refine gate_callee (f := 32) rfl ?_); refine goesL_ (some 8) rfl rfl Try.func32 (by kernel_rfl) rfl #[.int .i64 a0] rfl (by (try simp only [List.map_toArray, List.map_cons, List.map_nil]); first | done | rfl | (simp only [List.length_drop, List.length_take]; rfl)) ?_; (with_reducible refine (cmp_isNaN_int.calls a0 false _ A3.out).mono ?_); rintro e w' ⟨rfl, ⟨nd, rfl⟩⟩; refine ⟨_, rfl, ?_⟩) | ((with_reducible refine gate_callee (f := 32) rfl ?_); refine goesL_ (some 10) rfl rfl Try.func32 (by kernel_rfl) rfl #[.int .i64 a1] rfl (by (try simp only [List.map_toArray, List.map_cons, List.map_nil]); first | done | rfl | (simp only [List.length_drop, List.length_take]; rfl)) ?_; (with_reducible refine (cmp_isNaN_int.calls a1 false _ A4.out).mono ?_); rintro e w' ⟨rfl, ⟨nd, rfl⟩⟩; refine ⟨_, rfl, ?_⟩))
        go_ret
        exact ⟨by first | rfl | (simp; done) | (simp [*]; done), by repeat (first | exact Drawn0.refl _ | apply Drawn0.step)⟩
      · rw [if_neg c8] at H
        have c8b0 : decide (a0 < a1) = false := decide_eq_false c8
        clear c8
        by_cases c9 : a0 > a1
        · rw [if_pos c9] at H
          have c9b0 : decide (a1 < a0) = true := decide_eq_true c9
          clear c9
          obtain rfl := Option.some.inj H
          go_enter Try.func29, Try.ntmps29
          go_wp2_with (first | ((with_reducible refine gate_callee (f := 32) rfl ?_); refine goesL_ (some 8) rfl rfl Try.func32 (by kernel_rfl) rfl #[.int .i64 a0] rfl (by (try simp only [List.map_toArray, List.map_cons, List.map_nil]); first | done | rfl | (simp only [List.length_drop, List.length_take]; rfl)) ?_; (with_reducible refine (cmp_isNaN_int.calls a0 false _ A3.out).mono ?_); rintro e w' ⟨rfl, ⟨nd, rfl⟩⟩; refine ⟨_, rfl, ?_⟩) | ((with_reducible refine gate_callee (f := 32) rfl ?_); refine goesL_ (some 10) rfl rfl Try.func32 (by kernel_rfl) rfl #[.int .i64 a1] rfl (by (try simp only [List.map_toArray, List.map_cons, List.map_nil]); first | done | rfl | (simp only [List.length_drop, List.length_take]; rfl)) ?_; (with_reducible refine (cmp_isNaN_int.calls a1 false _ A4.out).mono ?_); rintro e w' ⟨rfl, ⟨nd, rfl⟩⟩; refine ⟨_, rfl, ?_⟩))
          go_ret
          exact ⟨by first | rfl | (simp; done) | (simp [*]; done), by repeat (first | exact Drawn0.refl _ | apply Drawn0.step)⟩
        · rw [if_neg c9] at H
          have c9b0 : decide (a1 < a0) = false := decide_eq_false c9
          clear c9
          obtain rfl := Option.some.inj H
          go_enter Try.func29, Try.ntmps29
          go_wp2_with (first | ((with_reducible refine gate_callee (f := 32) rfl ?_); refine goesL_ (some 8) rfl rfl Try.func32 (by kernel_rfl) rfl #[.int .i64 a0] rfl (by (try simp only [List.map_toArray, List.map_cons, List.map_nil]); first | done | rfl | (simp only [List.length_drop, List.length_take]; rfl)) ?_; (with_reducible refine (cmp_isNaN_int.calls a0 false _ A3.out).mono ?_); rintro e w' ⟨rfl, ⟨nd, rfl⟩⟩; refine ⟨_, rfl, ?_⟩) | ((with_reducible refine gate_callee (f := 32) rfl ?_); refine goesL_ (some 10) rfl rfl Try.func32 (by kernel_rfl) rfl #[.int .i64 a1] rfl (by (try simp only [List.map_toArray, List.map_cons, List.map_nil]); first | done | rfl | (simp only [List.length_drop, List.length_take]; rfl)) ?_; (with_reducible refine (cmp_isNaN_int.calls a1 false _ A4.out).mono ?_); rintro e w' ⟨rfl, ⟨nd, rfl⟩⟩; refine ⟨_, rfl, ?_⟩))
          go_ret
          exact ⟨by first | rfl | (simp; done) | (simp [*]; done), by repeat (first | exact Drawn0.refl _ | apply Drawn0.step)⟩
def wheel_order.f (k : Nat) (a0_0 : Int) (a0_1 : Int) (a1_0 : Int) (a1_1 : Int) : Option (Int) := (cmp_Compare_int.f a0_0 a1_0).bind fun t106 => ((cmp_Compare_int.f a0_1 a1_1).bind fun t107 => ((cmp_Or_int.f k (([t106, t107] : List Int))).bind fun t111 => (some t111)))
def wheel_order.T1 : Bool × List (List Nat × List Nat) := (true, [([], []), ([0], [0]), ([], []), ([2], [2]), ([1, 3], [1, 3]), ([], []), ([5], [5]), ([], []), ([7], [7]), ([6, 8, 4], [6, 8]), ([4, 9], [4, 9]), ([10, 9], [10]), ([11, 11, 0, 1, 2, 3, 4, 5, 6, 7, 8, 9, 10, 11], [11])])
def wheel_order.B1 : List Nat := [0, 1, 0, 4, 15, 0, 32, 0, 128, 511, 1023, 2047, 4095]
theorem wheel_order.tab1 : rtab .any (opsOf Try.f21 1) = wheel_order.T1 := by kernel_rfl
theorem wheel_order.bits1 : waitsOk wheel_order.T1.2 wheel_order.B1 = true := by kernel_rfl
def IsS52 (w0 W : World) (g : Nat) (f0 : List (S46)) : Prop := ∃ A0 c0, W.heap[g]? = some (.cells #[.slice A0 f0.length c0] 52 (0, 0)) ∧ w0.heap.size ≤ g ∧ Kd.C k46 w0 A0 f0.length f0
theorem IsS52.grown {w0 W : World} {g : Nat} {f0 : List (S46)} {W1 : World} {row : Option Nat} (h : IsS52 w0 W g f0) (hw : W.grownBy W1 row) (hne : some g ≠ row) : IsS52 w0 W1 g f0 := by
  obtain ⟨A0, c0, hb, hg, hr0⟩ := h
  exact ⟨A0, c0, blk_grown hb hw hne, hg, hr0⟩
theorem IsS52.kept {w0 W : World} {g : Nat} {f0 : List (S46)} {W1 : World} {S : Nat → Prop} (h : IsS52 w0 W g f0) (hk : Kept W W1 S) (hne : ¬ S g) : IsS52 w0 W1 g f0 := by
  obtain ⟨A0, c0, hb, hg, hr0⟩ := h
  exact ⟨A0, c0, blk_kept hb hk hne, hg, hr0⟩
theorem IsS52.below {w0 W : World} {g : Nat} {f0 : List (S46)} {W1 : World} (h : IsS52 w0 W g f0) (hw : Below W.heap.size W W1) : IsS52 w0 W1 g f0 := h.grown (grown_of_below hw none) (by simp)
theorem IsS52.alloc {w0 W : World} {g : Nat} {f0 : List (S46)} (h : IsS52 w0 W g f0) (o : Obj) : IsS52 w0 (W.alloc o) g f0 := h.below (below_alloc (Below.refl _ _) o)
theorem IsS52.drewN {w0 W : World} {g : Nat} {f0 : List (S46)} (h : IsS52 w0 W g f0) (m : Nat) : IsS52 w0 (W.drewN m) g f0 := h
theorem IsS52.drew {w0 W : World} {g : Nat} {f0 : List (S46)} (h : IsS52 w0 W g f0) : IsS52 w0 W.drew g f0 := h
theorem IsS52.at_ {w0 W : World} {g : Nat} {f0 : List (S46)} {w' : World} {m : Nat} (hq : W.drewN m = w') (h : IsS52 w0 W g f0) : IsS52 w0 w' g f0 := by subst hq; exact IsS52.drewN h m
theorem IsS52.apart {w0 W : World} {g : Nat} {f0 : List (S46)} {α : Type} {d : Kd α} {e : Nat} {base : Nat} {ok : Nat → Prop} {v : Value} {xs : List α} (h : IsS52 w0 W g f0) (ho : d.R e W base ok v xs) (ht : ∀ q, q ∈ e :: d.E → q ≠ 52) : d.R e W base (fun k => ok k ∧ k ≠ g) v xs := by
  obtain ⟨A0, c0, hb, hg, hr0⟩ := h
  exact Kd.R_types ho hb ht
theorem IsS52.own_ne {w0 W : World} {g : Nat} {f0 : List (S46)} {α : Type} {d : Kd α} {e : Nat} {base : Nat} {ok : Nat → Prop} {v : Value} {xs : List α} (h : IsS52 w0 W g f0) (ho : d.R e W base ok v xs) (ht : e ≠ 52) : some g ≠ v.ownBlock := by
  obtain ⟨A0, c0, hb, hg, hr0⟩ := h
  exact Kd.R_ne ho hb ht
theorem IsS52.lt {w0 W : World} {g : Nat} {f0 : List (S46)} (h : IsS52 w0 W g f0) : g < W.heap.size := by
  obtain ⟨A0, c0, hb, hg, hr0⟩ := h
  exact blk_lt hb
theorem IsS52.ge {w0 W : World} {g : Nat} {f0 : List (S46)} (h : IsS52 w0 W g f0) : w0.heap.size ≤ g := by
  obtain ⟨A0, c0, hb, hg, hr0⟩ := h
  exact hg
theorem IsS52.far {w0 W : World} {g : Nat} {f0 : List (S46)} {p : Addr} (h : IsS52 w0 W g f0) (hne : g ≠ p.block) (u : Value) : IsS52 w0 (W.setCell p u) g f0 := by
  obtain ⟨A0, c0, hb, hg, hr0⟩ := h
  exact ⟨A0, c0, blk_far hb hne u, hg, hr0⟩
end Go.Proofs.Ytpcmleeiaffkeaa.QWhl
namespace Go.Proofs.Ytpcmleeiaffkeaa.QWhl
open Go.RowKit Go.Proofs.YtpcmleeiaffkeaaW.PrintWords Go.Proofs.YtpcmleeiaffkeaaW.PrintLast Go.Proofs.YtpcmleeiaffkeaaW.PrintMore
attribute [local go_sem] max2_int min2_int max_two min_two max_three min_three max_four min_four
set_option linter.unusedVariables false
set_option linter.unusedSimpArgs false
structure BelowD (B : Nat) (w w' : World) : Prop where
  below : Below B w w'
  drawn : w.drawn ≤ w'.drawn
theorem BelowD.refl (B : Nat) (w : World) : BelowD B w w := ⟨Below.refl _ _, Nat.le_refl _⟩
theorem belowD_alloc {w W : World} (h : BelowD w.heap.size w W) (o : Obj) : BelowD w.heap.size w (W.alloc o) := ⟨below_alloc h.below o, h.drawn⟩
theorem belowD_drewN {B : Nat} {w W : World} (h : BelowD B w W) (n : Nat) : BelowD B w (W.drewN n) := ⟨pw_below_drewN h.below n, Nat.le_trans h.drawn (Nat.le_add_right _ _)⟩
theorem belowD_drew1 {B : Nat} {w W : World} (h : BelowD B w W) : BelowD B w W.drew := ⟨below_drew1 h.below, Nat.le_trans h.drawn (Nat.le_add_right _ _)⟩
theorem belowD_set {w W : World} {g j : Nat} {v : Value} (h : BelowD w.heap.size w W) (hg : w.heap.size ≤ g) : BelowD w.heap.size w (W.setCell ⟨g, j, none⟩ v) := ⟨below_set h.below hg, by rw [World.drawn_setCell]; exact h.drawn⟩
theorem belowD_size {w W : World} (h : BelowD w.heap.size w W) : w.heap.size ≤ W.heap.size := h.below.size
theorem belowD_step {w W w2 : World} (h : BelowD w.heap.size w W) (k : BelowD W.heap.size W w2) : BelowD w.heap.size w w2 := ⟨below_step h.below k.below, Nat.le_trans h.drawn k.drawn⟩
theorem blk_belowD {w w1 : World} {g : Nat} {o : Obj} (h : w.heap[g]? = some o) (hb : BelowD w.heap.size w w1) : w1.heap[g]? = some o := blk_below h hb.below
section
variable {P : Program} {ops : Array Oper} {rest : List Oper} {o : Oper} {a : Act} {Q : Exit → Act → World → Prop} {Kc : Act → World → Prop}
theorem box_eventD {W : World} (hgd : o.guard = none) {N : Tmp} (_hd : o.dst = some N) {cs : Array Value} {t : TypeId}
    (hrun : (execOp a.eval o).run P W = .ok (.value (.pointer (some ⟨W.heap.size, 0, none⟩))) (W.alloc (.cells cs t (0, 0))))
    (h : ∀ g, g = W.heap.size → ∀ w1, w1.heap[g]? = some (.cells cs t (0, 0)) → BelowD W.heap.size W w1 → wpList P ops Q rest (a.put o.dst (.pointer (some ⟨g, 0, none⟩))) w1) : wpList P ops Q (o :: rest) a W :=
  Kd.event_run hgd hrun (h _ rfl _ (blk_new W _) (belowD_alloc (BelowD.refl _ _) _))
theorem Kd.R_lit_stepD {α : Type} (d : Kd α) {w0 W : World} (base e : Nat) (hw : Region.wanted o (yielded ops a.tmps) = true) {N : Tmp} (_hd : o.dst = some N) {xs : List α} {inner : List Value} {ok okp : Nat → Prop}
    (hrun : (execOp a.eval o).run P W = .ok (.value (.slice (some ⟨W.heap.size, 0, none⟩) xs.length xs.length)) (W.alloc (.cells inner.toArray e)))
    (hrep : Reps (d.M W base okp) d.sz xs inner) (hok : ∀ k, okp k → ok k) (hfresh : ok W.heap.size) (HB : BelowD base w0 W) (hbase : base ≤ W.heap.size) (hm : xs.length ≤ 9223372036854775807)
    (h : ∀ v1 w1, d.R e w1 base ok v1 xs → BelowD base w0 w1 → W.grownBy w1 none → (∃ b, v1.ownBlock = some b ∧ W.heap.size ≤ b) → Kc (a.put o.dst v1) w1) : if Region.wanted o (yielded ops a.tmps) = true then Oper.wp P o a W Kc Q else Kc (a.put o.dst undef) W := by
  refine event_step hw hrun (h _ _ ⟨fun k hk => ?_, inner, ?_, ?_⟩ ⟨HB.below.alloc hbase _, HB.drawn⟩ (World.grownBy_alloc W _ none) ⟨W.heap.size, by simp [Value.ownBlock], Nat.le_refl _⟩)
  · have : W.heap.size = k := by simpa [Value.ownBlock] using hk
    subst this
    exact hfresh
  · have h2 := World.ownsRow_lit (base := base) (e := e) (size := d.sz) W inner.toArray xs.length hbase (by simpa [maxLen] using hm) (by simpa using hrep.1)
    simpa using h2
  · refine hrep.imp_ (fun p c hp => d.M_mono (fun k hk => ⟨hok k hk.1, fun he => ?_⟩) (Kd.M_below (d.M_bound hp) (below_alloc (Below.refl _ _) _)))
    have h3 : k = W.heap.size := by simpa [Value.ownBlock] using he
    have := hk.2.2.1
    omega
end
theorem BelowD.grow {w w' : World} (h : BelowD w.heap.size w w') : ∃ q os', w' = Go.Sort.grow (w.drewN q) os' := by
  refine ⟨w'.drawn - w.drawn, w'.heap.extract w.heap.size w'.heap.size, ?_⟩
  have hd := h.drawn
  obtain ⟨heap', tape', drawn', os', output'⟩ := w'
  have e1 : os' = w.os := h.below.os
  have e2 : tape' = w.tape := h.below.tape
  have e3 : output' = w.output := h.below.output
  have hs : w.heap.size ≤ heap'.size := h.below.size
  have hb : ∀ k, k < w.heap.size → heap'[k]? = w.heap[k]? := h.below.block
  subst e1 e2 e3
  have eh : heap' = w.heap ++ heap'.extract w.heap.size heap'.size := by
    apply Array.ext_getElem?
    intro k
    by_cases hk : k < w.heap.size
    · rw [Array.getElem?_append_left hk]; exact hb k hk
    · rw [Array.getElem?_append_right (by omega), Array.getElem?_extract]
      by_cases hk2 : k < heap'.size
      · rw [if_pos (by omega)]; congr 1; omega
      · rw [if_neg (by omega), Array.getElem?_eq_none (by omega)]
  have ed : drawn' = w.drawn + (drawn' - w.drawn) := by simp only at hd; omega
  simp only [Go.Sort.grow, World.drewN]
  congr 1
set_option maxHeartbeats 8000000 in
set_option maxRecDepth 100000 in
theorem wheel_order.callsD (k : Nat) (a0_0 : Int) (a0_1 : Int) (a1_0 : Int) (a1_1 : Int) (r : Int) (w : World) (h : wheel_order.f k a0_0 a0_1 a1_0 a1_1 = some r) :
    Calls Try.prog 21 #[.agg #[.int .i64 a0_0, .int .i64 a0_1], .agg #[.int .i64 a1_0, .int .i64 a1_1]] w fun e w' => e = .returned (.int .i64 r) ∧ BelowD w.heap.size w w' := by
  have hu46 := Try.underlying46
  have HB := Aside0.mk (BelowD.refl w.heap.size w)
  have H : ((cmp_Compare_int.f a0_0 a1_0).bind fun t106 => ((cmp_Compare_int.f a0_1 a1_1).bind fun t107 => ((cmp_Or_int.f k (([t106, t107] : List Int))).bind fun t111 => (some t111)))) = some r := h
  clear h
  replace H := Option.bind_eq_some_iff.mp H
  obtain ⟨t106, A30, H⟩ := H
  replace H : ((cmp_Compare_int.f a0_1 a1_1).bind fun t107 => ((cmp_Or_int.f k (([t106, t107] : List Int))).bind fun t111 => (some t111))) = some r := H
  have A3 := Aside0.mk A30
  clear A30
  replace H := Option.bind_eq_some_iff.mp H
  obtain ⟨t107, A40, H⟩ := H
  replace H : ((cmp_Or_int.f k (([t106, t107] : List Int))).bind fun t111 => (some t111)) = some r := H
  have A4 := Aside0.mk A40
  clear A40
  obtain ⟨y108, hy108⟩ : ∃ y_ : List Int, y_ = (([t106, t107] : List Int)) := ⟨_, rfl⟩
  replace H : ((cmp_Or_int.f k y108).bind fun t111 => (some t111)) = some r := by first | (rw [hy108]; with_reducible exact H) | (have H2_ := (Option.bind_some _ _).symm.trans H; rw [hy108]; with_reducible exact H2_) | (have H2_ := (Option.bind_some _ _).symm.trans H; with_reducible exact H2_) | with_reducible exact H | (rw [hy108]; exact H) | exact H
  have Ny108 := Aside0.mk hy108
  clear hy108
  replace H := Option.bind_eq_some_iff.mp H
  obtain ⟨t111, A50, H⟩ := H
  replace H : (some t111) = some r := H
  have A5 := Aside0.mk A50
  clear A50
  obtain rfl := Option.some.inj H
  go_enter Try.func21, Try.ntmps21
  try go_wp2_with (first | ((with_reducible refine gate_dst (N := 2) rfl ?_); refine box_eventD ?hg (N := 2) ?hd (cs := #[.int .i64 a0_0, .int .i64 a0_1]) (t := 46) ?hr ?_; (case hd => rfl); (case hg => rfl); (case hr => first | (go_simp; done) | (go_simp; rfl)); intro gb104 hg w6 hbox hb; have n0_ := Aside0.mk (belowD_step (by repeat (first | (with_reducible first | exact HB.out | apply belowD_alloc | apply belowD_drewN | apply belowD_drew1) | exact HB.out)) hb); have n1_ := Aside0.mk (hbox); have n2_ := Aside0.mk ((by rw [hg]; exact (belowD_size (by repeat (first | (with_reducible first | exact HB.out | apply belowD_alloc | apply belowD_drewN | apply belowD_drew1) | exact HB.out))) : w.heap.size ≤ gb104)); have n3_ := Aside0.mk ((by rw [hg]; exact (belowD_size (by repeat (first | (with_reducible first | exact HB.out | apply belowD_alloc | apply belowD_drewN | apply belowD_drew1) | exact HB.out))) : w.heap.size ≤ gb104)); clear HB; have HB := n0_; have BK104 := n1_; have GW104 := n2_; have GE104 := n3_; clear n0_ n1_ n2_ n3_; clear hb hbox hg) | ((with_reducible refine gate_dst (N := 3) rfl ?_); refine box_eventD ?hg (N := 3) ?hd (cs := #[.int .i64 a1_0, .int .i64 a1_1]) (t := 46) ?hr ?_; (case hd => rfl); (case hg => rfl); (case hr => first | (go_simp; done) | (go_simp; rfl)); intro gb105 hg w7 hbox hb; have n0_ := Aside0.mk (blk_belowD (g := gb104) (o := .cells #[.int .i64 a0_0, .int .i64 a0_1] 46 (0, 0)) (by (with_reducible repeat (first | refine blk_drewN ?_ _ | refine blk_drew ?_ | refine blk_alloc ?_ _)); exact BK104.out) hb); have n1_ := Aside0.mk (belowD_step (by repeat (first | (with_reducible first | exact HB.out | apply belowD_alloc | apply belowD_drewN | apply belowD_drew1 | refine belowD_set ?_ GE104.out) | exact HB.out)) hb); have n2_ := Aside0.mk (hbox); have n3_ := Aside0.mk ((by rw [hg]; exact (belowD_size (by repeat (first | (with_reducible first | exact HB.out | apply belowD_alloc | apply belowD_drewN | apply belowD_drew1 | refine belowD_set ?_ GE104.out) | exact HB.out))) : w.heap.size ≤ gb105)); have n4_ := Aside0.mk ((by rw [hg]; exact (belowD_size (by repeat (first | (with_reducible first | exact HB.out | apply belowD_alloc | apply belowD_drewN | apply belowD_drew1 | refine belowD_set ?_ GE104.out) | exact HB.out))) : w.heap.size ≤ gb105)); have n5_ := Aside0.mk ((by rw [hg]; exact Nat.ne_of_lt (blk_lt (g := gb104) (o := .cells #[.int .i64 a0_0, .int .i64 a0_1] 46 (0, 0)) (by (with_reducible repeat (first | refine blk_drewN ?_ _ | refine blk_drew ?_ | refine blk_alloc ?_ _)); exact BK104.out)) : gb104 ≠ gb105)); have n6_ := Aside0.mk ((by rw [hg]; exact Nat.ne_of_gt (blk_lt (g := gb104) (o := .cells #[.int .i64 a0_0, .int .i64 a0_1] 46 (0, 0)) (by (with_reducible repeat (first | refine blk_drewN ?_ _ | refine blk_drew ?_ | refine blk_alloc ?_ _)); exact BK104.out)) : gb105 ≠ gb104)); clear BK104; clear HB; have BK104 := n0_; have HB := n1_; have BK105 := n2_; have GW105 := n3_; have GE105 := n4_; have NB104_105 := n5_; have NB105_104 := n6_; clear n0_ n1_ n2_ n3_ n4_ n5_ n6_; clear hb hbox hg))
  have n0_ := Aside0.mk (blk_drew BK104.out)
  have n1_ := Aside0.mk (blk_drew BK105.out)
  have n2_ := Aside0.mk (belowD_drew1 HB.out)
  clear BK104
  clear BK105
  clear HB
  have BK104 := n0_
  have BK105 := n1_
  have HB := n2_
  clear n0_ n1_ n2_
  refine start_ (n := 13) (S := fun w' => w'.cell? ⟨gb104, 0, none⟩ = some (.int .i64 a0_0) ∧ w'.cell? ⟨gb104, 1, none⟩ = some (.int .i64 a0_1) ∧ w'.cell? ⟨gb105, 0, none⟩ = some (.int .i64 a1_0) ∧ w'.cell? ⟨gb105, 1, none⟩ = some (.int .i64 a1_1)) (ds := []) #[false, false, false, false, false, false, false, false, false, false, false, false, false] (by kernel_rfl) rfl rfl ⟨(blk_cell BK104.out 0).trans rfl, (blk_cell BK104.out 1).trans rfl, (blk_cell BK105.out 0).trans rfl, (blk_cell BK105.out 1).trans rfl⟩ (fun hHeld => ?_); refine with_tabW wheel_order.tab1 wheel_order.bits1 (fun HT_ HW_ => ?_)
  generalize w7.drew = w8 at BK104 BK105 HB hHeld ⊢
  refine pure_ (i := 0) (N := some 5) (v := ?_) (a' := ?_) #[true, false, false, false, false, false, false, false, false, false, false, false, false] rfl rfl (any_of HT_.out (by kernel_rfl)) (fun _ _ _ h => h) (Or.inl ⟨by rfl, ?_⟩) ?_ ?_
  rotate_left
  · intro w'
    go_simp
    with_reducible rfl
  rotate_left
  · simp only [Act.put, List.setIfInBounds_toArray, List.set_cons_zero, List.set_cons_succ, i64_w, i32_w]
    rfl
  refine pure_ (i := 2) (N := some 7) (v := ?_) (a' := ?_) #[true, false, true, false, false, false, false, false, false, false, false, false, false] rfl rfl (any_of HT_.out (by kernel_rfl)) (fun _ _ _ h => h) (Or.inl ⟨by rfl, ?_⟩) ?_ ?_
  rotate_left
  · intro w'
    go_simp
    with_reducible rfl
  rotate_left
  · simp only [Act.put, List.setIfInBounds_toArray, List.set_cons_zero, List.set_cons_succ, i64_w, i32_w]
    rfl
  refine pure_ (i := 5) (N := some 10) (v := ?_) (a' := ?_) #[true, false, true, false, false, true, false, false, false, false, false, false, false] rfl rfl (any_of HT_.out (by kernel_rfl)) (fun _ _ _ h => h) (Or.inl ⟨by rfl, ?_⟩) ?_ ?_
  rotate_left
  · intro w'
    go_simp
    with_reducible rfl
  rotate_left
  · simp only [Act.put, List.setIfInBounds_toArray, List.set_cons_zero, List.set_cons_succ, i64_w, i32_w]
    rfl
  refine pure_ (i := 7) (N := some 12) (v := ?_) (a' := ?_) #[true, false, true, false, false, true, false, true, false, false, false, false, false] rfl rfl (any_of HT_.out (by kernel_rfl)) (fun _ _ _ h => h) (Or.inl ⟨by rfl, ?_⟩) ?_ ?_
  rotate_left
  · intro w'
    go_simp
    with_reducible rfl
  rotate_left
  · simp only [Act.put, List.setIfInBounds_toArray, List.set_cons_zero, List.set_cons_succ, i64_w, i32_w]
    rfl
  refine take_ (i := 1) (N := some 6) (v := ?_) (a' := ?_) #[true, true, true, false, false, true, false, true, false, false, false, false, false] rfl rfl (take_ofW HT_.out HW_.out (by kernel_rfl)) (fun _ _ _ h => h) (Or.inl ⟨by rfl, ?_⟩) hHeld ?_ ?_
  rotate_left
  · rintro w' ⟨s0, s1, s2, s3⟩
    go_simp
    with_reducible rfl
  rotate_left
  · simp only [Act.put, List.setIfInBounds_toArray, List.set_cons_zero, List.set_cons_succ, i64_w, i32_w]
    rfl
  refine take_ (i := 3) (N := some 8) (v := ?_) (a' := ?_) #[true, true, true, true, false, true, false, true, false, false, false, false, false] rfl rfl (take_ofW HT_.out HW_.out (by kernel_rfl)) (fun _ _ _ h => h) (Or.inl ⟨by rfl, ?_⟩) hHeld ?_ ?_
  rotate_left
  · rintro w' ⟨s0, s1, s2, s3⟩
    go_simp
    with_reducible rfl
  rotate_left
  · simp only [Act.put, List.setIfInBounds_toArray, List.set_cons_zero, List.set_cons_succ, i64_w, i32_w]
    rfl
  refine take_ (i := 6) (N := some 11) (v := ?_) (a' := ?_) #[true, true, true, true, false, true, true, true, false, false, false, false, false] rfl rfl (take_ofW HT_.out HW_.out (by kernel_rfl)) (fun _ _ _ h => h) (Or.inl ⟨by rfl, ?_⟩) hHeld ?_ ?_
  rotate_left
  · rintro w' ⟨s0, s1, s2, s3⟩
    go_simp
    with_reducible rfl
  rotate_left
  · simp only [Act.put, List.setIfInBounds_toArray, List.set_cons_zero, List.set_cons_succ, i64_w, i32_w]
    rfl
  refine take_ (i := 8) (N := some 13) (v := ?_) (a' := ?_) #[true, true, true, true, false, true, true, true, true, false, false, false, false] rfl rfl (take_ofW HT_.out HW_.out (by kernel_rfl)) (fun _ _ _ h => h) (Or.inl ⟨by rfl, ?_⟩) hHeld ?_ ?_
  rotate_left
  · rintro w' ⟨s0, s1, s2, s3⟩
    go_simp
    with_reducible rfl
  rotate_left
  · simp only [Act.put, List.setIfInBounds_toArray, List.set_cons_zero, List.set_cons_succ, i64_w, i32_w]
    rfl
  refine one_ (i := 4) (N := some 9) #[true, true, true, true, true, true, true, true, true, false, false, false, false] rfl rfl (one_of HT_.out (by kernel_rfl)) (by decide) (fun K hK => ?_)
  refine goes_ Try.func29 (by kernel_rfl) rfl #[.int .i64 a0_0, .int .i64 a1_0] (by rfl) rfl rfl (by (try simp only [List.map_toArray, List.map_cons, List.map_nil]); first | done | rfl | (simp only [List.length_drop, List.length_take]; rfl)) ?_
  with_reducible refine (cmp_Compare_int.calls a0_0 a1_0 t106 _ A3.out).mono ?_
  rintro e w' ⟨rfl, ⟨nd, rfl⟩⟩
  refine ⟨_, rfl, ?_⟩
  refine hK.out _ _ ⟨(blk_cell BK104.out 0).trans rfl, (blk_cell BK104.out 1).trans rfl, (blk_cell BK105.out 0).trans rfl, (blk_cell BK105.out 1).trans rfl⟩ (fun hHeld => ?_)
  clear hK K
  refine norm_ (a' := ?_) ?_ ?_
  rotate_left
  · show Act.put _ (some 9) _ = _
    simp only [Act.put, List.setIfInBounds_toArray, List.set_cons_zero, List.set_cons_succ, i64_w, i32_w]
    rfl
  refine one_ (i := 9) (N := some 14) #[true, true, true, true, true, true, true, true, true, true, false, false, false] rfl rfl (one_of HT_.out (by kernel_rfl)) (by decide) (fun K hK => ?_)
  refine goes_ Try.func29 (by kernel_rfl) rfl #[.int .i64 a0_1, .int .i64 a1_1] (by rfl) rfl rfl (by (try simp only [List.map_toArray, List.map_cons, List.map_nil]); first | done | rfl | (simp only [List.length_drop, List.length_take]; rfl)) ?_
  with_reducible refine (cmp_Compare_int.calls a0_1 a1_1 t107 _ A4.out).mono ?_
  rintro e w' ⟨rfl, ⟨nd, rfl⟩⟩
  refine ⟨_, rfl, ?_⟩
  refine hK.out _ _ ⟨(blk_cell BK104.out 0).trans rfl, (blk_cell BK104.out 1).trans rfl, (blk_cell BK105.out 0).trans rfl, (blk_cell BK105.out 1).trans rfl⟩ (fun hHeld => ?_)
  clear hK K
  refine norm_ (a' := ?_) ?_ ?_
  rotate_left
  · show Act.put _ (some 14) _ = _
    simp only [Act.put, List.setIfInBounds_toArray, List.set_cons_zero, List.set_cons_succ, i64_w, i32_w]
    rfl
  refine one_ (i := 10) (N := some 15) #[true, true, true, true, true, true, true, true, true, true, true, false, false] rfl rfl (one_of HT_.out (by kernel_rfl)) (by decide) (fun K hK => ?_)
  refine Kd.R_lit_stepD (Kd.int .i64) _ 3 ?hg (N := 15) ?hd (xs := ([t106, t107] : List Int)) (inner := [.int .i64 t106, .int .i64 t107]) (ok := fun _ => True) (okp := fun _ => True) ?hr ?hp (fun _ hk => hk) trivial (BelowD.refl _ _) (Nat.le_refl _) (by simp) ?_; (case hd => rfl); (case hg => rfl); (case hr => first | (go_simp; done) | (go_simp; rfl)); (case hp => exact (Reps.one (show Kd.M (Kd.int .i64) _ _ _ t106 [.int .i64 t106] from rfl) (Reps.one (show Kd.M (Kd.int .i64) _ _ _ t107 [.int .i64 t107] from rfl) (Reps.none _ _))))
  intro v109 w9 ho10 hb hg_ hnew_
  clear hg_ hnew_
  (first | rw [← Ny108.out] at ho10 | (simp only [Int.reduceToNat] at ho10; rw [← Ny108.out] at ho10))
  have n0_ := Aside0.mk (Kd.R_lower ho10 (belowD_size (by repeat (first | (with_reducible first | exact HB.out | apply belowD_alloc | apply belowD_drewN | apply belowD_drew1 | refine belowD_set ?_ GE104.out | refine belowD_set ?_ GE105.out) | exact HB.out))))
  have n1_ := Aside0.mk (blk_belowD (g := gb104) (o := .cells #[.int .i64 a0_0, .int .i64 a0_1] 46 (0, 0)) (by (with_reducible repeat (first | refine blk_drewN ?_ _ | refine blk_drew ?_ | refine blk_alloc ?_ _)); exact BK104.out) hb)
  have n2_ := Aside0.mk (blk_belowD (g := gb105) (o := .cells #[.int .i64 a1_0, .int .i64 a1_1] 46 (0, 0)) (by (with_reducible repeat (first | refine blk_drewN ?_ _ | refine blk_drew ?_ | refine blk_alloc ?_ _)); exact BK105.out) hb)
  have n3_ := Aside0.mk (belowD_step (by repeat (first | (with_reducible first | exact HB.out | apply belowD_alloc | apply belowD_drewN | apply belowD_drew1 | refine belowD_set ?_ GE104.out | refine belowD_set ?_ GE105.out) | exact HB.out)) hb)
  clear BK104
  clear BK105
  clear HB
  have HO110 := n0_
  have BK104 := n1_
  have BK105 := n2_
  have HB := n3_
  clear n0_ n1_ n2_ n3_
  clear hb ho10
  obtain ⟨Ao11, co11, eo11⟩ := Kd.R_slice HO110.out
  (first | subst eo11 | (injection eo11 with f1_ f2_ f3_; have f4_ := f1_.symm; have f5_ := f3_.symm; clear f1_ f2_ f3_; subst f4_; subst f5_))
  refine hK.out _ _ ⟨(blk_cell BK104.out 0).trans rfl, (blk_cell BK104.out 1).trans rfl, (blk_cell BK105.out 0).trans rfl, (blk_cell BK105.out 1).trans rfl⟩ (fun hHeld => ?_)
  clear hK K
  refine norm_ (a' := ?_) ?_ ?_
  rotate_left
  · show Act.put _ (some 15) _ = _
    simp only [Act.put, List.setIfInBounds_toArray, List.set_cons_zero, List.set_cons_succ, i64_w, i32_w]
    rfl
  refine one_ (i := 11) (N := some 16) #[true, true, true, true, true, true, true, true, true, true, true, true, false] rfl rfl (one_of HT_.out (by kernel_rfl)) (by decide) (fun K hK => ?_)
  refine goes_ Try.func28 (by kernel_rfl) rfl #[.slice Ao11 y108.length co11] (by rfl) rfl rfl (by (try simp only [List.map_toArray, List.map_cons, List.map_nil]); first | done | rfl | (simp only [List.length_drop, List.length_take]; rfl)) ?_
  with_reducible refine (cmp_Or_int.calls k _ _ y108 t111 _ ?side1 ?side2 A5.out).mono ?_
  (case side1 => repeat (first | exact (Kd.R_reads' HO110.out).2.2 | (with_reducible refine Kd.C_alloc ?_ _) | (with_reducible refine Kd.C_drewN ?_ _) | (with_reducible refine Kd.C_drew ?_)))
  (case side2 => exact (Kd.R_reads' HO110.out).2.1)
  rintro e w' ⟨rfl, ⟨nd, rfl⟩⟩
  refine ⟨_, rfl, ?_⟩
  refine hK.out _ _ ⟨(blk_cell BK104.out 0).trans rfl, (blk_cell BK104.out 1).trans rfl, (blk_cell BK105.out 0).trans rfl, (blk_cell BK105.out 1).trans rfl⟩ (fun hHeld => ?_)
  clear hK K
  refine norm_ (a' := ?_) ?_ ?_
  rotate_left
  · show Act.put _ (some 16) _ = _
    simp only [Act.put, List.setIfInBounds_toArray, List.set_cons_zero, List.set_cons_succ, i64_w, i32_w]
    rfl
  refine pure_ (i := 12) (N := some 4) (v := ?_) (a' := ?_) #[true, true, true, true, true, true, true, true, true, true, true, true, true] rfl rfl (any_of HT_.out (by kernel_rfl)) (fun _ _ _ h => h) (Or.inl ⟨by rfl, ?_⟩) ?_ ?_
  rotate_left
  · intro w'
    go_simp
    with_reducible rfl
  rotate_left
  · simp only [Act.put, List.setIfInBounds_toArray, List.set_cons_zero, List.set_cons_succ, i64_w, i32_w]
    rfl
  refine done_ (done_of HT_.out (by kernel_rfl)) ?_
  try go_wp2
  go_ret
  exact ⟨by first | rfl | (simp [errW_none, errW_some] <;> rfl) | (simp [*, errW_none, errW_some] <;> rfl), by repeat (first | (with_reducible first | exact HB.out | apply belowD_alloc | apply belowD_drewN | apply belowD_drew1 | refine belowD_set ?_ GE104.out | refine belowD_set ?_ GE105.out) | exact HB.out)⟩
end Go.Proofs.Ytpcmleeiaffkeaa.QWhl
namespace Go.Proofs.Ytpcmleeiaffkeaa.QWhl
open Go.RowKit Go.Proofs.YtpcmleeiaffkeaaW.PrintWords Go.Proofs.YtpcmleeiaffkeaaW.PrintLast Go.Proofs.YtpcmleeiaffkeaaW.PrintMore
open Go.Sort (grow)
set_option linter.unusedVariables false
set_option linter.unusedSimpArgs false
def cmpi (a b : Int) : Int := if a < b then -1 else if a > b then 1 else 0
def cf (x y : S46) : Int := if cmpi x.f0 y.f0 = 0 then cmpi x.f1 y.f1 else cmpi x.f0 y.f0
def lx (x y : S46) : Prop := x.f0 < y.f0 ∨ x.f0 = y.f0 ∧ x.f1 < y.f1
instance (x y : S46) : Decidable (lx x y) := by unfold lx; infer_instance
theorem cmpi_eq (a b : Int) : cmpi a b = 0 ↔ a = b := by unfold cmpi; split <;> (try split) <;> omega
theorem cmpi_lt (a b : Int) : cmpi a b < 0 ↔ a < b := by unfold cmpi; split <;> (try split) <;> omega
theorem cf_lt (x y : S46) : cf x y < 0 ↔ lx x y := by
  unfold cf lx
  by_cases h0 : cmpi x.f0 y.f0 = 0
  · have e0 := (cmpi_eq _ _).1 h0
    rw [if_pos h0, cmpi_lt]; omega
  · have e0 := mt (cmpi_eq _ _).2 h0
    rw [if_neg h0, cmpi_lt]; omega
theorem lx_trans {x y z : S46} (h1 : lx x y) (h2 : lx y z) : lx x z := by unfold lx at *; omega
theorem not_lx {x y : S46} (h : ¬ lx x y) (k : ¬ lx y x) : x = y := by unfold lx at h k; apply S46.ext' <;> omega
theorem cmp_ev (x y : S46) : wheel_order.f 4 x.f0 x.f1 y.f0 y.f1 = some (cf x y) := by
  have hc : ∀ a b, cmp_Compare_int.f a b = some (cmpi a b) := fun a b => by
    unfold cmp_Compare_int.f cmp_isNaN_int.f cmpi; simp; split <;> (try split) <;> rfl
  simp only [wheel_order.f, hc, Option.bind_some]
  unfold cf
  have e0 : rd [cmpi x.f0 y.f0, cmpi x.f1 y.f1] 0 = cmpi x.f0 y.f0 := rfl
  have e1 : rd [cmpi x.f0 y.f0, cmpi x.f1 y.f1] 1 = cmpi x.f1 y.f1 := rfl
  have w1 : wrap64 (0 + 1) = 1 := by decide +kernel
  have w2 : wrap64 (1 + 1) = 2 := by decide +kernel
  simp only [cmp_Or_int.f, cmp_Or_int.l0, List.length_cons, List.length_nil, e0, e1, w1, w2]
  by_cases h0 : cmpi x.f0 y.f0 = 0
  · by_cases h1 : cmpi x.f1 y.f1 = 0 <;> simp [h0, h1]
  · simp [h0]
theorem below_grown (W : World) (n : Nat) (os : Array Obj) : Below W.heap.size W (grow (W.drewN n) os) := by
  refine ⟨rfl, rfl, rfl, by simp [grow], fun k hk => ?_⟩
  show (W.heap ++ os)[k]? = _
  rw [Array.getElem?_append_left hk]
theorem order_grown (x y : S46) (W : World) (n : Nat) (os : Array Obj) : Calls Try.prog 21 #[.agg #[.int .i64 x.f0, .int .i64 x.f1], .agg #[.int .i64 y.f0, .int .i64 y.f1]] (grow (W.drewN n) os) fun e w' => e = .returned (.int .i64 (cf x y)) ∧ ∃ q os'', w' = grow ((grow (W.drewN n) os).drewN q) os'' := by
  refine (wheel_order.callsD 4 x.f0 x.f1 y.f0 y.f1 (cf x y) _ (cmp_ev x y)).mono ?_
  rintro e w' ⟨rfl, hB⟩
  exact ⟨rfl, hB.grow⟩
def pos (l : List S46) (t : S46) : Nat := l.countP fun x => decide (lx x t)
set_option maxHeartbeats 4000000 in
set_option maxRecDepth 100000 in
theorem search_calls (A : Option Addr) (c : Nat) (l : List S46) (t : S46) (w : World) (hr : Kd.C k46 w A l.length l) (hsz : l.length < 4611686018427387904) (hs : l.Pairwise lx) :
    Calls Try.prog 20 #[.slice A l.length c, .agg #[.int .i64 t.f0, .int .i64 t.f1], .func (.func 21) #[] #[]] w fun e w' => ∃ b, e = .returned (.tuple #[.int .i64 (pos l t : Nat), .bool b]) ∧ Below w.heap.size w w' := by
  have mixed : Try.prog.follows .mixedOrders = true := by kernel_rfl
  have eg : ∀ args w, (callFunc 21 args).run Try.prog w = .ok (.enter 21 args) w := enters_of Try.func21 (by kernel_rfl) rfl
  have HR := Aside0.mk hr
  have mono : ∀ a b, (hb : b < l.length) → (hab : a ≤ b) → lx l[b] t → lx (l[a]'(by omega)) t := fun a b hb hab h => by
    rcases Nat.lt_or_ge a b with h1 | h1
    · exact lx_trans (List.pairwise_iff_getElem.1 hs a b (by omega) hb h1) h
    · obtain rfl : a = b := by omega
      exact h
  have MONO := Aside0.mk mono
  clear hr mono
  go_enter Try.func20, Try.ntmps20
  go_wp2_with ((with_reducible refine gate_dst (N := 4) rfl ?_); refine box_event ?hg (N := 4) ?hd (cs := #[.int .i64 t.f0, .int .i64 t.f1]) (t := 46) ?hr ?_; (case hd => rfl); (case hg => rfl); (case hr => first | (go_simp; done) | (go_simp; rfl)); intro tb hg w1 hbox hb; have HB := Aside0.mk hb; have BX := Aside0.mk hbox; clear hb hbox hg)
  go_loopg [9, 10] l.length (fun kx s9 s10 wr => ∃ lo hi : Nat, s9 = .int .i64 lo ∧ s10 = .int .i64 hi ∧ lo ≤ hi ∧ hi ≤ l.length ∧ hi - lo ≤ kx ∧ Aside0 (Below w.heap.size w wr) ∧ Aside0 (wr.heap[tb]? = some (.cells #[.int .i64 t.f0, .int .i64 t.f1] 46 (0, 0))) ∧
    Aside0 ((∀ q, (hq : q < l.length) → q < lo → lx l[q] t) ∧ (∀ q, (hq : q < l.length) → hi ≤ q → ¬ lx l[q] t)))
  case atStart => exact ⟨0, l.length, rfl, rfl, Nat.zero_le _, Nat.le_refl _, by omega, HB, BX, ⟨fun q hq h => absurd h (Nat.not_lt_zero _), fun q hq h => by omega⟩⟩
  case round =>
    clear HB BX
    obtain ⟨lo, hi, rfl, rfl, hlh, hin, hgm, HB, BX, II⟩ := hrel
    by_cases hlt : lo < hi
    · have hm : (lo + hi) / 2 < l.length := by omega
      obtain ⟨ad, e, hx0, hx1⟩ := at_T46 (Kd.C_below HR.out HB.out) (((lo + hi) / 2 : Nat) : Int) (by omega) (by omega)
      rw [rd46 hm, Int.toNat_natCast] at hx0 hx1
      subst e
      have cg0 : ∀ n os, (grow (wr.drewN n) os).cell? _ = some _ := cell_grown (World.block_lt_of_cell? wr _ hx0) hx0
      have cg1 : ∀ n os, (grow (wr.drewN n) os).cell? _ = some _ := cell_grown (World.block_lt_of_cell? wr _ hx1) hx1
      have ct0 : ∀ n os, (grow (wr.drewN n) os).cell? ⟨tb, 0, none⟩ = some (.int .i64 t.f0) := cell_grown (blk_lt BX.out) ((blk_cell BX.out 0).trans rfl)
      have ct1 : ∀ n os, (grow (wr.drewN n) os).cell? ⟨tb, 1, none⟩ = some (.int .i64 t.f1) := cell_grown (blk_lt BX.out) ((blk_cell BX.out 1).trans rfl)
      clear hx0 hx1
      have p0 : (0 : Int) ≤ ((lo : Int) + (hi : Int)) / 2 := by omega
      have q0 : ((lo : Int) + (hi : Int)) / 2 < (l.length : Int) := by omega
      have tn : (((lo : Int) + (hi : Int)) / 2).toNat = (lo + hi) / 2 := by omega
      have hcg := fun n os => order_grown l[(lo + hi) / 2] t wr n os
      by_cases hyx : cf l[(lo + hi) / 2] t < 0
      · go_wp2_with fail
        go_quiet_grown (first | (go_at_fn 21; refine Calls.grown_of (hcg _ _)))
        go_wp2
        go_roundg (hi - ((lo + hi) / 2 + 1))
        case measure => omega
        case rel =>
          exact ⟨(lo + hi) / 2 + 1, hi, by rw [show ((lo : Int) + (hi : Int)) / 2 + 1 = (((lo + hi) / 2 + 1 : Nat) : Int) by omega], rfl, by omega, hin, Nat.le_refl _, ⟨below_step HB.out (below_grown wr nq osq)⟩, ⟨blk_below BX.out (below_grown wr nq osq)⟩,
            ⟨fun q hq h => MONO.out q ((lo + hi) / 2) hm (by omega) ((cf_lt _ _).1 hyx), II.out.2⟩⟩
      · go_wp2_with fail
        go_quiet_grown (first | (go_at_fn 21; refine Calls.grown_of (hcg _ _)))
        go_wp2
        go_roundg ((lo + hi) / 2 - lo)
        case measure => omega
        case rel =>
          exact ⟨lo, (lo + hi) / 2, rfl, by rw [show ((lo : Int) + (hi : Int)) / 2 = (((lo + hi) / 2 : Nat) : Int) by omega], by omega, by omega, Nat.le_refl _, ⟨below_step HB.out (below_grown wr nq osq)⟩, ⟨blk_below BX.out (below_grown wr nq osq)⟩,
            ⟨II.out.1, fun q hq h hx => by have h9 := (cf_lt _ _).2 (MONO.out ((lo + hi) / 2) q hq h hx); omega⟩⟩
    · obtain rfl : hi = lo := by omega
      have hget : ∀ q, (hq : q < l.length) → l[q]! = l[q] := fun q hq => getElem!_pos l q hq
      have ecnt : pos l t = hi := by
        unfold pos
        refine Lib.countP_boundary _ l hi hin (fun q hq => ?_) (fun q h3 h4 => ?_)
        · rw [hget q (by omega)]; exact decide_eq_true (II.out.1 q (by omega) hq)
        · rw [hget q h4]; exact decide_eq_false (II.out.2 q h4 h3)
      by_cases hn : hi < l.length
      · obtain ⟨ad, e, hx0, hx1⟩ := at_T46 (Kd.C_below HR.out HB.out) (hi : Int) (by omega) (by omega)
        rw [rd46 hn, Int.toNat_natCast] at hx0 hx1
        subst e
        have cg0 : ∀ n os, (grow (wr.drewN n) os).cell? _ = some _ := cell_grown (World.block_lt_of_cell? wr _ hx0) hx0
        have cg1 : ∀ n os, (grow (wr.drewN n) os).cell? _ = some _ := cell_grown (World.block_lt_of_cell? wr _ hx1) hx1
        have ct0 : ∀ n os, (grow (wr.drewN n) os).cell? ⟨tb, 0, none⟩ = some (.int .i64 t.f0) := cell_grown (blk_lt BX.out) ((blk_cell BX.out 0).trans rfl)
        have ct1 : ∀ n os, (grow (wr.drewN n) os).cell? ⟨tb, 1, none⟩ = some (.int .i64 t.f1) := cell_grown (blk_lt BX.out) ((blk_cell BX.out 1).trans rfl)
        clear hx0 hx1
        have q0 : (hi : Int) < (l.length : Int) := by omega
        have hcg := fun n os => order_grown l[hi] t wr n os
        have HB1 := HB
        go_wp2_with fail
        go_quiet_grown (first | (go_at_fn 21; refine Calls.grown_of (hcg _ _)))
        go_wp2
        go_ret2
        exact ⟨_, by rw [ecnt]; rfl, below_step HB1.out (below_grown wr nq osq)⟩
      · have e2 : hi = l.length := by omega
        subst e2
        have HB1 := HB
        go_wp2_with fail
        go_quiet (fail)
        go_wp2
        go_ret2
        exact ⟨false, by rw [ecnt]; rfl, pw_below_drewN HB1.out nq⟩
end Go.Proofs.Ytpcmleeiaffkeaa.QWhl
namespace Go.Proofs.Ytpcmleeiaffkeaa.QWhl
open Go.RowKit Go.Proofs.YtpcmleeiaffkeaaW.PrintWords Go.Proofs.YtpcmleeiaffkeaaW.PrintLast Go.Proofs.YtpcmleeiaffkeaaW.PrintMore
set_option linter.unusedVariables false
set_option linter.unusedSimpArgs false
theorem run_copy_cells2 {P : Program} (w : World) (dT sT ty elem : TypeId) (b o dLen dCap : Nat) (a : Addr) (sLen sCap : Nat) (cs : List Value)
    (hu : P.underlying dT = some (.slice elem)) (hs : (P.info? elem).map (·.size) = some 2) (hn : cs.length = Nat.min sLen dLen * 2)
    (hsrc : ∀ j v, cs[j]? = some v → w.cell? (a.add j) = some v) (hc : ∀ j, j < cs.length → (w.cell? ⟨b, o + j, none⟩).isSome = true) (hf : ∀ j, j < cs.length → w.frozen? ⟨b, o + j, none⟩ = false) (h1 : ∀ v ∈ cs, v.oneCell' = true) :
    (Builtin.copy_ #[dT, sT] ty #[.slice (some ⟨b, o, none⟩) dLen dCap, .slice (some a) sLen sCap]).run P w = .ok (goInt (Nat.min sLen dLen)) (w.setCells b o cs) := by
  have hl := run_loadCells_list (P := P) w a cs hsrc
  have hst := run_storeCells_cells (P := P) b o cs 0 w (by simpa using hc) (by simpa using hf) h1
  cases hq : P.info? elem with
  | none => simp [hq] at hs
  | some i =>
    have hi : i.size = 2 := by simpa [hq] using hs
    simp [Builtin.copy_, run_underlying hu, Builtin.lenOf, Builtin.firstCells, sizeOf, typeInfo, hq, hi, ← hn, hl, hst]
theorem flat_drop (l : List S46) (i : Nat) : (flat46 l).drop (i * 2) = flat46 (l.drop i) := by
  by_cases h : i ≤ l.length
  · have e : flat46 l = flat46 (l.take i) ++ flat46 (l.drop i) := by rw [← flat_append, List.take_append_drop]
    rw [e, List.drop_left' (by rw [flat_len, List.length_take]; omega)]
  · rw [List.drop_of_length_le (by rw [flat_len]; omega), List.drop_of_length_le (by omega)]; rfl
theorem info46 : (Try.prog.info? 46).map (fun i => (i.zero, i.size, i.bytes)) = some (some (.agg #[(.int .i64 0), (.int .i64 0)]), 2, 16) := by kernel_rfl
theorem info46s : (Try.prog.info? 46).map (·.size) = some 2 := by kernel_rfl
theorem func30 : Try.prog.funcs[30]? = some Try.f30 := by kernel_rfl
set_option maxHeartbeats 4000000 in
set_option maxRecDepth 100000 in
theorem insert_shift (w0 : World) (blk cap i vb : Nat) (l : List S46) (t : S46) (w : World) (hi : i < l.length) (hroom : l.length + 1 ≤ cap) (hc63 : cap ≤ 9223372036854775807) (hr : Row w0 blk cap l w)
    (hvb : w.heap[vb]? = some (.cells #[.int .i64 t.f0, .int .i64 t.f1] 46 (0, 0))) (hne : vb ≠ blk) :
    Calls Try.prog 22 #[.slice (some ⟨blk, 0, none⟩) l.length cap, .int .i64 i, .slice (some ⟨vb, 0, none⟩) 1 1] w fun e w' =>
      e = .returned (.slice (some ⟨blk, 0, none⟩) (l.length + 1) cap) ∧ Row w0 blk cap (l.take i ++ [t] ++ l.drop i) w' := by
  have mixed : Try.prog.follows .mixedOrders = true := by kernel_rfl
  obtain ⟨n, hn⟩ : ∃ n, n = l.length := ⟨_, rfl⟩
  have hz2 : ¬ ((i : Int) = (n : Int)) := by omega
  have hv0 : w.cell? ⟨vb, 0, none⟩ = some (.int .i64 t.f0) := (blk_cell hvb 0).trans rfl
  have hv1 : w.cell? ⟨vb, 1, none⟩ = some (.int .i64 t.f1) := (blk_cell hvb 1).trans rfl
  have hsa : w.shape? vb = some (46, 2) := by simp [World.shape?, hvb]
  obtain ⟨kB, hsb, hkB⟩ : ∃ kB, w.shape? blk = some (46, kB) ∧ kB ≠ 0 := by
    obtain ⟨cur, hb, hs, _⟩ := hr.cells
    exact ⟨cur.size, by simp [World.shape?, hb], by omega⟩
  have hov : ∀ lb cb, (callFunc 30 #[.slice (some ⟨vb, 0, none⟩) 1 1, .slice (some ⟨blk, (i + 1) * 2, none⟩) lb cb]).run Try.prog w = .ok (.value (.bool false)) w := fun lb cb => by
    rw [run_callFunc_extern func30 (by kernel_rfl) (by kernel_rfl) (by kernel_rfl) (e := Extern.SlicesOverlaps.overlaps #[42, 42] #[4]) (by kernel_rfl),
      Lib.run_overlaps_apart w 42 4 46 Try.underlying42 2 Try.sizeOf46 ⟨vb, 0, none⟩ ⟨blk, (i + 1) * 2, none⟩ 1 1 lb cb hne 46 46 2 kB hsa hsb hkB (blk_frozen hvb _) (blk_frozen hvb _)]
    rfl
  have hdl : (flat46 (l.drop i)).length = (n - i) * 2 := by rw [flat_len, List.length_drop, hn]
  have hcp1 : ∀ ty dc sc, (Builtin.copy_ #[42, 42] ty #[.slice (some ⟨blk, (i + 1) * 2, none⟩) (n - i) dc, .slice (some ⟨blk, i * 2, none⟩) (n + 1 - i) sc]).run Try.prog w.drew = .ok (goInt (Nat.min (n + 1 - i) (n - i))) (w.drew.setCells blk ((i + 1) * 2) (flat46 (l.drop i))) := fun ty dc sc =>
    run_copy_cells2 w.drew 42 42 ty 46 blk ((i + 1) * 2) (n - i) dc ⟨blk, i * 2, none⟩ (n + 1 - i) sc (flat46 (l.drop i)) Try.underlying42 info46s (by rw [hdl]; simp only [Nat.min_def]; split <;> omega)
      (fun j v hj => by rw [Addr.add_lit]; rw [← flat_drop, List.getElem?_drop] at hj; exact hr.drew.cell (i * 2 + j) v hj)
      (fun j hj => (hr.drew.spare _ (by omega)).1) (fun j hj => (hr.drew.spare _ (by omega)).2) (flat_one _)
  have R1 : Row w0 blk cap (l.take (i + 1) ++ l.drop i) (w.drew.setCells blk ((i + 1) * 2) (flat46 (l.drop i))) := by
    have := hr.drew.write (i + 1) (l.drop i) (by omega) (by rw [List.length_drop]; omega)
    have e : l.drop (i + 1 + (l.drop i).length) = [] := List.drop_of_length_le (by rw [List.length_drop]; omega)
    rw [e, List.append_nil] at this
    exact this
  obtain ⟨W1, hW1⟩ : ∃ W1, W1 = w.drew.setCells blk ((i + 1) * 2) (flat46 (l.drop i)) := ⟨_, rfl⟩
  rw [← hW1] at hcp1 R1
  have hlen1 : (l.take (i + 1) ++ l.drop i).length = n + 1 := by rw [List.length_append, List.length_take, List.length_drop]; omega
  have hcv : ∀ q, W1.cell? ⟨vb, q, none⟩ = w.cell? ⟨vb, q, none⟩ := fun q => by
    rw [hW1, World.cell?_setCells_out _ _ _ _ _ (fun h _ => absurd h hne)]; rfl
  have hcp2 : ∀ ty dc, (Builtin.copy_ #[42, 42] ty #[.slice (some ⟨blk, i * 2, none⟩) (n + 1 - i) dc, .slice (some ⟨vb, 0, none⟩) 1 1]).run Try.prog W1 = .ok (goInt (Nat.min 1 (n + 1 - i))) (W1.setCells blk (i * 2) (flat46 [t])) := fun ty dc =>
    run_copy_cells2 W1 42 42 ty 46 blk (i * 2) (n + 1 - i) dc ⟨vb, 0, none⟩ 1 1 (flat46 [t]) Try.underlying42 info46s (by rw [flat_len]; simp only [List.length_singleton, Nat.min_def]; split <;> omega)
      (fun j v hj => by
        rw [Addr.add_lit, hcv]
        match j with
        | 0 => exact hv0.trans hj
        | 1 => exact hv1.trans hj
        | j + 2 => simp [flat46, enc46] at hj)
      (fun j hj => (R1.spare _ (by simp at hj; omega)).1) (fun j hj => (R1.spare _ (by simp at hj; omega)).2) (flat_one _)
  have R2 : Row w0 blk cap (l.take i ++ [t] ++ l.drop i) (W1.setCells blk (i * 2) (flat46 [t])) := by
    have h := R1.write i [t] (by omega) (by simp; omega)
    have e1 : (l.take (i + 1) ++ l.drop i).take i = l.take i := by
      rw [List.take_append_of_le_length (by rw [List.length_take]; omega), List.take_take, Nat.min_eq_left (by omega)]
    have e2 : (l.take (i + 1) ++ l.drop i).drop (i + [t].length) = l.drop i := by
      rw [List.length_singleton, List.drop_left' (by rw [List.length_take]; omega)]
    rw [e1, e2] at h
    exact h
  have HR2 := Aside0.mk R2
  clear R1 R2
  rw [← hn]
  have hw1 : IntKind.i64.wrap ((i : Int) + 1) = (i : Int) + 1 := by rw [IntKind.wrap_i64]; omega
  have htn : ((i : Int) + 1).toNat = i + 1 := by omega
  have hin : i < n := by omega
  have hb2 : ¬ (cap = i + 1) := by omega
  have hb4 : ¬ (cap = i) := by omega
  have hrm : n + 1 ≤ cap := by omega
  have hb1 : (0 : Int) ≤ (i : Int) + 1 := by omega
  have hb3 : (i : Int) + 1 ≤ (n : Int) + 1 := by omega
  have hb5 : (i : Int) ≤ (n : Int) + 1 := by omega
  have hb6 : i ≤ n := by omega
  have hb7 : i ≤ n + 1 := by omega
  clear hn hr hvb hcv hW1
  go_enter Try.func22, Try.ntmps22
  go_wp2_with (simp only [hov])
  go_region_law_o (refine step_copy_runI rfl _ _ 42 42 rfl _ _ (by simp [Act.eval, Act.put]) (by simp [Act.eval, Act.put]) (hcp1 _ _ _) ?_)
  go_wp2_with (at_builtin; refine wpList_copy_runI _ rfl _ _ 42 42 rfl _ _ rfl rfl (hcp2 _ _) ?_)
  go_ret
  exact ⟨rfl, HR2.out⟩
set_option maxHeartbeats 4000000 in
set_option maxRecDepth 100000 in
theorem insert_grow (w0 : World) (blk cap i vb : Nat) (l : List S46) (t : S46) (w : World) (hi : i < l.length) (hroom : cap < l.length + 1) (hbig : (l.length + 1) * 16 ≤ 140737488355328) (hr : Row w0 blk cap l w)
    (hvb : w.heap[vb]? = some (.cells #[.int .i64 t.f0, .int .i64 t.f1] 46 (0, 0))) :
    Calls Try.prog 22 #[.slice (some ⟨blk, 0, none⟩) l.length cap, .int .i64 i, .slice (some ⟨vb, 0, none⟩) 1 1] w fun e w' =>
      ∃ G, e = .returned (.slice (some ⟨w.heap.size, 0, none⟩) (l.length + 1) G) ∧ l.length + 1 ≤ G ∧ G ≤ maxLen ∧ Row w w.heap.size G (l.take i ++ [t] ++ l.drop i) w' := by
  have mixed : Try.prog.follows .mixedOrders = true := by kernel_rfl
  have hfit := hr.fits
  obtain ⟨n, hn⟩ : ∃ n, n = l.length := ⟨_, rfl⟩
  have hz2 : ¬ ((i : Int) = (n : Int)) := by omega
  have hz3 : (cap : Int) < (n : Int) + 1 := by omega
  obtain ⟨i0, hi0, hz0, hzs, hzb⟩ := info_parts info46
  have hbw : blk < w.heap.size := hr.lt
  have hvw : vb < w.heap.size := blk_lt hvb
  have hv0 : w.cell? ⟨vb, 0, none⟩ = some (.int .i64 t.f0) := (blk_cell hvb 0).trans rfl
  have hv1 : w.cell? ⟨vb, 1, none⟩ = some (.int .i64 t.f1) := (blk_cell hvb 1).trans rfl
  have hkk : (n : Int) + 1 - (i : Int) = ((n + 1 - i : Nat) : Int) := by omega
  have hik : i + (n + 1 - i) = n + 1 := by omega
  have hold : (Builtin.firstCells i0.size i (.slice (some ⟨blk, 0, none⟩) i cap)).run Try.prog w.drew = .ok (flat46 (l.take i)).toArray w.drew := by
    rw [hzs]
    exact run_firstCells_some w.drew 2 i ⟨blk, 0, none⟩ i cap (flat46 (l.take i)) (by rw [flat_len, List.length_take]; omega) (fun j v hj => by
      rw [Addr.add_lit, Nat.zero_add]
      exact (hr.drew.take i).cell j v hj)
  have hrz : ∀ ty, (Builtin.append_ #[42, 3] ty #[.slice (some ⟨blk, 0, none⟩) i cap, .int .i64 ((n : Int) + 1 - (i : Int))]).run Try.prog w =
      .ok (.slice (some ⟨w.heap.size, 0, none⟩) (n + 1) (grownCap w (n + 1) cap 46)) (w.drew.alloc (.cells ((flat46 (l.take i)).toArray ++ Builtin.zeroCells (Value.agg #[.int .i64 0, .int .i64 0]).cells (n + 1 - i) ++ Builtin.zeroCells (Value.agg #[.int .i64 0, .int .i64 0]).cells (grownCap w (n + 1) cap 46 - (n + 1))) 46)) := fun ty => by
    have h := Lib.run_append_grow_zeros w 42 3 ty 46 i0 _ .i64 .i64 Try.underlying42 Try.underlying3 hi0 hz0 (some ⟨blk, 0, none⟩) i cap (flat46 (l.take i)) hold (n + 1 - i) (by omega) (by omega) (by omega) (by omega) (by rw [hzb]; omega) (by rw [hzb, hik]; exact growslice_fits (by omega) (by omega))
    rw [hik] at h
    rw [hkk]
    exact h
  obtain ⟨G, hG⟩ : ∃ G, G = grownCap w (n + 1) cap 46 := ⟨_, rfl⟩
  have hGn : n + 1 ≤ G := by rw [hG]; exact grownCap_ge w _ _ _
  have hGm : G ≤ maxLen := by rw [hG]; exact grownCap_le_maxLen w (n + 1) cap 46 (by unfold maxLen; omega)
  have hG63 : G ≤ 9223372036854775807 := by unfold maxLen at hGm; omega
  rw [← hG] at hrz
  obtain ⟨W1, hW1⟩ : ∃ W1, W1 = w.drew.alloc (.cells ((flat46 (l.take i)).toArray ++ Builtin.zeroCells (Value.agg #[.int .i64 0, .int .i64 0]).cells (n + 1 - i) ++ Builtin.zeroCells (Value.agg #[.int .i64 0, .int .i64 0]).cells (G - (n + 1))) 46) := ⟨_, rfl⟩
  rw [← hW1] at hrz
  have lz : ∀ m, (Builtin.zeroCells (Value.agg #[.int .i64 0, .int .i64 0]).cells m).size = m * 2 := fun m => by simp [Builtin.zeroCells, Value.cells]
  have R0 : Row w w.heap.size G (l.take i ++ List.replicate (n + 1 - i) z46) W1 := by
    refine ⟨by rw [hW1]; exact grownBy_below (below_alloc (below_drew1 (Below.refl _ _)) _), ⟨_, by rw [hW1]; exact blk_new w.drew _, ?_, ?_⟩, by simp; omega⟩
    · simp only [Array.size_append, lz, List.size_toArray, flat_len, List.length_take]; omega
    · have e : (l.take i ++ List.replicate (n + 1 - i) z46).length * 2 = (flat46 (l.take i ++ List.replicate (n + 1 - i) z46)).length := by rw [flat_len]
      rw [e, flat_append, Array.toList_append, Array.toList_append, ← zeros46]
      exact List.take_left' rfl
  have R1 : Row w w.heap.size G (l.take i ++ [t] ++ List.replicate (n - i) z46) (W1.setCells w.heap.size (i * 2) (flat46 [t])) := by
    have h := R0.write i [t] (by simp; omega) (by simp; omega)
    have e1 : (l.take i ++ List.replicate (n + 1 - i) z46).take i = l.take i := List.take_left' (by rw [List.length_take]; omega)
    have e2 : (l.take i ++ List.replicate (n + 1 - i) z46).drop (i + [t].length) = List.replicate (n - i) z46 := by
      rw [List.length_singleton, List.drop_append, List.drop_of_length_le (by rw [List.length_take]; omega), List.nil_append, List.drop_replicate, List.length_take]
      congr 1; omega
    rw [e1, e2] at h
    exact h
  obtain ⟨W2, hW2⟩ : ∃ W2, W2 = W1.setCells w.heap.size (i * 2) (flat46 [t]) := ⟨_, rfl⟩
  have hB1 : Below w.heap.size w W1 := by rw [hW1]; exact below_alloc (below_drew1 (Below.refl _ _)) _
  have hcpA : ∀ ty dc, (Builtin.copy_ #[42, 42] ty #[.slice (some ⟨w.heap.size, i * 2, none⟩) (n + 1 - i) dc, .slice (some ⟨vb, 0, none⟩) 1 1]).run Try.prog W1 = .ok (goInt (Nat.min 1 (n + 1 - i))) W2 := fun ty dc => by
    rw [hW2]
    exact run_copy_cells2 W1 42 42 ty 46 w.heap.size (i * 2) (n + 1 - i) dc ⟨vb, 0, none⟩ 1 1 (flat46 [t]) Try.underlying42 info46s (by rw [flat_len]; simp only [List.length_singleton, Nat.min_def]; split <;> omega)
      (fun j v hj => by
        rw [Addr.add_lit, hB1.cell (p := ⟨vb, 0 + j, none⟩) hvw]
        match j with
        | 0 => exact hv0.trans hj
        | 1 => exact hv1.trans hj
        | j + 2 => simp [flat46, enc46] at hj)
      (fun j hj => (R0.spare _ (by simp at hj; omega)).1) (fun j hj => (R0.spare _ (by simp at hj; omega)).2) (flat_one _)
  rw [← hW2] at R1
  have hdl : (flat46 (l.drop i)).length = (n - i) * 2 := by rw [flat_len, List.length_drop, hn]
  obtain ⟨W3, hW3⟩ : ∃ W3, W3 = W2.drew.setCells w.heap.size ((i + 1) * 2) (flat46 (l.drop i)) := ⟨_, rfl⟩
  have hcpB : ∀ ty dc sc, (Builtin.copy_ #[42, 42] ty #[.slice (some ⟨w.heap.size, (i + 1) * 2, none⟩) (n - i) dc, .slice (some ⟨blk, i * 2, none⟩) (n - i) sc]).run Try.prog W2.drew = .ok (goInt (Nat.min (n - i) (n - i))) W3 := fun ty dc sc => by
    rw [hW3]
    exact run_copy_cells2 W2.drew 42 42 ty 46 w.heap.size ((i + 1) * 2) (n - i) dc ⟨blk, i * 2, none⟩ (n - i) sc (flat46 (l.drop i)) Try.underlying42 info46s (by rw [hdl]; simp only [Nat.min_def]; split <;> omega)
      (fun j v hj => by
        rw [Addr.add_lit]
        rw [← flat_drop, List.getElem?_drop] at hj
        have hc := hr.cell (i * 2 + j) v hj
        have h2 : W2.drew.cell? ⟨blk, i * 2 + j, none⟩ = W1.cell? ⟨blk, i * 2 + j, none⟩ := by
          rw [hW2]
          show (W1.setCells w.heap.size (i * 2) (flat46 [t])).cell? _ = _
          rw [World.cell?_setCells_out _ _ _ _ _ (fun h _ => absurd (show blk = w.heap.size from h) (by omega))]
        rw [h2, hB1.cell (p := ⟨blk, i * 2 + j, none⟩) hbw]
        exact hc)
      (fun j hj => (R1.drew.spare _ (by omega)).1) (fun j hj => (R1.drew.spare _ (by omega)).2) (flat_one _)
  have R2 : Row w w.heap.size G (l.take i ++ [t] ++ l.drop i) W3 := by
    rw [hW3]
    have hl1 : (l.take i ++ [t]).length = i + 1 := by rw [List.length_append, List.length_take, List.length_singleton]; omega
    have h := R1.drew.write (i + 1) (l.drop i) (by rw [List.length_append, hl1]; omega) (by rw [List.length_drop]; omega)
    have e1 : (l.take i ++ [t] ++ List.replicate (n - i) z46).take (i + 1) = l.take i ++ [t] := List.take_left' hl1
    have e2 : (l.take i ++ [t] ++ List.replicate (n - i) z46).drop (i + 1 + (l.drop i).length) = [] := List.drop_of_length_le (by rw [List.length_append, hl1, List.length_replicate, List.length_drop]; omega)
    rw [e1, e2, List.append_nil] at h
    exact h
  have HR2 := Aside0.mk R2
  have HGM := Aside0.mk hGm
  clear R0 R1 R2 hGm
  rw [← hn]
  have hw1 : IntKind.i64.wrap ((i : Int) + 1) = (i : Int) + 1 := by rw [IntKind.wrap_i64]; omega
  have htn : ((i : Int) + 1).toNat = i + 1 := by omega
  have hin : i < n := by omega
  have hGi : ¬ (G = i) := by omega
  have hGim : ¬ (G = i + 1) := by omega
  have hci : ¬ (cap = i) := by omega
  have hb1 : (0 : Int) ≤ (i : Int) + 1 := by omega
  have hb3 : (i : Int) + 1 ≤ (n : Int) + 1 := by omega
  have hb5 : (i : Int) ≤ (n : Int) + 1 := by omega
  have hb6 : i ≤ n := by omega
  have hb7 : i ≤ n + 1 := by omega
  clear hn hr hvb hW1 hW2 hW3 hB1 hold hkk hik hG lz hdl hv0 hv1
  go_enter Try.func22, Try.ntmps22
  go_wp2_with (first
    | (at_builtin; refine Lib.wpList_append_run _ rfl _ _ _ _ rfl _ _ rfl rfl _ _ (hrz _) ?_)
    | (at_builtin; refine wpList_copy_runI _ rfl _ _ 42 42 rfl _ _ rfl rfl (hcpA _ _) ?_))
  go_region_law_o (refine step_copy_runI rfl _ _ 42 42 rfl (.slice (some ⟨w.heap.size, (i + 1) * 2, none⟩) (n - i) (G - (i + 1))) (.slice (some ⟨blk, i * 2, none⟩) (n - i) (cap - i)) (by simp [Act.eval, Act.put]) (by simp [Act.eval, Act.put]) (hcpB 3 (G - (i + 1)) (cap - i)) ?_)
  go_wp2
  go_ret
  exact ⟨G, rfl, hGn, HGM.out, HR2.out⟩
end Go.Proofs.Ytpcmleeiaffkeaa.QWhl
namespace Go.Proofs.Ytpcmleeiaffkeaa.QWhl
open Go.RowKit Go.Proofs.YtpcmleeiaffkeaaW.PrintWords Go.Proofs.YtpcmleeiaffkeaaW.PrintLast Go.Proofs.YtpcmleeiaffkeaaW.PrintMore
set_option linter.unusedVariables false
set_option linter.unusedSimpArgs false
abbrev Blk (u : Value) : Nat → Prop := fun k => u.ownBlock = some k
abbrev R46 (w : World) (base : Nat) (g : Nat) (u : Value) (l : List S46) : Prop := Kd.R k46 46 w base (fun k => k ≠ g) u l
theorem R46.kept {w W : World} {base g : Nat} {u : Value} {l : List S46} {S : Nat → Prop} (h : R46 w base g u l) (hk : Kept w W S) (hn : ∀ k, u.ownBlock = some k → ¬ S k) : R46 W base g u l := by
  rcases Row.ofR h with ⟨rfl, rfl⟩ | ⟨b, cap, rfl, hok, hb, hm, hr⟩
  · exact Kd.R_nil _ _ _ _ _
  · obtain ⟨cur, hc, hs, ht⟩ := hr.cells
    exact Row.toR (w := W) ⟨World.grownBy.refl _ _, ⟨cur, blk_kept hc hk (hn b rfl), hs, ht⟩, hr.fits⟩ hb hok hm
theorem R46.len {w : World} {base g : Nat} {u : Value} {l : List S46} (h : R46 w base g u l) : ∃ A c, u = .slice A l.length c ∧ l.length ≤ c ∧ Kd.C k46 w A l.length l := by
  obtain ⟨A, c, rfl⟩ := Kd.R_slice h
  have := Kd.R_reads' h
  exact ⟨A, c, rfl, this.2.1, this.2.2⟩
structure Turn (w0 w : World) (base g : Nat) (u v : Value) (l : List S46) (W : World) : Prop where
  row : R46 W base g v l
  bel : Below base w0 W
  kept : Kept w W (Blk u)
  own : v.ownBlock = u.ownBlock ∨ ∀ k, v.ownBlock = some k → w.heap.size ≤ k
theorem own_cap (A : Option Addr) (n c c' : Nat) : (Value.slice A n c).ownBlock = (Value.slice A n c').ownBlock := by cases A <;> rfl
theorem C_one {w : World} {vb : Nat} {t : S46} (h : w.heap[vb]? = some (.cells #[.int .i64 t.f0, .int .i64 t.f1] 46 (0, 0))) : Kd.C k46 w (some ⟨vb, 0, none⟩) 1 [t] := by
  have hr : Row w vb 1 [t] w := ⟨World.grownBy.refl _ _, ⟨_, h, rfl, rfl⟩, Nat.le_refl _⟩
  exact (Kd.R_reads' (hr.toR (base := 0) (ok := fun _ => True) (Nat.zero_le _) trivial (by decide))).2.2
set_option maxHeartbeats 4000000 in
set_option maxRecDepth 100000 in
theorem insert_end (base g : Nat) (u : Value) (l : List S46) (w0 w : World) (hB : Below base w0 w) (hb : base ≤ w.heap.size) (hg : g < w.heap.size) (ho : R46 w base g u l) (t : S46) (vb : Nat)
    (hvb : w.heap[vb]? = some (.cells #[.int .i64 t.f0, .int .i64 t.f1] 46 (0, 0))) (hbig : (l.length + 1) * 16 ≤ 140737488355328) :
    Calls Try.prog 22 #[u, .int .i64 (l.length : Nat), .slice (some ⟨vb, 0, none⟩) 1 1] w fun e w' => ∃ v, e = .returned v ∧ Turn w0 w base g u v (l ++ [t]) w' := by
  have hC := C_one hvb
  obtain ⟨A, c, rfl, hle, hCl⟩ := ho.len
  have HO := Aside0.mk ho
  have HC := Aside0.mk hC
  have HB := Aside0.mk hB
  have HS := Aside0.mk hb
  have HL := Aside0.mk hbig
  have HG := Aside0.mk hg
  clear ho hC hB hb hbig hCl hvb hg
  go_enter Try.func22, Try.ntmps22
  go_wp2_with ((with_reducible refine gate_builtin (b := .append) (xs := #[.tmp 23, .tmp 24]) rfl ?_); at_builtin; refine Kd.R_append_rows k46 (w0 := w0) base rfl (.tmp 23) (.tmp 24) 42 46 (.agg #[(.int .i64 0), (.int .i64 0)]) 16 rfl Try.underlying42 info46 rfl (by decide) (by omega) (.slice A l.length c) l [t] (some ⟨vb, 0, none⟩) 1 1 (fun k => k ≠ g) (fun _ => False) rfl rfl ?aO ?aR (fun _ _ h => h) (fun _ h => h.elim) ?aF ?aB ?aS ?aL ?_; (case aR => exact HC.out); (case aB => exact HB.out); (case aF => exact (fun k hk => by have := HG.out; omega)); (case aO => exact HO.out); (case aS => exact HS.out); (case aL => have := HL.out; omega); intro v2 w2 ho2 hb2 hg2 hat; have HO2 := Aside0.mk ho2; have HB2 := Aside0.mk hb2; have HG2 := Aside0.mk hg2; have HA2 := Aside0.mk hat; clear ho2 hb2 hg2 hat)
  all_goals (go_ret; exact ⟨v2, rfl, HO2.out, HB2.out, Kept.of_grown HG2.out (Kept.refl _ _) (fun k hk => .inl ((own_cap _ _ _ _).trans hk)), by rcases HA2.out with h | ⟨q, h, hq⟩; exact .inl (h.trans (own_cap _ _ _ _)); exact .inr (fun k hk => by rw [h] at hk; cases hk; exact hq)⟩)
theorem insert_calls (base g : Nat) (u : Value) (l : List S46) (w0 w : World) (hB : Below base w0 w) (hb : base ≤ w.heap.size) (hg : g < w.heap.size) (ho : R46 w base g u l) (i : Nat) (hi : i ≤ l.length) (t : S46) (vb : Nat)
    (hvb : w.heap[vb]? = some (.cells #[.int .i64 t.f0, .int .i64 t.f1] 46 (0, 0))) (hne : u.ownBlock ≠ some vb) (hbig : (l.length + 1) * 16 ≤ 140737488355328) :
    Calls Try.prog 22 #[u, .int .i64 i, .slice (some ⟨vb, 0, none⟩) 1 1] w fun e w' => ∃ v, e = .returned v ∧ Turn w0 w base g u v (l.take i ++ [t] ++ l.drop i) w' := by
  by_cases hend : i = l.length
  · subst hend
    rw [List.take_of_length_le (Nat.le_refl _), List.drop_of_length_le (Nat.le_refl _), List.append_nil]
    exact insert_end base g u l w0 w hB hb hg ho t vb hvb hbig
  · rcases Row.ofR ho with ⟨rfl, rfl⟩ | ⟨b, cap, rfl, hok, hbb, hm, hr⟩
    · simp at hi hend; omega
    · have hnb : vb ≠ b := fun e => hne (by rw [e]; rfl)
      have hlt := hr.lt
      by_cases hroom : l.length + 1 ≤ cap
      · refine (insert_shift w b cap i vb l t w (by omega) hroom (by unfold maxLen at hm; omega) hr hvb hnb).mono ?_
        rintro e w' ⟨rfl, hR⟩
        refine ⟨_, rfl, ?_, Below.grown hB hR.grown hb (fun k hk => by cases hk; exact hbb), Kept.of_grown hR.grown (Kept.refl _ _) (fun k hk => .inl (by cases hk; rfl)), .inl rfl⟩
        have hl : (l.take i ++ [t] ++ l.drop i).length = l.length + 1 := by simp; omega
        have := hR.toR (ok := fun k => k ≠ g) hbb hok hm
        rw [hl] at this
        exact this
      · refine (insert_grow w b cap i vb l t w (by omega) (by omega) hbig hr hvb).mono ?_
        rintro e w' ⟨G, rfl, hG, hGm, hR⟩
        refine ⟨_, rfl, ?_, Below.grown hB hR.grown hb (fun k hk => by cases hk; exact hb), Kept.of_grown hR.grown (Kept.refl _ _) (fun k hk => .inr (by cases hk; exact Nat.le_refl _)), .inr (fun k hk => by cases hk; exact Nat.le_refl _)⟩
        have hl : (l.take i ++ [t] ++ l.drop i).length = l.length + 1 := by simp; omega
        have := hR.toR (ok := fun k => k ≠ g) hb (by omega) hGm
        rw [hl] at this
        exact this
theorem delete_none (g kb : Nat) (key : Int) (hp : PredOf g kb key) (eg : ∀ args w, (callFunc g args).run Try.prog w = .ok (.enter g args) w) (w : World) (hk : w.heap[kb]? = some (.cells #[.int .i64 key] 3 (0, 0))) :
    Calls Try.prog 26 #[.slice none 0 0, .func (.func g) #[] #[.pointer (some ⟨kb, 0, none⟩)]] w fun e w' => e = .returned (.slice none 0 0) ∧ Below w.heap.size w w' := by
  have e24 : ∀ args w, (callFunc 24 args).run Try.prog w = .ok (.enter 24 args) w := enters_of Try.func24 (by kernel_rfl) rfl
  have hIF := index_calls g kb key hp eg none 0 [] w hk (Kd.C_nil _ _)
  go_enter Try.func26, Try.ntmps26
  go_wp2_with (go_at_fn 24; refine hIF.mono ?_; rintro e w' ⟨rfl, hb'⟩; have HB2 := Aside0.mk hb'; clear hb')
  go_ret
  exact ⟨rfl, HB2.out⟩
theorem delete_calls (gf kb : Nat) (key : Int) (hp : PredOf gf kb key) (eg : ∀ args w, (callFunc gf args).run Try.prog w = .ok (.enter gf args) w) (base g : Nat) (u : Value) (l : List S46) (w0 w : World) (hB : Below base w0 w) (hb : base ≤ w.heap.size) (ho : R46 w base g u l)
    (hk : w.heap[kb]? = some (.cells #[.int .i64 key] 3 (0, 0))) (hne : u.ownBlock ≠ some kb) :
    Calls Try.prog 26 #[u, .func (.func gf) #[] #[.pointer (some ⟨kb, 0, none⟩)]] w fun e w' => ∃ v, e = .returned v ∧ Turn w0 w base g u v (drop46 l key) w' := by
  rcases Row.ofR ho with ⟨rfl, rfl⟩ | ⟨b, cap, rfl, hok, hbb, hm, hr⟩
  · refine (delete_none gf kb key hp eg w hk).mono ?_
    rintro e w' ⟨rfl, hbel⟩
    exact ⟨_, rfl, Kd.R_nil _ _ _ _ _, Below.grown hB (grownBy_below (r := none) hbel) hb (fun k hk => by cases hk), Kept.of_below hbel _, .inl rfl⟩
  · have hC := (Kd.R_reads' ho).2.2
    refine (delete_row gf kb key hp eg b cap l w (fun e => hne (by rw [e]; rfl)) (by unfold maxLen at hm; omega) hk hr hC).mono ?_
    rintro e w' ⟨rfl, hR⟩
    exact ⟨_, rfl, hR.toR hbb hok hm, Below.grown hB hR.grown hb (fun k hk => by cases hk; exact hbb), Kept.of_grown hR.grown (Kept.refl _ _) (fun k hk => .inl (by cases hk; rfl)), .inl rfl⟩
end Go.Proofs.Ytpcmleeiaffkeaa.QWhl
namespace Go.Proofs.Ytpcmleeiaffkeaa.QWhl
open Go.RowKit Go.Proofs.YtpcmleeiaffkeaaW.PrintWords Go.Proofs.YtpcmleeiaffkeaaW.PrintLast Go.Proofs.YtpcmleeiaffkeaaW.PrintMore
set_option linter.unusedVariables false
set_option linter.unusedSimpArgs false
structure Whl (w : World) (base g : Nat) (v : Value) (l : List S46) : Prop where
  cell : w.heap[g]? = some (.cells #[v] 52 (0, 0))
  low : base ≤ g
  row : R46 w base g v l
structure WTurn (w0 w : World) (base g : Nat) (v v' : Value) (l' : List S46) (W : World) : Prop where
  whl : Whl W base g v' l'
  bel : Below base w0 W
  kept : Kept w W (fun k => k = g ∨ Blk v k)
  own : v'.ownBlock = v.ownBlock ∨ ∀ k, v'.ownBlock = some k → w.heap.size ≤ k
section
variable {w w0 W W1 : World} {base g : Nat} {u v v' x : Value} {l l' : List S46}
theorem R46.ne (h : R46 w base g u l) : ∀ k, u.ownBlock = some k → k ≠ g := h.1
theorem R46.below (h : R46 w base g u l) (hb : Below w.heap.size w W) : R46 W base g u l := h.kept (Kept.of_below hb (fun _ => False)) (fun _ _ h => h)
theorem R46.far (h : R46 w base g u l) (x : Value) : R46 (w.setCell ⟨g, 0, none⟩ x) base g u l :=
  h.kept (S := fun k => k = g) (Kept.setCell (S := fun k => k = g) (Kept.refl w _) (p := ⟨g, 0, none⟩) (.inl rfl) x) (fun k hk e => h.ne k hk e)
theorem Whl.below (h : Whl w base g v l) (hb : Below w.heap.size w W) : Whl W base g v l := ⟨blk_below h.cell hb, h.low, h.row.below hb⟩
theorem Whl.kept {S : Nat → Prop} (h : Whl w base g v l) (hk : Kept w W S) (hg : ¬ S g) (hn : ∀ k, v.ownBlock = some k → ¬ S k) : Whl W base g v l := ⟨blk_kept h.cell hk hg, h.low, h.row.kept hk hn⟩
theorem Whl.lt (h : Whl w base g v l) : g < w.heap.size := blk_lt h.cell
theorem Whl.store (hc : w.heap[g]? = some (.cells #[v] 52 (0, 0))) (hl : base ≤ g) (hr : R46 w base g v' l') : Whl (w.setCell ⟨g, 0, none⟩ v') base g v' l' := ⟨blk_put hc 0 v' rfl, hl, hr.far v'⟩
theorem own_lt (h : R46 w base g u l) : ∀ k, u.ownBlock = some k → k < w.heap.size := by
  intro k hk
  rcases Row.ofR h with ⟨rfl, rfl⟩ | ⟨b, cap, rfl, hok, hb, hm, hr⟩
  · cases hk
  · cases hk; exact hr.lt
end
set_option maxHeartbeats 4000000 in
set_option maxRecDepth 100000 in
theorem stop_calls (base g : Nat) (v : Value) (l : List S46) (w0 w : World) (hB : Below base w0 w) (hb : base ≤ w.heap.size) (hw : Whl w base g v l) (key : Int) :
    Calls Try.prog 19 #[.pointer (some ⟨g, 0, none⟩), .int .i64 key] w fun e w' => e = .returned (.tuple #[]) ∧ ∃ v', WTurn w0 w base g v v' (drop46 l key) w' := by
  have eg : ∀ args w, (callFunc 27 args).run Try.prog w = .ok (.enter 27 args) w := enters_of Try.func27 (by kernel_rfl) rfl
  have e26 : ∀ args w, (callFunc 26 args).run Try.prog w = .ok (.enter 26 args) w := enters_of Try.func26 (by kernel_rfl) rfl
  have HW := Aside0.mk hw
  have HB := Aside0.mk hB
  have HS := Aside0.mk hb
  clear hw hB hb
  go_enter Try.func19, Try.ntmps19
  go_wp2_with (first | ((with_reducible refine gate_dst (N := 3) rfl ?_); refine box_event ?hg (N := 3) ?hd (cs := #[.int .i64 key]) (t := 3) ?hr ?_; (case hd => rfl); (case hg => rfl); (case hr => first | (go_simp; done) | (go_simp; rfl)); intro kb hg w1 hbox hb1; have hgc : w1.cell? ⟨g, 0, none⟩ = some v := (blk_cell (blk_below HW.out.cell hb1) 0).trans rfl; have HX := Aside0.mk hbox; have HB1 := Aside0.mk hb1; have HG := Aside0.mk hg; clear hbox hb1 hg) | (go_at_fn 26; refine (delete_calls 27 kb key (pred27 kb key) eg base g v l w0 w1 ?q1 ?q2 ?q3 HX.out ?q4).mono ?_; (case q1 => exact Below.grown HB.out (grownBy_below (r := none) HB1.out) HS.out (fun k hk => by cases hk)); (case q2 => exact Nat.le_trans HS.out HB1.out.size); (case q3 => exact HW.out.row.below HB1.out); (case q4 => exact fun e => by have h1 := own_lt HW.out.row kb e; have h2 := HG.out; omega); rintro e w2 ⟨v', rfl, ht⟩; obtain ⟨A2, c2, rfl, hl2, _⟩ := ht.row.len; have hc2 : w2.heap[g]? = some (.cells #[v] 52 (0, 0)) := blk_kept (blk_below HW.out.cell HB1.out) ht.kept (fun h => HW.out.row.ne g h rfl); have hgc2 : w2.cell? ⟨g, 0, none⟩ = some v := (blk_cell hc2 0).trans rfl; have hgf2 := blk_frozen hc2 0; have HT := Aside0.mk ht; have HC2 := Aside0.mk hc2; clear ht hc2))
  go_end0
  have T := HT.out
  refine ⟨rfl, _, Whl.store HC2.out HW.out.low T.row, ?_, ?_, ?_⟩
  · exact Below.grown T.bel (grownBy_set _ g 0 _) (Nat.le_trans HS.out (Nat.le_trans HB1.out.size T.kept.1)) (fun k hk => by cases hk; exact HW.out.low)
  · refine Kept.setCell ((Kept.of_below HB1.out _).then_ T.kept (fun k hk => .inl (.inr hk))) (.inl (.inl rfl)) _
  · rcases T.own with h | h
    · exact .inl h
    · exact .inr (fun k hk => Nat.le_trans HB1.out.size (h k hk))
theorem drop46_sorted {l : List S46} (h : l.Pairwise lx) (key : Int) : (drop46 l key).Pairwise lx := h.filter _
theorem drop46_len (l : List S46) (key : Int) : (drop46 l key).length ≤ l.length := List.length_filter_le _ _
theorem pos_le (l : List S46) (t : S46) : pos l t ≤ l.length := List.countP_le_length
def ins46 (l : List S46) (t : S46) : List S46 := l.take (pos l t) ++ [t] ++ l.drop (pos l t)
def setf (l : List S46) (key due : Int) : List S46 := if due < 0 then l else ins46 (drop46 l key) ⟨due, key⟩
set_option maxHeartbeats 8000000 in
set_option maxRecDepth 100000 in
theorem set_pos (base g : Nat) (v : Value) (l : List S46) (w0 w : World) (hB : Below base w0 w) (hb : base ≤ w.heap.size) (hw : Whl w base g v l) (hs : l.Pairwise lx) (hlen : l.length ≤ 1000000) (key due : Int) (hd : ¬ due < 0) :
    Calls Try.prog 11 #[.pointer (some ⟨g, 0, none⟩), .int .i64 key, .int .i64 due] w fun e w' => e = .returned (.int .i64 0) ∧ ∃ v', WTurn w0 w base g v v' (ins46 (drop46 l key) ⟨due, key⟩) w' := by
  have e19 : ∀ args w, (callFunc 19 args).run Try.prog w = .ok (.enter 19 args) w := enters_of Try.func19 (by kernel_rfl) rfl
  have e20 : ∀ args w, (callFunc 20 args).run Try.prog w = .ok (.enter 20 args) w := enters_of Try.func20 (by kernel_rfl) rfl
  have e22 : ∀ args w, (callFunc 22 args).run Try.prog w = .ok (.enter 22 args) w := enters_of Try.func22 (by kernel_rfl) rfl
  have HW := Aside0.mk hw
  have HB := Aside0.mk hB
  have HS := Aside0.mk hb
  have HO := Aside0.mk (drop46_sorted hs key)
  have HL := Aside0.mk (Nat.le_trans (drop46_len l key) hlen)
  clear hw hB hb hs hlen
  go_enter Try.func11, Try.ntmps11
  go_wp2_with (first | (go_at_fn 19; refine (stop_calls base g v l w0 w HB.out HS.out HW.out key).mono ?_; rintro e w1 ⟨rfl, v1, ht⟩; obtain ⟨A1, c1, rfl, hl1, _⟩ := ht.whl.row.len; have HT := Aside0.mk ht; clear ht hl1) | ((with_reducible refine gate_dst (N := 7) rfl ?_); refine box_event ?hg (N := 7) ?hd (cs := #[.int .i64 0, .int .i64 0]) (t := 46) ?hr ?_; (case hd => rfl); (case hg => rfl); (case hr => first | (go_simp; done) | (go_simp; rfl)); intro tb hg w2 hbox hb2; have hcz0 : w2.cell? ⟨tb, 0, none⟩ = some (.int .i64 0) := (blk_cell hbox 0).trans rfl; have hcz1 : w2.cell? ⟨tb, 1, none⟩ = some (.int .i64 0) := (blk_cell hbox 1).trans rfl; have hfz0 := blk_frozen hbox 0; have hfz1 := blk_frozen hbox 1; have HX := Aside0.mk hbox; have HB2 := Aside0.mk hb2; have HG := Aside0.mk hg; clear hbox hb2 hg))
  obtain ⟨w3, hw3⟩ : ∃ w3, w3 = (w2.setCell ⟨tb, 0, none⟩ (.int .i64 due)).setCell ⟨tb, 1, none⟩ (.int .i64 key) := ⟨_, rfl⟩
  rw [← hw3]
  have B3 : Below w1.heap.size w1 w3 := by rw [hw3]; exact below_set (below_set HB2.out (Nat.le_of_eq HG.out.symm)) (Nat.le_of_eq HG.out.symm)
  have X3 : w3.heap[tb]? = some (.cells #[.int .i64 due, .int .i64 key] 46 (0, 0)) := by rw [hw3]; exact blk_put (blk_put HX.out 0 _ rfl) 1 _ rfl
  have W3 := HT.out.whl.below B3
  have hgc3 : w3.cell? ⟨g, 0, none⟩ = some (.slice A1 (drop46 l key).length c1) := (blk_cell W3.cell 0).trans rfl
  have ht0 : w3.cell? ⟨tb, 0, none⟩ = some (.int .i64 due) := (blk_cell X3 0).trans rfl
  have ht1 : w3.cell? ⟨tb, 1, none⟩ = some (.int .i64 key) := (blk_cell X3 1).trans rfl
  have HB3 := Aside0.mk B3
  have HX3 := Aside0.mk X3
  have HW3 := Aside0.mk W3
  have HC3 := Aside0.mk (Kd.R_reads' W3.row).2.2
  clear hw3 B3 X3 W3 hcz0 hcz1 hfz0 hfz1 HX HB2
  go_region_with (go_at_call 20; refine (search_calls A1 c1 (drop46 l key) ⟨due, key⟩ _ ?q1 ?q2 HO.out).mono ?_; (case q1 => exact HC3.out); (case q2 => have := HL.out; omega); rintro e w4 ⟨bb, rfl, hb4⟩; have HB4 := Aside0.mk hb4; clear hb4)
  all_goals
    have HB5 := Aside0.mk (below_step HB3.out (below_step (below_drew1 (Below.refl w3.heap.size w3)) HB4.out))
    have HX5 := Aside0.mk (blk_below HX3.out (below_step (below_drew1 (Below.refl w3.heap.size w3)) HB4.out))
    have HW5 := Aside0.mk (HT.out.whl.below HB5.out)
    clear hgc3 ht0 ht1 HB3 HX3 HW3 HC3 HB4
    have hgc4 : w4.cell? ⟨g, 0, none⟩ = some (.slice A1 (drop46 l key).length c1) := (blk_cell HW5.out.cell 0).trans rfl
    have hgf4 := blk_frozen HW5.out.cell 0
    have ht0 : w4.cell? ⟨tb, 0, none⟩ = some (.int .i64 due) := (blk_cell HX5.out 0).trans rfl
    have ht1 : w4.cell? ⟨tb, 1, none⟩ = some (.int .i64 key) := (blk_cell HX5.out 1).trans rfl
  all_goals
    have BX := below_drew1 (below_alloc (Below.refl w4.heap.size w4) (.cells #[.int .i64 due, .int .i64 key] 46))
    have BW := below_step HB5.out BX
    have hbw : base ≤ w1.heap.size := Nat.le_trans HS.out HT.out.kept.1
    have hbs : base ≤ (w4.alloc (.cells #[.int .i64 due, .int .i64 key] 46)).drew.heap.size := Nat.le_trans hbw BW.size
    have hrw := HW5.out.row.below BX
    have hcw := blk_below HW5.out.cell BX
    have KEY : Calls Try.prog 22 #[.slice A1 (drop46 l key).length c1, .int .i64 ((pos (drop46 l key) ⟨due, key⟩ : Nat) : Int), .slice (some ⟨w4.heap.size, 0, none⟩) 1 1] (w4.alloc (.cells #[.int .i64 due, .int .i64 key] 46)).drew (fun e w' => ∃ v', e = .returned v' ∧ Turn w0 (w4.alloc (.cells #[.int .i64 due, .int .i64 key] 46)).drew base g (.slice A1 (drop46 l key).length c1) v' (ins46 (drop46 l key) ⟨due, key⟩) w') := insert_calls base g (.slice A1 (drop46 l key).length c1) (drop46 l key) w0 _ (Below.grown HT.out.bel (grownBy_below (r := none) BW) hbw (fun k hk => by cases hk)) hbs (blk_lt hcw) hrw (pos (drop46 l key) ⟨due, key⟩) (pos_le _ _) ⟨due, key⟩ w4.heap.size (blk_new w4 _) (fun e => Nat.lt_irrefl _ (own_lt HW5.out.row _ e)) (by have := HL.out; omega)
    have FIN : ∀ (w5 : World) (A5 : Option Addr) (c5 : Nat), Turn w0 (w4.alloc (.cells #[.int .i64 due, .int .i64 key] 46)).drew base g (.slice A1 (drop46 l key).length c1) (.slice A5 (ins46 (drop46 l key) ⟨due, key⟩).length c5) (ins46 (drop46 l key) ⟨due, key⟩) w5 →
        w5.heap[g]? = some (.cells #[.slice A1 (drop46 l key).length c1] 52 (0, 0)) ∧ WTurn w0 w base g v (.slice A5 (ins46 (drop46 l key) ⟨due, key⟩).length c5) (ins46 (drop46 l key) ⟨due, key⟩) (w5.setCell ⟨g, 0, none⟩ (.slice A5 (ins46 (drop46 l key) ⟨due, key⟩).length c5)) := by
      intro w5 A5 c5 t5
      have hc5 := blk_kept hcw t5.kept (fun h => HW5.out.row.ne g h rfl)
      have ho1 : ∀ k, Blk (.slice A1 (drop46 l key).length c1) k → Blk v k ∨ w.heap.size ≤ k := fun k hk => by
        rcases HT.out.own with h | h
        · exact .inl (h.symm.trans hk)
        · exact .inr (h k hk)
      refine ⟨hc5, Whl.store hc5 HW.out.low t5.row, ?_, ?_, ?_⟩
      · exact Below.grown t5.bel (grownBy_set _ g 0 _) (Nat.le_trans hbs t5.kept.1) (fun k hk => by cases hk; exact HW.out.low)
      · refine Kept.setCell (((HT.out.kept.then_ (Kept.of_below BW (fun _ => False)) (fun k hk => hk.elim)).then_ t5.kept (fun k hk => ?_))) (.inl (.inl rfl)) _
        rcases ho1 k hk with h | h
        · exact .inl (.inr h)
        · exact .inr h
      · rcases t5.own with h | h
        · rw [h]
          exact HT.out.own
        · exact .inr (fun k hk => Nat.le_trans (Nat.le_trans HT.out.kept.1 BW.size) (h k hk))
    have HKEY := Aside0.mk KEY
    have HFIN := Aside0.mk FIN
    clear KEY FIN hcw hrw hbs hbw BW BX
    have hgn1 : ¬ (g = w4.heap.size) := Nat.ne_of_lt (blk_lt HW5.out.cell)
    have hgn2 : ¬ (w4.heap.size = g) := fun e => hgn1 e.symm
    have hgn3 : g < w4.heap.size := blk_lt HW5.out.cell
    have htn3 : tb < w4.heap.size := blk_lt HX5.out
    go_wp2_with fail
    go_region_with (go_at_call 22; refine HKEY.out.mono ?_; rintro e w5 ⟨v5, rfl, ht5⟩; obtain ⟨A5, c5, rfl, _, _⟩ := ht5.row.len; obtain ⟨hc5, hw5⟩ := HFIN.out w5 A5 c5 ht5; have hgc5 : w5.cell? ⟨g, 0, none⟩ = some (.slice A1 (drop46 l key).length c1) := (blk_cell hc5 0).trans rfl; have hgf5 := blk_frozen hc5 0; have HW6 := Aside0.mk hw5; clear hc5 hw5 ht5)
  all_goals (go_wp2; go_ret; exact ⟨rfl, _, HW6.out⟩)
end Go.Proofs.Ytpcmleeiaffkeaa.QWhl
namespace Go.Proofs.Ytpcmleeiaffkeaa.QWhl
open Go.RowKit Go.Proofs.YtpcmleeiaffkeaaW.PrintWords Go.Proofs.YtpcmleeiaffkeaaW.PrintLast Go.Proofs.YtpcmleeiaffkeaaW.PrintMore
set_option linter.unusedVariables false
set_option linter.unusedSimpArgs false
theorem WTurn.refl {w0 w : World} {base g : Nat} {v : Value} {l : List S46} (hB : Below base w0 w) (hw : Whl w base g v l) : WTurn w0 w base g v v l w := ⟨hw, hB, Kept.refl _ _, .inl rfl⟩
set_option maxHeartbeats 4000000 in
theorem set_neg (g : Nat) (w : World) (key due : Int) (hd : due < 0) :
    Calls Try.prog 11 #[.pointer (some ⟨g, 0, none⟩), .int .i64 key, .int .i64 due] w fun e w' => e = .returned (.int .i64 1) ∧ w' = w := by
  go_enter Try.func11, Try.ntmps11
  go_wp2
  go_ret
  exact ⟨rfl, rfl⟩
theorem set_calls (base g : Nat) (v : Value) (l : List S46) (w0 w : World) (hB : Below base w0 w) (hb : base ≤ w.heap.size) (hw : Whl w base g v l) (hs : l.Pairwise lx) (hlen : l.length ≤ 1000000) (key due : Int) :
    Calls Try.prog 11 #[.pointer (some ⟨g, 0, none⟩), .int .i64 key, .int .i64 due] w fun e w' => e = .returned (.int .i64 (if due < 0 then 1 else 0)) ∧ ∃ v', WTurn w0 w base g v v' (setf l key due) w' := by
  by_cases hd : due < 0
  · refine (set_neg g w key due hd).mono ?_
    rintro e w' ⟨rfl, rfl⟩
    rw [setf, if_pos hd, if_pos hd]
    exact ⟨rfl, v, WTurn.refl hB hw⟩
  · rw [setf, if_neg hd, if_neg hd]
    exact set_pos base g v l w0 w hB hb hw hs hlen key due hd
set_option maxHeartbeats 4000000 in
theorem new_calls (base : Nat) (w : World) (hb : base ≤ w.heap.size) :
    Calls Try.prog 10 #[] w fun e w' => ∃ g, e = .returned (.pointer (some ⟨g, 0, none⟩)) ∧ Whl w' base g (.slice none 0 0) [] ∧ Below w.heap.size w w' ∧ w.heap.size ≤ g := by
  have HS := Aside0.mk hb
  clear hb
  go_enter Try.func10, Try.ntmps10
  go_wp2_with ((with_reducible refine gate_dst (N := 2) rfl ?_); refine box_event ?hg (N := 2) ?hd (cs := #[.slice none 0 0]) (t := 52) ?hr ?_; (case hd => rfl); (case hg => rfl); (case hr => first | (go_simp; done) | (go_simp; rfl)); intro g hg w1 hbox hb1; have HX := Aside0.mk hbox; have HB1 := Aside0.mk hb1; have HG := Aside0.mk hg; clear hbox hb1 hg)
  go_ret
  exact ⟨g, rfl, ⟨HX.out, Nat.le_trans HS.out (Nat.le_of_eq HG.out.symm), Kd.R_nil _ _ _ _ _⟩, HB1.out, Nat.le_of_eq HG.out.symm⟩
structure WRead (w : World) (g : Nat) (A : Option Addr) (c : Nat) (l : List S46) : Prop where
  cell : w.heap[g]? = some (.cells #[.slice A l.length c] 52 (0, 0))
  row : Kd.C k46 w A l.length l
  fits : l.length ≤ c
  ne : ∀ ad, A = some ad → ad.block ≠ g
theorem Whl.read {w : World} {base g : Nat} {v : Value} {l : List S46} (h : Whl w base g v l) : ∃ A c, v = .slice A l.length c ∧ WRead w g A c l := by
  rcases Row.ofR h.row with ⟨rfl, rfl⟩ | ⟨b, cap, rfl, hok, hb, hm, hr⟩
  · exact ⟨none, 0, rfl, h.cell, Kd.C_nil _ _, Nat.le_refl _, fun _ h => by cases h⟩
  · exact ⟨_, _, rfl, h.cell, (Kd.R_reads' h.row).2.2, hr.fits, fun ad e => by cases e; exact hok⟩
theorem WRead.below {w W : World} {g c : Nat} {A : Option Addr} {l : List S46} (h : WRead w g A c l) (hb : Below w.heap.size w W) : WRead W g A c l := ⟨blk_below h.cell hb, Kd.C_below h.row hb, h.fits, h.ne⟩
def dueOf (l : List S46) (key : Int) : Int := if ixKey l key = -1 then -1 else (rd_T46 l (ixKey l key)).f0
set_option maxHeartbeats 4000000 in
set_option maxRecDepth 100000 in
theorem due_calls (g c : Nat) (A : Option Addr) (l : List S46) (w : World) (hw : WRead w g A c l) (key : Int) :
    Calls Try.prog 17 #[.pointer (some ⟨g, 0, none⟩), .int .i64 key] w fun e w' => e = .returned (.int .i64 (dueOf l key)) ∧ Below w.heap.size w w' := by
  have eg : ∀ args w, (callFunc 25 args).run Try.prog w = .ok (.enter 25 args) w := enters_of Try.func25 (by kernel_rfl) rfl
  have e24 : ∀ args w, (callFunc 24 args).run Try.prog w = .ok (.enter 24 args) w := enters_of Try.func24 (by kernel_rfl) rfl
  have HW := Aside0.mk hw
  clear hw
  rcases ixKey_cases l key with ⟨e, hall⟩ | ⟨j, e, hj, hkey, _⟩
  · have hdue : dueOf l key = -1 := by unfold dueOf; rw [if_pos e]
    rw [hdue]
    go_enter Try.func17, Try.ntmps17
    go_wp2_with (first | ((with_reducible refine gate_dst (N := 3) rfl ?_); refine box_event ?hg (N := 3) ?hd (cs := #[.int .i64 key]) (t := 3) ?hr ?_; (case hd => rfl); (case hg => rfl); (case hr => first | (go_simp; done) | (go_simp; rfl)); intro kb hg w1 hbox hb1; have hgc : w1.cell? ⟨g, 0, none⟩ = some (.slice A l.length c) := (blk_cell (blk_below HW.out.cell hb1) 0).trans rfl; have HX := Aside0.mk hbox; have HB1 := Aside0.mk hb1; clear hbox hb1 hg) | (go_at_fn 24; refine (index_calls 25 kb key (pred25 kb key) eg A c l w1 HX.out (HW.out.below HB1.out).row).mono ?_; rintro e2 w2 ⟨rfl, hb2⟩; rw [e]; have HB2 := Aside0.mk (below_step HB1.out hb2); clear hb2))
    go_ret
    exact ⟨rfl, HB2.out⟩
  · have hdue : dueOf l key = l[j].f0 := by unfold dueOf; rw [if_neg (by omega), e, rd46 hj]
    rw [hdue]
    have hjl : (j : Int) < (l.length : Int) := by omega
    go_enter Try.func17, Try.ntmps17
    go_wp2_with (first | ((with_reducible refine gate_dst (N := 3) rfl ?_); refine box_event ?hg (N := 3) ?hd (cs := #[.int .i64 key]) (t := 3) ?hr ?_; (case hd => rfl); (case hg => rfl); (case hr => first | (go_simp; done) | (go_simp; rfl)); intro kb hg w1 hbox hb1; have hgc : w1.cell? ⟨g, 0, none⟩ = some (.slice A l.length c) := (blk_cell (blk_below HW.out.cell hb1) 0).trans rfl; have HX := Aside0.mk hbox; have HB1 := Aside0.mk hb1; clear hbox hb1 hg) | (go_at_fn 24; refine (index_calls 25 kb key (pred25 kb key) eg A c l w1 HX.out (HW.out.below HB1.out).row).mono ?_; rintro e2 w2 ⟨rfl, hb2⟩; rw [e]; have hW2 := HW.out.below (below_step HB1.out hb2); have hgc2 : w2.cell? ⟨g, 0, none⟩ = some (.slice A l.length c) := (blk_cell hW2.cell 0).trans rfl; obtain ⟨ad, ea, hx0, hx1⟩ := at_T46 hW2.row (j : Int) (by omega) hjl; rw [rd46 hj, Int.toNat_natCast] at hx0 hx1; subst ea; have HB2 := Aside0.mk (below_step HB1.out hb2); clear hb2 hW2))
    go_ret
    exact ⟨rfl, HB2.out⟩
set_option maxHeartbeats 8000000 in
set_option maxRecDepth 100000 in
theorem clone_calls (A : Option Addr) (c : Nat) (l : List S46) (w : World) (hr : Kd.C k46 w A l.length l) (hc : l.length ≤ c) (hl : l.length < 4398046511104) :
    Calls Try.prog 23 #[.slice A l.length c] w fun e w' => ∃ v, e = .returned v ∧ Kd.R k46 46 w' w.heap.size (fun _ => True) v l ∧ Below w.heap.size w w' := by
  have q22 : ∀ (w : World) (a : Option Addr) (n c n' c' : Nat), (binOp .eql 42 (.slice a n c) (.slice none n' c')).run Try.prog w = .ok (.bool a.isNone) w := fun w a n c n' c' => Go.Lib.run_eql_slice_nil w _ _ a n c n' c' Try.underlying42
  cases A with
  | none =>
    have h0 : l.length = 0 := by
      rcases Nat.eq_zero_or_pos l.length with h0 | h0
      · exact h0
      · obtain ⟨_, e, _⟩ := hr.2.2 h0; cases e
    obtain rfl := List.length_eq_zero_iff.1 h0
    go_enter Try.func23, Try.ntmps23
    go_wp2
    go_ret
    exact ⟨_, rfl, Kd.R_nil _ _ _ _ _, Below.refl _ _⟩
  | some ad =>
    have HR := Aside0.mk hr
    have HL := Aside0.mk hl
    clear hr hl
    go_enter Try.func23, Try.ntmps23
    go_wp2_with (first
      | ((with_reducible refine gate_dst (N := 5) rfl ?_); refine Kd.R_lit k46 w.heap.size 46 ?hg (N := 5) ?hd (xs := ([] : List S46)) (inner := []) (ok := fun _ => True) (okp := fun _ => True) (w0 := w) ?hr ?hp (fun _ hk => hk) trivial (by repeat (first | exact Below.refl _ _ | apply below_alloc | apply pw_below_drewN | apply below_drew1)) (Nat.le_refl _) (by simp) ?_; (case hd => rfl); (case hg => rfl); (case hr => first | (go_simp; done) | (go_simp; rfl)); (case hp => exact Reps.none _ _); intro v1 w1 ho1 hb1 hg1 hn1; have HO1 := Aside0.mk ho1; have HB1 := Aside0.mk hb1; clear ho1 hb1 hg1 hn1)
      | ((with_reducible refine gate_builtin (b := .append) (xs := #[.tmp 5, .tmp 6]) rfl ?_); at_builtin; refine Kd.R_append_rows k46 (w0 := w) w.heap.size rfl (.tmp 5) (.tmp 6) 42 46 (.agg #[(.int .i64 0), (.int .i64 0)]) 16 rfl Try.underlying42 info46 rfl (by decide) (by omega) v1 ([] : List S46) l (some ad) _ _ (fun _ => True) (fun _ => False) rfl rfl ?aO ?aR (fun _ _ h => h) (fun _ h => h.elim) ?aF ?aB ?aS ?aL ?_; (case aR => exact Kd.C_below HR.out (by repeat (first | exact HB1.out | apply below_alloc | apply pw_below_drewN | apply below_drew1))); (case aB => exact (by repeat (first | exact HB1.out | apply below_alloc | apply pw_below_drewN | apply below_drew1))); (case aF => exact (fun _ _ => trivial)); (case aO => exact (by (with_reducible repeat (first | apply Kd.R_alloc | apply Kd.R_drewN | apply Kd.R_drew)); exact HO1.out)); (case aS => exact (below_size (by repeat (first | exact HB1.out | apply below_alloc | apply pw_below_drewN | apply below_drew1)))); (case aL => have := HL.out; simp only [List.length_nil]; omega); intro v2 w2 ho2 hb2 hg2 hat; have HO2 := Aside0.mk ho2; have HB2 := Aside0.mk hb2; clear ho2 hb2 hg2 hat))
    go_ret
    exact ⟨v2, rfl, (by (with_reducible repeat (first | apply Kd.R_alloc | apply Kd.R_drewN | apply Kd.R_drew)); exact HO2.out), by repeat (first | exact HB2.out | apply below_alloc | apply pw_below_drewN | apply below_drew1)⟩
set_option maxHeartbeats 4000000 in
theorem all_calls (g c : Nat) (A : Option Addr) (l : List S46) (w : World) (hw : WRead w g A c l) (hl : l.length < 4398046511104) :
    Calls Try.prog 16 #[.pointer (some ⟨g, 0, none⟩)] w fun e w' => ∃ v, e = .returned v ∧ Kd.R k46 46 w' w.heap.size (fun _ => True) v l ∧ Below w.heap.size w w' := by
  have e23 : ∀ args w, (callFunc 23 args).run Try.prog w = .ok (.enter 23 args) w := enters_of Try.func23 (by kernel_rfl) rfl
  have hgc : w.cell? ⟨g, 0, none⟩ = some (.slice A l.length c) := (blk_cell hw.cell 0).trans rfl
  have HK := Aside0.mk (clone_calls A c l w hw.row hw.fits hl)
  clear hw
  go_enter Try.func16, Try.ntmps16
  go_wp2_with (go_at_fn 23; refine HK.out.mono ?_; rintro e w2 ⟨v, rfl, hr, hb⟩; have HR := Aside0.mk hr; have HB := Aside0.mk hb; clear hr hb)
  go_ret
  exact ⟨_, rfl, HR.out, HB.out⟩
end Go.Proofs.Ytpcmleeiaffkeaa.QWhl
namespace Go.Proofs.Ytpcmleeiaffkeaa.QWhl
open Go.RowKit Go.Proofs.YtpcmleeiaffkeaaW.PrintWords Go.Proofs.YtpcmleeiaffkeaaW.PrintLast Go.Proofs.YtpcmleeiaffkeaaW.PrintMore
set_option linter.unusedVariables false
set_option linter.unusedSimpArgs false
theorem add_block (a : Addr) (n : Nat) : (a.add n).block = a.block := by unfold Addr.add; split <;> rfl
theorem C46_kept {w W : World} {A : Option Addr} {n : Nat} {xs : List S46} {S : Nat → Prop} (h : Kd.C k46 w A n xs) (hk : Kept w W S) (hn : ∀ ad, A = some ad → ¬ S ad.block) : Kd.C k46 W A n xs := by
  refine ⟨h.1, h.2.1, fun h0 => ?_⟩
  obtain ⟨ad, e, hc⟩ := h.2.2 h0
  refine ⟨ad, e, fun j p hp => ?_⟩
  obtain ⟨cs, h1, h2, h3⟩ := hc j p hp
  refine ⟨cs, h1, ?_, fun q u hq => cell_kept (h3 q u hq) hk (by rw [add_block]; exact hn ad e)⟩
  rw [k46_open h2]
  exact k46_mk W p
def dueBy (now : Int) (x : S46) : Bool := decide (x.f0 ≤ now)
structure PopR (N : Nat → Prop) (w0 w : World) (base g : Nat) (l : List S46) (now : Int) (v : Value) (W : World) : Prop where
  out : Kd.R (Kd.int .i64) 3 W w.heap.size (fun _ => True) v ((l.takeWhile (dueBy now)).map (·.f1))
  left : ∃ A' c', WRead W g A' c' (l.dropWhile (dueBy now)) ∧ ∀ ad, A' = some ad → N ad.block
  bel : Below base w0 W
  kept : Kept w W (fun k => k = g)
set_option maxHeartbeats 8000000 in
set_option maxRecDepth 100000 in
theorem pop_calls (N : Nat → Prop) (base g c : Nat) (A : Option Addr) (l : List S46) (w0 w : World) (hB : Below base w0 w) (hb : base ≤ w.heap.size) (hw : WRead w g A c l) (hlo : base ≤ g) (hlen : l.length ≤ 1000000) (now : Int) (hNg : ∀ k, N k → k ≠ g) (hN : ∀ ad, A = some ad → N ad.block) :
    Calls Try.prog 13 #[.pointer (some ⟨g, 0, none⟩), .int .i64 now] w fun e w' => ∃ v, e = .returned v ∧ PopR N w0 w base g l now v w' := by
  have HG := Aside0.mk (blk_lt hw.cell)
  have HB := Aside0.mk hB
  have HS := Aside0.mk hb
  have HLO := Aside0.mk hlo
  have HW := Aside0.mk hw
  have HN := Aside0.mk hN
  have HNG := Aside0.mk hNg
  clear hB hb hw hlo hN hNg
  go_enter Try.func13, Try.ntmps13
  go_wp2
  go_loopg [5] l.length (fun gk s5 wr => ∃ (k : Nat) (A' : Option Addr) (c' : Nat), k ≤ l.length ∧ l.length - k ≤ gk ∧ Aside0 (Kd.R (Kd.int .i64) 3 wr w.heap.size (fun q => q ≠ g) s5 ((l.take k).map (·.f1))) ∧ Aside0 (wr.heap[g]? = some (.cells #[.slice A' (l.length - k) c'] 52 (0, 0))) ∧
    Aside0 (Kd.C k46 w A' (l.drop k).length (l.drop k)) ∧ Aside0 ((l.drop k).length ≤ c' ∧ ∀ ad, A' = some ad → N ad.block) ∧ Aside0 (∀ i, (hi : i < l.length) → i < k → l[i].f0 ≤ now) ∧ Aside0 (Below base w0 wr) ∧ Aside0 (Kept w wr (fun k => k = g)))
  case atStart => exact ⟨0, A, c, Nat.zero_le _, by omega, ⟨Kd.R_nil _ _ _ _ _⟩, ⟨by simpa using HW.out.cell⟩, ⟨by simpa using HW.out.row⟩, ⟨by simpa using HW.out.fits, HN.out⟩, ⟨fun i hi h => absurd h (Nat.not_lt_zero _)⟩, HB, ⟨Kept.refl _ _⟩⟩
  case round =>
    obtain ⟨k, A', c', hkl, hgk, HO, HC, HR, HF, HA, HB1, HK⟩ := hrel
    have FIN : (∀ (hk : k < l.length), ¬ l[k].f0 ≤ now) → Kd.R (Kd.int .i64) 3 wr w.heap.size (fun _ => True) u5 ((l.takeWhile (dueBy now)).map (·.f1)) ∧ (WRead wr g A' c' (l.dropWhile (dueBy now)) ∧ ∀ ad, A' = some ad → N ad.block) := by
      intro hstop
      have ht : l.takeWhile (dueBy now) = l.take k ∧ l.dropWhile (dueBy now) = l.drop k := by
        have hall : ∀ x ∈ l.take k, dueBy now x = true := fun x hx => by
          obtain ⟨i, hi, rfl⟩ := List.getElem_of_mem hx
          rw [List.getElem_take]
          exact decide_eq_true (HA.out i (by simp at hi; omega) (by simp at hi; omega))
        have e : l = l.take k ++ l.drop k := (List.take_append_drop k l).symm
        have hd : (l.drop k).takeWhile (dueBy now) = [] ∧ (l.drop k).dropWhile (dueBy now) = l.drop k := by
          by_cases h : k < l.length
          · rw [List.drop_eq_getElem_cons h, List.takeWhile_cons, List.dropWhile_cons]
            have : dueBy now l[k] = false := decide_eq_false (hstop h)
            rw [this]; exact ⟨rfl, rfl⟩
          · rw [List.drop_of_length_le (by omega)]; exact ⟨rfl, rfl⟩
        constructor
        · conv => lhs; rw [e]
          rw [List.takeWhile_append_of_pos hall, hd.1, List.append_nil]
        · conv => lhs; rw [e]
          rw [List.dropWhile_append_of_pos hall, hd.2]
      rw [ht.1, ht.2]
      exact ⟨Kd.R_mono HO.out (fun _ _ => trivial), ⟨by rw [List.length_drop]; exact HC.out, C46_kept HR.out HK.out (fun ad e => HNG.out _ (HF.out.2 ad e)), HF.out.1, fun ad e => HNG.out _ (HF.out.2 ad e)⟩, HF.out.2⟩
    have HFIN := Aside0.mk FIN
    clear FIN
    by_cases hlt : k < l.length
    · obtain ⟨m, hm⟩ : ∃ m, l.length - k = m + 1 := ⟨l.length - k - 1, by omega⟩
      obtain ⟨ad, e, hx0, hx1⟩ := at_T46 (C46_kept HR.out HK.out (fun ad e => HNG.out _ (HF.out.2 ad e))) (0 : Int) (by omega) (by rw [List.length_drop]; omega)
      have er : rd_T46 (l.drop k) 0 = l[k] := by rw [List.drop_eq_getElem_cons hlt]; rfl
      have ea0 : ad.add ((0 : Int).toNat * 2) = ad := by cases ad; unfold Addr.add; split <;> simp_all
      rw [er, ea0] at hx0 hx1
      subst e
      have hgc : wr.cell? ⟨g, 0, none⟩ = some (.slice (some ad) (m + 1) c') := by rw [← hm]; exact (blk_cell HC.out 0).trans rfl
      have hgf := blk_frozen HC.out 0
      have hmz : (0 : Int) < ((m + 1 : Nat) : Int) := by omega
      by_cases hdue : l[k].f0 ≤ now
      · have hgs : g < w.heap.size := HG.out
        have hR2 : Kd.C k46 w (if c' = 1 then some ad else some ⟨ad.block, ad.off + 2, none⟩) (l.drop (k + 1)).length (l.drop (k + 1)) := by
          have h := Kd.C_drop (m := 1) (c := c') HR.out (by rw [List.length_drop]; omega) HF.out.1
          rw [List.drop_drop] at h
          have hadd : ad.add 2 = ⟨ad.block, ad.off + 2, none⟩ := by unfold Addr.add; split <;> simp_all
          rw [← hadd]
          exact h
        have hF2 : (l.drop (k + 1)).length ≤ c' - 1 ∧ ∀ a, (if c' = 1 then some ad else some ⟨ad.block, ad.off + 2, none⟩) = some a → N a.block := by
          have h1 := HF.out.1
          rw [List.length_drop] at h1
          refine ⟨by rw [List.length_drop]; omega, fun a ha => ?_⟩
          have h2 := HF.out.2 ad rfl
          split at ha
          · cases ha; exact h2
          · cases ha; exact h2
        have hA2 : ∀ i, (hi : i < l.length) → i < k + 1 → l[i].f0 ≤ now := fun i hi h => by
          by_cases e : i = k
          · subst e; exact hdue
          · exact HA.out i hi (by omega)
        have hm2 : l.length - (k + 1) = m := by omega
        have HR2 := Aside0.mk hR2
        have HF2 := Aside0.mk hF2
        have HA2 := Aside0.mk hA2
        have HM2 := Aside0.mk hm2
        clear hR2 hF2 hA2 hm2 HFIN
        have hcc : 1 ≤ c' := by have := HF.out.1; rw [List.length_drop] at this; omega
        have REL : ∀ (w2 : World) (v2 x : Value), Below w.heap.size wr w2 → Kd.R (Kd.int .i64) 3 w2 w.heap.size (fun q => q ≠ g) v2 ((l.take k).map (·.f1) ++ [l[k].f1]) → w2.heap[g]? = some (.cells #[.slice (some ad) (m + 1) c'] 52 (0, 0)) →
            Kd.R (Kd.int .i64) 3 (w2.setCell ⟨g, 0, none⟩ x) w.heap.size (fun q => q ≠ g) v2 ((l.take (k + 1)).map (·.f1)) ∧ (w2.setCell ⟨g, 0, none⟩ x).heap[g]? = some (.cells #[x] 52 (0, 0)) ∧ Below base w0 (w2.setCell ⟨g, 0, none⟩ x) ∧ Kept w (w2.setCell ⟨g, 0, none⟩ x) (fun k => k = g) := by
          intro w2 v2 x hb2 ho2 hc2
          have e : (l.take (k + 1)).map (·.f1) = (l.take k).map (·.f1) ++ [l[k].f1] := by rw [List.take_succ_eq_append_getElem hlt, List.map_append]; rfl
          have hb3 : Below base wr w2 := ⟨hb2.os, hb2.tape, hb2.output, hb2.size, fun q hq => hb2.block q (Nat.lt_of_lt_of_le hq HS.out)⟩
          refine ⟨?_, blk_put hc2 0 x rfl, ?_, ?_⟩
          · rw [e]; exact Kd.R_far (p := ⟨g, 0, none⟩) ho2 (fun q hq => hq) x
          · exact Below.grown (Below.trans HB1.out hb3) (grownBy_set _ g 0 x) (Nat.le_trans HS.out (Nat.le_trans HK.out.1 hb2.size)) (fun q hq => by cases hq; exact HLO.out)
          · refine Kept.setCell (HK.out.then_ (S2 := fun q => w.heap.size ≤ q) ⟨hb2.size, fun q hq hn => hb2.block q (by omega)⟩ (fun q hq => .inr hq)) (.inl rfl) x
        have HREL := Aside0.mk REL
        clear REL
        by_cases hc1 : c' = 1
        all_goals
          go_wp2_with ((with_reducible refine gate_builtin (b := .append) (xs := #[.tmp 25, .tmp 33]) rfl ?_); at_builtin; refine Kd.R_append (Kd.int .i64) (w0 := wr) w.heap.size rfl (.tmp 25) (.tmp 33) 22 3 (.int .i64 0) 8 rfl Try.underlying22 info3 rfl (by decide) (by omega) u5 ((l.take k).map (·.f1)) l[k].f1 [.int .i64 l[k].f1] (fun q => q ≠ g) (fun _ => False) rfl rfl ?aP (fun _ hk => hk.elim) ?aF ?aO ?aB ?aS ?aL ?_; (case aP => exact rfl); (case aB => repeat (first | exact Below.refl _ _ | apply below_alloc | apply pw_below_drewN | apply below_drew1)); (case aF => intro q hq e; subst e; exact absurd (Nat.le_trans HK.out.1 hq) (Nat.not_le_of_lt HG.out)); (case aO => exact (by (with_reducible repeat (first | apply Kd.R_alloc | apply Kd.R_drewN | apply Kd.R_drew)); exact HO.out)); (case aS => exact HK.out.1); (case aL => simp only [List.length_map, List.length_take]; omega); intro v2 w2 ho2 hb2 hg2 hat; have hc2 : w2.heap[g]? = some (.cells #[.slice (some ad) (m + 1) c'] 52 (0, 0)) := (hb2.block g HG.out).trans (by rw [← hm]; exact HC.out); have hgc2 : w2.cell? ⟨g, 0, none⟩ = some (.slice (some ad) (m + 1) c') := (blk_cell hc2 0).trans rfl; have hgf2 := blk_frozen hc2 0; have HO2 := Aside0.mk ho2; have HB2 := Aside0.mk hb2; have HC2 := Aside0.mk hc2; clear ho2 hb2 hg2 hat hc2)
          go_roundg (l.length - (k + 1))
          case measure => omega
          case rel =>
            obtain ⟨q1, q2, q3, q4⟩ := HREL.out w2 v2 _ HB2.out HO2.out HC2.out
            have q5 := HR2.out
            have q6 := HF2.out
            first
              | (rw [if_pos hc1, hc1] at q6; rw [if_pos hc1] at q5; exact ⟨k + 1, _, _, by omega, Nat.le_refl _, ⟨q1⟩, ⟨by rw [HM2.out]; exact q2⟩, ⟨q5⟩, ⟨q6⟩, ⟨HA2.out⟩, ⟨q3⟩, ⟨q4⟩⟩)
              | (rw [if_neg hc1] at q5 q6; exact ⟨k + 1, _, _, by omega, Nat.le_refl _, ⟨q1⟩, ⟨by rw [HM2.out]; exact q2⟩, ⟨q5⟩, ⟨q6⟩, ⟨HA2.out⟩, ⟨q3⟩, ⟨q4⟩⟩)
      · go_wp2
        go_ret
        obtain ⟨h1, h2⟩ := HFIN.out (fun h => hdue)
        exact ⟨_, rfl, h1, ⟨_, _, h2⟩, HB1.out, HK.out⟩
    · have e : k = l.length := by omega
      subst e
      have hgc : wr.cell? ⟨g, 0, none⟩ = some (.slice A' 0 c') := by have := (blk_cell HC.out 0).trans rfl; rwa [Nat.sub_self] at this
      go_wp2
      go_ret
      obtain ⟨h1, h2⟩ := HFIN.out (fun h => absurd h (by omega))
      exact ⟨_, rfl, h1, ⟨_, _, h2⟩, HB1.out, HK.out⟩
end Go.Proofs.Ytpcmleeiaffkeaa.QWhl
namespace Go.Proofs.Ytpcmleeiaffkeaa.QWhl
open Go.RowKit Go.Proofs.YtpcmleeiaffkeaaW.PrintWords Go.Proofs.YtpcmleeiaffkeaaW.PrintLast Go.Proofs.YtpcmleeiaffkeaaW.PrintMore
set_option linter.unusedVariables false
set_option linter.unusedSimpArgs false
set_option maxHeartbeats 8000000 in
set_option maxRecDepth 100000 in
theorem cloneI_calls (A : Option Addr) (c : Nat) (l : List Int) (w : World) (hr : Kd.C (Kd.int .i64) w A l.length l) (hc : l.length ≤ c) (hl : l.length < 4398046511104) :
    Calls Try.prog 18 #[.slice A l.length c] w fun e w' => ∃ v, e = .returned v ∧ Kd.R (Kd.int .i64) 3 w' w.heap.size (fun _ => True) v l ∧ Below w.heap.size w w' := by
  have q22 : ∀ (w : World) (a : Option Addr) (n c n' c' : Nat), (binOp .eql 22 (.slice a n c) (.slice none n' c')).run Try.prog w = .ok (.bool a.isNone) w := fun w a n c n' c' => Go.Lib.run_eql_slice_nil w _ _ a n c n' c' Try.underlying22
  cases A with
  | none =>
    have h0 : l.length = 0 := by
      rcases Nat.eq_zero_or_pos l.length with h0 | h0
      · exact h0
      · obtain ⟨_, e, _⟩ := hr.2.2 h0; cases e
    obtain rfl := List.length_eq_zero_iff.1 h0
    go_enter Try.func18, Try.ntmps18
    go_wp2
    go_ret
    exact ⟨_, rfl, Kd.R_nil _ _ _ _ _, Below.refl _ _⟩
  | some ad =>
    have HR := Aside0.mk hr
    have HL := Aside0.mk hl
    clear hr hl
    go_enter Try.func18, Try.ntmps18
    go_wp2_with (first
      | ((with_reducible refine gate_dst (N := 5) rfl ?_); refine Kd.R_lit (Kd.int .i64) w.heap.size 3 ?hg (N := 5) ?hd (xs := ([] : List Int)) (inner := []) (ok := fun _ => True) (okp := fun _ => True) (w0 := w) ?hr ?hp (fun _ hk => hk) trivial (by repeat (first | exact Below.refl _ _ | apply below_alloc | apply pw_below_drewN | apply below_drew1)) (Nat.le_refl _) (by simp) ?_; (case hd => rfl); (case hg => rfl); (case hr => first | (go_simp; done) | (go_simp; rfl)); (case hp => exact Reps.none _ _); intro v1 w1 ho1 hb1 hg1 hn1; have HO1 := Aside0.mk ho1; have HB1 := Aside0.mk hb1; clear ho1 hb1 hg1 hn1)
      | ((with_reducible refine gate_builtin (b := .append) (xs := #[.tmp 5, .tmp 6]) rfl ?_); at_builtin; refine Kd.R_append_rows (Kd.int .i64) (w0 := w) w.heap.size rfl (.tmp 5) (.tmp 6) 22 3 (.int .i64 0) 8 rfl Try.underlying22 info3 rfl (by decide) (by omega) v1 ([] : List Int) l (some ad) _ _ (fun _ => True) (fun _ => False) rfl rfl ?aO ?aR (fun _ _ h => h) (fun _ h => h.elim) ?aF ?aB ?aS ?aL ?_; (case aR => exact Kd.C_below HR.out (by repeat (first | exact HB1.out | apply below_alloc | apply pw_below_drewN | apply below_drew1))); (case aB => exact (by repeat (first | exact HB1.out | apply below_alloc | apply pw_below_drewN | apply below_drew1))); (case aF => exact (fun _ _ => trivial)); (case aO => exact (by (with_reducible repeat (first | apply Kd.R_alloc | apply Kd.R_drewN | apply Kd.R_drew)); exact HO1.out)); (case aS => exact (below_size (by repeat (first | exact HB1.out | apply below_alloc | apply pw_below_drewN | apply below_drew1)))); (case aL => have := HL.out; simp only [List.length_nil]; omega); intro v2 w2 ho2 hb2 hg2 hat; have HO2 := Aside0.mk ho2; have HB2 := Aside0.mk hb2; clear ho2 hb2 hg2 hat))
    go_ret
    exact ⟨v2, rfl, (by (with_reducible repeat (first | apply Kd.R_alloc | apply Kd.R_drewN | apply Kd.R_drew)); exact HO2.out), by repeat (first | exact HB2.out | apply below_alloc | apply pw_below_drewN | apply below_drew1)⟩
structure Drw (w : World) (d : Nat) (A : Option Addr) (c : Nat) (l : List Int) (at_ : Nat) : Prop where
  cell : w.heap[d]? = some (.cells #[.slice A l.length c, .int .i64 (at_ : Int)] 50 (0, 0))
  row : Kd.C (Kd.int .i64) w A l.length l
  lt : l.length ≠ 0 → at_ < l.length
  ne : ∀ ad, A = some ad → ad.block ≠ d
theorem Drw.below {w W : World} {d c at_ : Nat} {A : Option Addr} {l : List Int} (h : Drw w d A c l at_) (hb : Below w.heap.size w W) : Drw W d A c l at_ := ⟨blk_below h.cell hb, Kd.C_below h.row hb, h.lt, h.ne⟩
set_option maxHeartbeats 4000000 in
theorem draw_calls (A : Option Addr) (c : Nat) (l : List Int) (w : World) (hr : Kd.C (Kd.int .i64) w A l.length l) (hc : l.length ≤ c) (hl : l.length < 4398046511104) :
    Calls Try.prog 7 #[.slice A l.length c] w fun e w' => ∃ d, e = .returned (.pointer (some ⟨d, 0, none⟩)) ∧ (∃ A' c', Drw w' d A' c' l 0) ∧ w.heap.size ≤ d ∧ Below w.heap.size w w' := by
  have e18 : ∀ args w, (callFunc 18 args).run Try.prog w = .ok (.enter 18 args) w := enters_of Try.func18 (by kernel_rfl) rfl
  have HK := Aside0.mk (cloneI_calls A c l w hr hc hl)
  clear hr hc hl
  go_enter Try.func7, Try.ntmps7
  go_wp2_with (first | (go_at_fn 18; refine HK.out.mono ?_; rintro e w1 ⟨v, rfl, hr, hb⟩; have hbl := Kd.R_lt hr; obtain ⟨A1, c1, rfl⟩ := Kd.R_slice hr; have HBL := Aside0.mk hbl; have HC := Aside0.mk (Kd.R_reads' hr).2.2; have HB := Aside0.mk hb; clear hr hb hbl) | ((with_reducible refine gate_dst (N := 6) rfl ?_); refine box_event ?hg (N := 6) ?hd (cs := #[.slice A1 l.length c1, .int .i64 0]) (t := 50) ?hr ?_; (case hd => rfl); (case hg => rfl); (case hr => first | (go_simp; done) | (go_simp; rfl)); intro d hg w2 hbox hb2; have HX := Aside0.mk hbox; have HB2 := Aside0.mk hb2; have HG := Aside0.mk hg; clear hbox hb2 hg))
  go_ret
  refine ⟨d, rfl, ⟨A1, c1, HX.out, Kd.C_below HC.out HB2.out, fun h => Nat.pos_of_ne_zero h, fun ad e => ?_⟩, ?_, below_step HB.out HB2.out⟩
  · subst e
    have h1 := HBL.out ad.block rfl
    have h2 := HG.out
    omega
  · have h1 := HB.out.size
    have h2 := HG.out
    omega
set_option maxHeartbeats 4000000 in
set_option maxRecDepth 100000 in
theorem next_none (base : Nat) (d c at_ : Nat) (A : Option Addr) (l : List Int) (w : World) (hd : Drw w d A c l at_) (b : Int) (h : l.length = 0 ∨ b < 1) :
    Calls Try.prog 8 #[.pointer (some ⟨d, 0, none⟩), .int .i64 b] w fun e w' => e = .returned (.int .i64 0) ∧ w' = w := by
  have hg0 : w.cell? ⟨d, 0, none⟩ = some (.slice A l.length c) := (blk_cell hd.cell 0).trans rfl
  by_cases h0 : l.length = 0
  · have h0z : ((l.length : Nat) : Int) = 0 := by omega
    rw [h0] at hg0
    go_enter Try.func8, Try.ntmps8
    go_wp2
    go_ret
    exact ⟨rfl, rfl⟩
  · have h0z : ¬ ((l.length : Nat) : Int) = 0 := by omega
    have hb : b < 1 := by rcases h with h | h; exact absurd h h0; exact h
    go_enter Try.func8, Try.ntmps8
    go_wp2
    go_ret
    exact ⟨rfl, rfl⟩
theorem CI_kept {w W : World} {A : Option Addr} {n : Nat} {xs : List Int} {S : Nat → Prop} (h : Kd.C (Kd.int .i64) w A n xs) (hk : Kept w W S) (hn : ∀ ad, A = some ad → ¬ S ad.block) : Kd.C (Kd.int .i64) W A n xs := by
  refine ⟨h.1, h.2.1, fun h0 => ?_⟩
  obtain ⟨ad, e, hc⟩ := h.2.2 h0
  refine ⟨ad, e, fun j p hp => ?_⟩
  obtain ⟨cs, h1, h2, h3⟩ := hc j p hp
  exact ⟨cs, h1, h2, fun q u hq => cell_kept (h3 q u hq) hk (by rw [add_block]; exact hn ad e)⟩
theorem CI_at {w : World} {A : Option Addr} {n : Nat} {xs : List Int} (h : Kd.C (Kd.int .i64) w A n xs) (j : Nat) (hj : j < xs.length) : ∃ ad, A = some ad ∧ w.cell? (ad.add j) = some (.int .i64 xs[j]) := by
  have hl := h.1
  obtain ⟨ad, e, hc⟩ := h.2.2 (by omega)
  obtain ⟨cs, h1, h2, h3⟩ := hc j _ (List.getElem?_eq_getElem hj)
  have e2 : cs = [.int .i64 xs[j]] := h2
  have h4 := h3 0 _ (by rw [e2]; rfl)
  rw [show (Kd.int .i64).sz = 1 from rfl, Nat.mul_one, Nat.add_zero] at h4
  exact ⟨ad, e, h4⟩
def drawnBy (y b : Int) : Int := wrap64 ((IntKind.u64.wrap y).tmod b)
def nextV (l : List Int) (at_ : Nat) (b : Int) : Int := if l.length = 0 ∨ b < 1 then 0 else drawnBy (l.getD at_ 0) b
def nextAt (l : List Int) (at_ : Nat) (b : Int) : Nat := if l.length = 0 ∨ b < 1 then at_ else (at_ + 1) % l.length
set_option maxHeartbeats 4000000 in
set_option maxRecDepth 100000 in
theorem next_some (base : Nat) (d c at_ : Nat) (A : Option Addr) (l : List Int) (w0 w : World) (hB : Below base w0 w) (hb0 : base ≤ d) (hb : base ≤ w.heap.size) (hd : Drw w d A c l at_) (b : Int) (h0 : l.length ≠ 0) (hb1 : ¬ b < 1) (hbw : b ≤ 9223372036854775807) :
    Calls Try.prog 8 #[.pointer (some ⟨d, 0, none⟩), .int .i64 b] w fun e w' => e = .returned (.int .i64 (drawnBy (l.getD at_ 0) b)) ∧ Drw w' d A c l ((at_ + 1) % l.length) ∧ Below base w0 w' ∧ Kept w w' (fun k => k = d) := by
  have hlt := hd.lt h0
  have hmx : l.length ≤ 9223372036854775807 := hd.row.2.1
  have hg0 : w.cell? ⟨d, 0, none⟩ = some (.slice A l.length c) := (blk_cell hd.cell 0).trans rfl
  have hg1 : w.cell? ⟨d, 1, none⟩ = some (.int .i64 (at_ : Int)) := (blk_cell hd.cell 1).trans rfl
  have hf1 := blk_frozen hd.cell 1
  have h0z : ¬ ((l.length : Nat) : Int) = 0 := by omega
  have hltz : (at_ : Int) < (l.length : Int) := by omega
  obtain ⟨ad, e, hx0⟩ := CI_at hd.row at_ hlt
  have ey : l.getD at_ 0 = l[at_] := by rw [List.getD_eq_getElem?_getD, List.getElem?_eq_getElem hlt]; rfl
  rw [ey]
  generalize l[at_] = y at hx0
  subst e
  have HD := Aside0.mk hd
  have HB := Aside0.mk hB
  have HS := Aside0.mk hb
  clear hd ey hB hb
  go_enter Try.func8, Try.ntmps8
  go_wp2_with fail
  go_quiet (fail)
  go_wp2_with fail
  go_region
  go_wp2_with fail
  go_ret
  have hbd : Below w.heap.size w (w.drewN (nq + 1)) := pw_below_drewN (Below.refl _ _) _
  have hk : Kept w ((w.drewN (nq + 1)).setCell ⟨d, 1, none⟩ (.int .i64 (((at_ : Int) + 1) % (l.length : Int)))) (fun k => k = d) := Kept.setCell (S := fun k => k = d) (Kept.of_below hbd _) (p := ⟨d, 1, none⟩) (.inl rfl) _
  refine ⟨rfl, ⟨?_, CI_kept HD.out.row hk (fun a e => HD.out.ne a e), fun h => Nat.mod_lt _ (by omega), HD.out.ne⟩, ?_, hk⟩
  · exact blk_put (blk_below HD.out.cell hbd) 1 _ rfl
  · exact Below.grown (Below.grown HB.out (grownBy_below (r := none) hbd) HS.out (fun k hk => by cases hk)) (grownBy_set _ d 1 _) (Nat.le_trans HS.out hbd.size) (fun k hk => by cases hk; exact hb0)
theorem next_calls (base : Nat) (d c at_ : Nat) (A : Option Addr) (l : List Int) (w0 w : World) (hB : Below base w0 w) (hb0 : base ≤ d) (hb : base ≤ w.heap.size) (hd : Drw w d A c l at_) (b : Int) (hbw : b ≤ 9223372036854775807) :
    Calls Try.prog 8 #[.pointer (some ⟨d, 0, none⟩), .int .i64 b] w fun e w' => e = .returned (.int .i64 (nextV l at_ b)) ∧ Drw w' d A c l (nextAt l at_ b) ∧ Below base w0 w' ∧ Kept w w' (fun k => k = d) := by
  by_cases h : l.length = 0 ∨ b < 1
  · rw [nextV, nextAt, if_pos h, if_pos h]
    refine (next_none base d c at_ A l w hd b h).mono ?_
    rintro e w' ⟨rfl, rfl⟩
    exact ⟨rfl, hd, hB, Kept.refl _ _⟩
  · rw [nextV, nextAt, if_neg h, if_neg h]
    exact next_some base d c at_ A l w0 w hB hb0 hb hd b (fun e => h (.inl e)) (fun e => h (.inr e)) hbw
end Go.Proofs.Ytpcmleeiaffkeaa.QWhl
namespace Go.Proofs.Ytpcmleeiaffkeaa.QWhl
open Go.RowKit Go.Proofs.YtpcmleeiaffkeaaW.PrintWords Go.Proofs.YtpcmleeiaffkeaaW.PrintLast Go.Proofs.YtpcmleeiaffkeaaW.PrintMore
set_option linter.unusedVariables false
set_option linter.unusedSimpArgs false
theorem set_one (base g : Nat) (v : Value) (w0 w : World) (hB : Below base w0 w) (hb : base ≤ w.heap.size) (hw : Whl w base g v []) :
    Calls Try.prog 11 #[.pointer (some ⟨g, 0, none⟩), .int .i64 1, .int .i64 5] w fun e w' => e = .returned (.int .i64 0) ∧ ∃ v', WTurn w0 w base g v v' [⟨5, 1⟩] w' := by
  have h := set_calls base g v [] w0 w hB hb hw List.Pairwise.nil (by simp) 1 5
  rw [show (if (5 : Int) < 0 then (1 : Int) else 0) = 0 by decide, show setf [] 1 5 = [⟨5, 1⟩] by decide +kernel] at h
  exact h
theorem set_two (base g : Nat) (v : Value) (w0 w : World) (hB : Below base w0 w) (hb : base ≤ w.heap.size) (hw : Whl w base g v [⟨5, 1⟩]) :
    Calls Try.prog 11 #[.pointer (some ⟨g, 0, none⟩), .int .i64 2, .int .i64 3] w fun e w' => e = .returned (.int .i64 0) ∧ ∃ v', WTurn w0 w base g v v' [⟨3, 2⟩, ⟨5, 1⟩] w' := by
  have h := set_calls base g v [⟨5, 1⟩] w0 w hB hb hw (by simp) (by simp) 2 3
  rw [show (if (3 : Int) < 0 then (1 : Int) else 0) = 0 by decide, show setf [⟨5, 1⟩] 2 3 = [⟨3, 2⟩, ⟨5, 1⟩] by decide +kernel] at h
  exact h
theorem pop_one (base g c : Nat) (A : Option Addr) (w0 w : World) (hB : Below base w0 w) (hb : base ≤ w.heap.size) (hw : WRead w g A c [⟨3, 2⟩, ⟨5, 1⟩]) (hlo : base ≤ g) :
    Calls Try.prog 13 #[.pointer (some ⟨g, 0, none⟩), .int .i64 4] w fun e w' => ∃ (A1 : Option Addr) (c1 : Nat), e = .returned (.slice A1 1 c1) ∧ (∃ a1, A1 = some a1 ∧ w'.cell? a1 = some (.int .i64 2)) ∧ (∃ A' c', WRead w' g A' c' [⟨5, 1⟩]) ∧ Below base w0 w' := by
  refine (pop_calls (fun k => k ≠ g) base g c A [⟨3, 2⟩, ⟨5, 1⟩] w0 w hB hb hw hlo (by simp) 4 (fun _ h => h) hw.ne).mono ?_
  rintro e w' ⟨v, rfl, hp⟩
  obtain ⟨h1, ⟨A', c', h2, _⟩, h3, h4⟩ := hp
  rw [show ((List.takeWhile (dueBy 4) [⟨3, 2⟩, ⟨5, 1⟩]).map (·.f1)) = [2] by decide +kernel] at h1
  rw [show List.dropWhile (dueBy 4) [⟨3, 2⟩, ⟨5, 1⟩] = [⟨5, 1⟩] by decide +kernel] at h2
  obtain ⟨A1, c1, rfl⟩ := Kd.R_slice h1
  obtain ⟨ad, e, hx⟩ := CI_at (Kd.R_reads' h1).2.2 0 (by simp)
  refine ⟨A1, c1, rfl, ⟨ad, e, ?_⟩, ⟨A', c', h2⟩, h3⟩
  have ea0 : ad.add 0 = ad := by cases ad; unfold Addr.add; split <;> simp_all
  rw [ea0] at hx
  exact hx
theorem due_one (g c : Nat) (A : Option Addr) (w : World) (hw : WRead w g A c [⟨5, 1⟩]) :
    Calls Try.prog 17 #[.pointer (some ⟨g, 0, none⟩), .int .i64 1] w fun e w' => e = .returned (.int .i64 5) ∧ Below w.heap.size w w' := by
  have h := due_calls g c A [⟨5, 1⟩] w hw 1
  rw [show dueOf [⟨5, 1⟩] 1 = 5 by decide +kernel] at h
  exact h
theorem next_one (base d c : Nat) (A : Option Addr) (w0 w : World) (hB : Below base w0 w) (hb0 : base ≤ d) (hb : base ≤ w.heap.size) (hd : Drw w d A c [7] 0) :
    Calls Try.prog 8 #[.pointer (some ⟨d, 0, none⟩), .int .i64 4] w fun e w' => e = .returned (.int .i64 3) ∧ Below base w0 w' := by
  have h := next_calls base d c 0 A [7] w0 w hB hb0 hb hd 4 (by decide)
  rw [show nextV [7] 0 4 = 3 by decide +kernel] at h
  exact h.mono fun e w' q => ⟨q.1, q.2.2.1⟩
theorem C_seven {w : World} {b : Nat} (h : w.heap[b]? = some (.cells #[.int .i64 7] 3 (0, 0))) : Kd.C (Kd.int .i64) w (some ⟨b, 0, none⟩) 1 [7] := by
  refine ⟨rfl, by decide, fun _ => ⟨_, rfl, fun j p hp => ?_⟩⟩
  match j with
  | 0 =>
    simp only [List.getElem?_cons_zero, Option.some.injEq] at hp
    subst hp
    refine ⟨[.int .i64 7], rfl, rfl, fun q u hq => ?_⟩
    match q with
    | 0 => rw [show (⟨b, 0, none⟩ : Addr).add (0 * (Kd.int .i64).sz + 0) = ⟨b, 0, none⟩ from rfl, blk_cell h]; exact hq
    | q + 1 => simp at hq
  | j + 1 => simp at hp
end Go.Proofs.Ytpcmleeiaffkeaa.QWhl
namespace Go.Proofs.Ytpcmleeiaffkeaa.QWhl
open Go.RowKit Go.Proofs.YtpcmleeiaffkeaaW.PrintWords Go.Proofs.YtpcmleeiaffkeaaW.PrintLast Go.Proofs.YtpcmleeiaffkeaaW.PrintMore
set_option linter.unusedVariables false
set_option linter.unusedSimpArgs false
set_option maxHeartbeats 4000000 in
set_option maxRecDepth 100000 in
theorem alive_calls (w : World) : Calls Try.prog 6 #[] w fun e w' => e = .returned (.bool true) ∧ Below w.heap.size w w' := by
  have e10 : ∀ args w, (callFunc 10 args).run Try.prog w = .ok (.enter 10 args) w := enters_of Try.func10 (by kernel_rfl) rfl
  have e11 : ∀ args w, (callFunc 11 args).run Try.prog w = .ok (.enter 11 args) w := enters_of Try.func11 (by kernel_rfl) rfl
  have e13 : ∀ args w, (callFunc 13 args).run Try.prog w = .ok (.enter 13 args) w := enters_of Try.func13 (by kernel_rfl) rfl
  have e17 : ∀ args w, (callFunc 17 args).run Try.prog w = .ok (.enter 17 args) w := enters_of Try.func17 (by kernel_rfl) rfl
  have e7 : ∀ args w, (callFunc 7 args).run Try.prog w = .ok (.enter 7 args) w := enters_of Try.func7 (by kernel_rfl) rfl
  have e8 : ∀ args w, (callFunc 8 args).run Try.prog w = .ok (.enter 8 args) w := enters_of Try.func8 (by kernel_rfl) rfl
  go_enter Try.func6, Try.ntmps6
  go_wp2_with (first
    | (go_at_fn 10; refine (new_calls w.heap.size w (Nat.le_refl _)).mono ?_; rintro e w1 ⟨g, rfl, hw1, hb1, hg1⟩; have HW1 := Aside0.mk hw1; have HB1 := Aside0.mk hb1; have HG := Aside0.mk hg1; clear hw1 hb1 hg1)
    | (go_at_fn 11; with_reducible refine (set_one w.heap.size g _ w w1 HB1.out HB1.out.size HW1.out).mono ?_; rintro e w2 ⟨rfl, v2, ht2⟩; have HT2 := Aside0.mk ht2; clear ht2)
    | (go_at_fn 11; with_reducible refine (set_two w.heap.size g v2 w w2 HT2.out.bel HT2.out.bel.size HT2.out.whl).mono ?_; rintro e w3 ⟨rfl, v3, ht3⟩; obtain ⟨A3, c3, _, hr3⟩ := ht3.whl.read; have HT3 := Aside0.mk ht3; have HR3 := Aside0.mk hr3; clear ht3 hr3)
    | (go_at_fn 13; refine (pop_one w.heap.size g c3 A3 w w3 HT3.out.bel HT3.out.bel.size HR3.out HG.out).mono ?_; rintro e w4 ⟨A4, c4, rfl, ⟨a4, rfl, hx4⟩, ⟨A5, c5, hr5⟩, hb4⟩; have HR5 := Aside0.mk hr5; have HB4 := Aside0.mk hb4; clear hr5 hb4)
    | (go_at_fn 17; refine (due_one g c5 A5 w4 HR5.out).mono ?_; rintro e w5 ⟨rfl, hb5⟩; have HB5 := Aside0.mk (Below.grown HB4.out (grownBy_below (r := none) hb5) HB4.out.size (fun k hk => by cases hk)); clear hb5)
    | (go_at_fn 7; refine (draw_calls (some ⟨w5.heap.size, 0, none⟩) 1 [7] _ (C_seven (blk_new w5 _)) (by simp) (by simp)).mono ?_; rintro e w6 ⟨d, rfl, ⟨A6, c6, hd6⟩, hg6, hb6⟩; have HD6 := Aside0.mk hd6; have HG6 := Aside0.mk hg6; have HB6 := Aside0.mk (Below.grown HB5.out (grownBy_below (r := none) (below_step (below_alloc (Below.refl w5.heap.size w5) _) hb6)) HB5.out.size (fun k hk => by cases hk)); clear hd6 hg6 hb6)
    | (go_at_fn 8; refine (next_one w.heap.size d c6 A6 w w6 HB6.out ?qa HB6.out.size HD6.out).mono ?_; (case qa => exact Nat.le_trans HB5.out.size (Nat.le_trans (below_alloc (Below.refl w5.heap.size w5) _).size HG6.out)); rintro e w7 ⟨rfl, hb7⟩; have HB7 := Aside0.mk hb7; clear hb7))
  go_ret
  exact ⟨rfl, HB7.out⟩
end Go.Proofs.Ytpcmleeiaffkeaa.QWhl
namespace Go.Proofs.Ytpcmleeiaffkeaa.QWhl
open Go.RowKit Go.Proofs.YtpcmleeiaffkeaaW.PrintWords Go.Proofs.YtpcmleeiaffkeaaW.PrintLast Go.Proofs.YtpcmleeiaffkeaaW.PrintMore
set_option linter.unusedVariables false
set_option linter.unusedSimpArgs false
structure S36 where
  f0 : Int
  f1 : Int
  f2 : Int
def z36 : S36 := ⟨(0 : Int), (0 : Int), (0 : Int)⟩
def k36 : Kd S36 := Kd.iso (Kd.pair (Kd.int .i64) (Kd.pair (Kd.int .i64) (Kd.int .i64))) (fun x : S36 => (x.f0, x.f1, x.f2))
theorem k36_open {w : World} {x : S36} {cs : List Value} (h : k36.K w x cs) : cs = [.int .i64 x.f0, .int .i64 x.f1, .int .i64 x.f2] := by
  obtain ⟨_, _, rfl, rfl, ⟨_, _, rfl, rfl, rfl⟩⟩ := h
  exact rfl
def rd_T36 (xs : List S36) (i : Int) : S36 := xs.getD i.toNat z36
theorem at_T36 {w : World} {A : Option Addr} {n : Nat} {xs : List S36} (h : Kd.C k36 w A n xs) (i : Int) (h0 : 0 ≤ i) (h1 : i < n) : ∃ ad , A = some ad ∧ w.cell? (ad.add (i.toNat * 3)) = some (.int .i64 (rd_T36 xs i).f0) ∧ w.cell? ⟨(ad.add (i.toNat * 3)).block, (ad.add (i.toNat * 3)).off + 1, none⟩ = some (.int .i64 (rd_T36 xs i).f1) ∧ w.cell? ⟨(ad.add (i.toNat * 3)).block, (ad.add (i.toNat * 3)).off + 2, none⟩ = some (.int .i64 (rd_T36 xs i).f2) := by
  obtain ⟨ad, c, e, _, hK, hc0⟩ := Kd.C_get h z36 i h0 h1
  have hc : ∀ j u, c[j]? = some u → w.cell? (ad.add (i.toNat * 3 + j)) = some u := hc0
  obtain rfl := k36_open hK
  exact ⟨ad, e, hc 0 _ rfl, by rw [← add_field _ _ 1 (by omega)]; exact hc 1 _ rfl, by rw [← add_field _ _ 2 (by omega)]; exact hc 2 _ rfl⟩
theorem rd36 {xs : List S36} {i : Nat} (h : i < xs.length) : rd_T36 xs i = xs[i] := by
  unfold rd_T36
  rw [Int.toNat_natCast, List.getD_eq_getElem?_getD, List.getElem?_eq_getElem h]; rfl
def insR (t : S46) : List S46 → List S46
  | [] => [t]
  | x :: r => if lx x t then x :: insR t r else t :: x :: r
theorem pos_zero {l : List S46} {t x : S46} (hs : (x :: l).Pairwise lx) (h : ¬ lx x t) : pos (x :: l) t = 0 := by
  unfold pos
  rw [List.countP_eq_zero]
  intro y hy
  simp only [decide_eq_true_eq]
  rcases List.mem_cons.1 hy with rfl | hy
  · exact h
  · exact fun h2 => h (lx_trans ((List.pairwise_cons.1 hs).1 y hy) h2)
theorem ins46_eq (t : S46) : ∀ (l : List S46), l.Pairwise lx → ins46 l t = insR t l
  | [], _ => rfl
  | x :: r, hs => by
    unfold insR
    by_cases h : lx x t
    · rw [if_pos h, ← ins46_eq t r (List.pairwise_cons.1 hs).2]
      have e : pos (x :: r) t = pos r t + 1 := by unfold pos; rw [List.countP_cons_of_pos (by simpa using h)]
      unfold ins46
      rw [e]; rfl
    · rw [if_neg h]
      unfold ins46
      rw [pos_zero hs h]; rfl
theorem mem_insR (t x : S46) : ∀ l : List S46, x ∈ insR t l ↔ x = t ∨ x ∈ l
  | [] => by simp [insR]
  | y :: r => by
    unfold insR
    split
    · rw [List.mem_cons, mem_insR t x r, List.mem_cons]
      constructor
      · rintro (h | h | h); exact .inr (.inl h); exact .inl h; exact .inr (.inr h)
      · rintro (h | h | h); exact .inr (.inl h); exact .inl h; exact .inr (.inr h)
    · rw [List.mem_cons]
theorem insR_sorted (t : S46) : ∀ l : List S46, l.Pairwise lx → t ∉ l → (insR t l).Pairwise lx
  | [], _, _ => by simp [insR]
  | x :: r, hs, hn => by
    have h1 := List.pairwise_cons.1 hs
    have hne : x ≠ t := fun e => hn (by rw [e]; simp)
    unfold insR
    by_cases h : lx x t
    · rw [if_pos h, List.pairwise_cons]
      refine ⟨fun y hy => ?_, insR_sorted t r h1.2 (fun e => hn (List.mem_cons_of_mem _ e))⟩
      rcases (mem_insR t y r).1 hy with rfl | hy
      · exact h
      · exact h1.1 y hy
    · rw [if_neg h, List.pairwise_cons]
      have h2 : lx t x := by
        apply Classical.byContradiction
        intro h3
        exact hne (not_lx h h3)
      refine ⟨fun y hy => ?_, hs⟩
      rcases List.mem_cons.1 hy with rfl | hy
      · exact h2
      · exact lx_trans h2 (h1.1 y hy)
theorem insR_len (t : S46) : ∀ l : List S46, (insR t l).length = l.length + 1
  | [] => rfl
  | x :: r => by unfold insR; split <;> simp [insR_len t r]
theorem drop46_not (l : List S46) (t : S46) : t ∉ drop46 l t.f1 := by
  unfold drop46
  rw [List.mem_filter]
  simp
theorem setf_sorted {l : List S46} (h : l.Pairwise lx) (key due : Int) : (setf l key due).Pairwise lx := by
  unfold setf
  split
  · exact h
  · rw [ins46_eq _ _ (drop46_sorted h key)]
    exact insR_sorted _ _ (drop46_sorted h key) (drop46_not l ⟨due, key⟩)
theorem setf_len {l : List S46} (h : l.Pairwise lx) (key due : Int) : (setf l key due).length ≤ l.length + 1 := by
  unfold setf
  split
  · omega
  · rw [ins46_eq _ _ (drop46_sorted h key), insR_len]
    have := drop46_len l key
    omega
structure Two (w0 : World) (base g1 g2 : Nat) (v1 v2 : Value) (L1 L2 : List S46) (W : World) : Prop where
  a : Whl W base g1 v1 L1
  b : Whl W base g2 v2 L2
  ne : g1 ≠ g2
  n12 : ∀ k, Blk v1 k → k ≠ g2
  n21 : ∀ k, Blk v2 k → k ≠ g1
  nn : ∀ k, Blk v1 k → ¬ Blk v2 k
  bel : Below base w0 W
section
variable {w0 W W' : World} {base g1 g2 : Nat} {v1 v2 v' : Value} {L1 L2 L' : List S46}
theorem Two.symm (h : Two w0 base g1 g2 v1 v2 L1 L2 W) : Two w0 base g2 g1 v2 v1 L2 L1 W := ⟨h.b, h.a, h.ne.symm, h.n21, h.n12, fun k h2 h1 => h.nn k h1 h2, h.bel⟩
theorem Two.below (h : Two w0 base g1 g2 v1 v2 L1 L2 W) (hb : Below W.heap.size W W') (hs : base ≤ W.heap.size) : Two w0 base g1 g2 v1 v2 L1 L2 W' :=
  ⟨h.a.below hb, h.b.below hb, h.ne, h.n12, h.n21, h.nn, Below.grown h.bel (grownBy_below (r := none) hb) hs (fun k hk => by cases hk)⟩
theorem Two.turn (h : Two w0 base g1 g2 v1 v2 L1 L2 W) (t : WTurn w0 W base g1 v1 v' L' W') : Two w0 base g1 g2 v' v2 L' L2 W' := by
  refine ⟨t.whl, h.b.kept t.kept ?_ ?_, h.ne, ?_, h.n21, ?_, t.bel⟩
  · rintro (e | e)
    · exact h.ne e.symm
    · exact h.n12 g2 e rfl
  · rintro k hk (e | e)
    · exact h.n21 k hk e
    · exact h.nn k e hk
  · intro k hk
    rcases t.own with e | e
    · exact h.n12 k (e.symm.trans hk)
    · have h1 := e k hk
      have h2 := h.b.lt
      omega
  · intro k hk h2
    rcases t.own with e | e
    · exact h.nn k (e.symm.trans hk) h2
    · have h1 := e k hk
      have h3 := own_lt h.b.row k h2
      omega
end
theorem nil_no : ∀ k, ¬ Blk (.slice none 0 0) k := fun k h => by have h2 : (none : Option Nat) = some k := h; cases h2
theorem Two.start {w w1 w2 w3 : World} {g g' : Nat} (hb1 : Below w.heap.size w w1) (hw2 : Whl w2 w.heap.size g (.slice none 0 0) []) (hb2 : Below w1.heap.size w1 w2) (hw3 : Whl w3 w.heap.size g' (.slice none 0 0) []) (hb3 : Below w2.heap.size w2 w3) (hg3 : w2.heap.size ≤ g') :
    Two w w.heap.size g g' (.slice none 0 0) (.slice none 0 0) [] [] w3 := by
  have h1 := hw2.lt
  exact ⟨hw2.below hb3, hw3, by omega, fun k hk => absurd hk (nil_no k), fun k hk => absurd hk (nil_no k), fun k hk => absurd hk (nil_no k), below_step (below_step hb1 hb2) hb3⟩
end Go.Proofs.Ytpcmleeiaffkeaa.QWhl
namespace Go.Proofs.Ytpcmleeiaffkeaa.QWhl
open Go.RowKit Go.Proofs.YtpcmleeiaffkeaaW.PrintWords Go.Proofs.YtpcmleeiaffkeaaW.PrintLast Go.Proofs.YtpcmleeiaffkeaaW.PrintMore
set_option linter.unusedVariables false
set_option linter.unusedSimpArgs false
abbrev RI (w : World) (base h : Nat) (u : Value) (l : List Int) : Prop := Kd.R (Kd.int .i64) 3 w base (fun q => q ≠ h) u l
section
variable {w W w0 : World} {base h : Nat} {u vK vD : Value} {l : List Int} {P : List S46} {S : Nat → Prop}
theorem RI.kept (hr : RI w base h u l) (hk : Kept w W S) (hn : ∀ q, Blk u q → ¬ S q) : RI W base h u l :=
  Kd.R_reok rfl (Kd.R_step (Kd.R_tight rfl hr) (fun k hk' hlt => hk.2 k hlt (hn k hk'.symm))) hr.1
theorem RI.below (hr : RI w base h u l) (hb : Below w.heap.size w W) : RI W base h u l := hr.kept (Kept.of_below hb (fun _ => False)) (fun _ _ h => h)
theorem RI.lt (hr : RI w base h u l) : ∀ q, Blk u q → q < w.heap.size := fun q hq => Kd.R_lt hr q hq
theorem RI.ge (hr : RI w base h u l) : ∀ q, Blk u q → base ≤ q := fun q hq => Kd.R_base hr q hq
structure Ref (w : World) (base h : Nat) (vK vD : Value) (P : List S46) : Prop where
  cell : w.heap[h]? = some (.cells #[vK, vD] 34 (0, 0))
  low : base ≤ h
  k : RI w base h vK (P.map (·.f1))
  d : RI w base h vD (P.map (·.f0))
  ne : ∀ q, Blk vK q → ¬ Blk vD q
theorem Ref.kept (hr : Ref w base h vK vD P) (hk : Kept w W S) (h0 : ¬ S h) (h1 : ∀ q, Blk vK q → ¬ S q) (h2 : ∀ q, Blk vD q → ¬ S q) : Ref W base h vK vD P :=
  ⟨blk_kept hr.cell hk h0, hr.low, hr.k.kept hk h1, hr.d.kept hk h2, hr.ne⟩
theorem Ref.below (hr : Ref w base h vK vD P) (hb : Below w.heap.size w W) : Ref W base h vK vD P := hr.kept (Kept.of_below hb (fun _ => False)) id (fun _ _ h => h) (fun _ _ h => h)
theorem Ref.lt (hr : Ref w base h vK vD P) : h < w.heap.size := blk_lt hr.cell
theorem Ref.open (hr : Ref w base h vK vD P) : ∃ AK cK AD cD, vK = .slice AK P.length cK ∧ vD = .slice AD P.length cD ∧ Kd.C (Kd.int .i64) w AK P.length (P.map (·.f1)) ∧ Kd.C (Kd.int .i64) w AD P.length (P.map (·.f0)) := by
  have h1 := hr.k
  have h2 := hr.d
  obtain ⟨AK, cK, e1⟩ := Kd.R_slice h1
  obtain ⟨AD, cD, e2⟩ := Kd.R_slice h2
  rw [e1] at h1
  rw [e2] at h2
  have h3 := (Kd.R_reads' h1).2.2
  have h4 := (Kd.R_reads' h2).2.2
  rw [List.length_map] at e1 e2 h3 h4
  exact ⟨AK, cK, AD, cD, e1, e2, h3, h4⟩
structure RTurn (w0 w : World) (base h : Nat) (vK vD vK' vD' : Value) (P' : List S46) (W : World) : Prop where
  ref : Ref W base h vK' vD' P'
  bel : Below base w0 W
  kept : Kept w W (fun k => k = h ∨ Blk vK k ∨ Blk vD k)
  own : ∀ k, Blk vK' k ∨ Blk vD' k → (Blk vK k ∨ Blk vD k) ∨ w.heap.size ≤ k
end
theorem drop46_take {P : List S46} {i : Nat} (hi : i < P.length) (key : Int) : drop46 (P.take (i + 1)) key = if P[i].f1 = key then drop46 (P.take i) key else drop46 (P.take i) key ++ [P[i]] := by
  rw [List.take_succ_eq_append_getElem hi]
  unfold drop46
  rw [List.filter_append]
  split
  · rename_i h; rw [List.filter_cons_of_neg (by simpa using h), List.filter_nil, List.append_nil]
  · rename_i h; rw [List.filter_cons_of_pos (by simpa using h), List.filter_nil]
structure RApp (W w1 : World) (base h : Nat) (v v1 : Value) (xs : List Int) (p : Int) : Prop where
  own : RI w1 base h v1 (xs ++ [p])
  kept : Kept W w1 (Blk v)
  bel : Below base W w1
  at_ : v1.ownBlock = v.ownBlock ∨ ∃ b, v1.ownBlock = some b ∧ W.heap.size ≤ b
theorem RApp.of {W w1 : World} {base h : Nat} {v v1 : Value} {xs : List Int} {p : Int} (h1 : RI w1 base h v1 (xs ++ [p])) (h2 : Below base W w1) (h3 : W.grownBy w1 v.ownBlock) (h4 : v1.ownBlock = v.ownBlock ∨ ∃ b, v1.ownBlock = some b ∧ W.heap.size ≤ b) : RApp W w1 base h v v1 xs p :=
  ⟨h1, Kept.of_grown (S := Blk v) h3 (Kept.refl _ _) (fun k hk => .inl hk), h2, h4⟩
theorem RApp.ne {W w1 : World} {base h : Nat} {v v1 u : Value} {xs ys : List Int} {p : Int} (h1 : RApp W w1 base h v v1 xs p) (hu : RI W base h u ys) (hn : ∀ q, Blk v q → ¬ Blk u q) : ∀ q, Blk v1 q → ¬ Blk u q := fun q h4 h5 => h1.at_.elim (fun e => hn q (e.symm.trans h4) h5) (fun ⟨b, e, hbb⟩ => absurd (hu.lt q h5) (by have e2 : b = q := Option.some.inj (e.symm.trans h4); omega))
theorem RApp.other {W w1 : World} {base h : Nat} {v v1 u : Value} {xs ys : List Int} {p : Int} (h1 : RApp W w1 base h v v1 xs p) (hu : RI W base h u ys) (hn : ∀ q, Blk v q → ¬ Blk u q) : RI w1 base h u ys := hu.kept h1.kept (fun q h5 h4 => hn q h4 h5)
theorem ri_trans {B : Nat} {a b c : World} (h1 : Below B a b) (h2 : Below B b c) : Below B a c := Below.trans h1 h2
theorem rturn_of {w0 w wr : World} {base h : Nat} {vK vD u4 u5 : Value} {P Q : List S46} (hr : Ref w base h vK vD P) (hB : Below base w0 w) (hs : base ≤ w.heap.size) (hc : wr.heap[h]? = some (.cells #[vK, vD] 34 (0, 0))) (h4 : RI wr w.heap.size h u4 (Q.map (·.f1))) (h5 : RI wr w.heap.size h u5 (Q.map (·.f0))) (hn : ∀ q, Blk u4 q → ¬ Blk u5 q) (hb : Below w.heap.size w wr) :
    RTurn w0 w base h vK vD u4 u5 Q ((wr.setCell ⟨h, 0, none⟩ u4).setCell ⟨h, 1, none⟩ u5) := by
  have k2 : Kept wr ((wr.setCell ⟨h, 0, none⟩ u4).setCell ⟨h, 1, none⟩ u5) (fun k => k = h) := Kept.setCell (S := fun k => k = h) (Kept.setCell (S := fun k => k = h) (Kept.refl wr _) (p := ⟨h, 0, none⟩) (.inl rfl) u4) (p := ⟨h, 1, none⟩) (.inl rfl) u5
  have hsz : wr.heap.size ≤ ((wr.setCell ⟨h, 0, none⟩ u4).setCell ⟨h, 1, none⟩ u5).heap.size := k2.1
  refine ⟨⟨blk_put (blk_put hc 0 u4 rfl) 1 u5 rfl, hr.low, RI.kept (Kd.R_lower h4 hs) k2 (fun q hq e => h4.1 q hq e), RI.kept (Kd.R_lower h5 hs) k2 (fun q hq e => h5.1 q hq e), hn⟩, ?_, ?_, fun k hk => .inr ?_⟩
  · have hb0 : Below base w0 wr := Below.grown hB (grownBy_below (r := none) hb) hs (fun k hk => by cases hk)
    have hs2 : base ≤ wr.heap.size := Nat.le_trans hs hb.size
    exact Below.grown (Below.grown hb0 (grownBy_set wr h 0 u4) hs2 (fun k hk => by cases hk; exact hr.low)) (grownBy_set _ h 1 u5) (Nat.le_trans hs2 (Kept.setCell (S := fun k => k = h) (Kept.refl wr _) (p := ⟨h, 0, none⟩) (.inl rfl) u4).1) (fun k hk => by cases hk; exact hr.low)
  · refine Kept.setCell (Kept.setCell (Kept.of_below hb _) (p := ⟨h, 0, none⟩) (.inl (.inl rfl)) u4) (p := ⟨h, 1, none⟩) (.inl (.inl rfl)) u5
  · exact hk.elim (h4.ge k) (h5.ge k)
set_option maxHeartbeats 8000000 in
set_option maxRecDepth 100000 in
theorem rstop_calls (base h : Nat) (vK vD : Value) (P : List S46) (w0 w : World) (hB : Below base w0 w) (hb : base ≤ w.heap.size) (hr : Ref w base h vK vD P) (hlen : P.length ≤ 1000000) (key : Int) :
    Calls Try.prog 15 #[.pointer (some ⟨h, 0, none⟩), .int .i64 key] w fun e w' => e = .returned (.tuple #[]) ∧ ∃ vK' vD', RTurn w0 w base h vK vD vK' vD' (drop46 P key) w' := by
  obtain ⟨AK, cK, AD, cD, rfl, rfl, hK, hD⟩ := hr.open
  have hc0 : w.cell? ⟨h, 0, none⟩ = some (.slice AK P.length cK) := (blk_cell hr.cell 0).trans rfl
  have HR := Aside0.mk hr
  have HK := Aside0.mk hK
  have HD := Aside0.mk hD
  have HB := Aside0.mk hB
  have HS := Aside0.mk hb
  clear hr hK hD hB hb
  go_enter Try.func15, Try.ntmps15
  go_wp2
  go_loopg [4, 5, 13] P.length (fun gk s4 s5 s13 wr => ∃ i : Nat, s13 = .int .i64 i ∧ i ≤ P.length ∧ P.length - i ≤ gk ∧ Aside0 (RI wr w.heap.size h s4 ((drop46 (P.take i) key).map (·.f1))) ∧ Aside0 (RI wr w.heap.size h s5 ((drop46 (P.take i) key).map (·.f0))) ∧ Aside0 (∀ q, Blk s4 q → ¬ Blk s5 q) ∧ Aside0 (Below w.heap.size w wr))
  case atStart => exact ⟨0, rfl, Nat.zero_le _, by omega, ⟨Kd.R_nil _ _ _ _ _⟩, ⟨Kd.R_nil _ _ _ _ _⟩, ⟨fun q hq => absurd hq (nil_no q)⟩, ⟨Below.refl _ _⟩⟩
  case round =>
    obtain ⟨i, rfl, hil, hgk, H4, H5, HN, HBr⟩ := hrel
    by_cases hlt : i < P.length
    · have hlz : (i : Int) < (P.length : Int) := by omega
      obtain ⟨adK, eK, hx0⟩ := CI_at HK.out i (by simpa using hlt)
      obtain ⟨adD, eD, hy0⟩ := CI_at HD.out i (by simpa using hlt)
      rw [List.getElem_map] at hx0 hy0
      have hxl := World.block_lt_of_cell? w _ hx0
      have hyl := World.block_lt_of_cell? w _ hy0
      have hx := (HBr.out.cell hxl).trans hx0
      subst eK eD
      have hdt := drop46_take hlt key
      have hdl : (drop46 (P.take i) key).length ≤ i := by have := drop46_len (P.take i) key; simp at this; omega
      have HY0 := Aside0.mk hy0
      have HYL := Aside0.mk hyl
      clear hx0 hy0 hxl hyl
      by_cases hkey : P[i].f1 = key
      · rw [if_pos hkey] at hdt
        have HDT := Aside0.mk hdt
        clear hdt HY0
        generalize P[i].f1 = y1 at hx hkey
        subst hkey
        go_wp2
        go_roundg (P.length - (i + 1))
        case measure => omega
        case rel => exact ⟨i + 1, by go_num, by omega, Nat.le_refl _, by rw [HDT.out]; exact H4, by rw [HDT.out]; exact H5, HN, HBr⟩
      · rw [if_neg hkey] at hdt
        have HE1 := Aside0.mk (show (drop46 (P.take (i + 1)) key).map (·.f1) = (drop46 (P.take i) key).map (·.f1) ++ [P[i].f1] by rw [hdt, List.map_append]; rfl)
        have HE0 := Aside0.mk (show (drop46 (P.take (i + 1)) key).map (·.f0) = (drop46 (P.take i) key).map (·.f0) ++ [P[i].f0] by rw [hdt, List.map_append]; rfl)
        have HL1 := Aside0.mk (show ((drop46 (P.take i) key).map (·.f1)).length ≤ 1000000 by rw [List.length_map]; omega)
        have HL0 := Aside0.mk (show ((drop46 (P.take i) key).map (·.f0)).length ≤ 1000000 by rw [List.length_map]; omega)
        have HF := Aside0.mk (show ∀ k, w.heap.size ≤ k → k ≠ h from fun k hk e => by have := HR.out.lt; omega)
        clear hdt
        generalize P[i].f0 = y0 at HY0 HE0
        generalize P[i].f1 = y1 at hx hkey HE1
        generalize (drop46 (P.take i) key).map (·.f1) = Q1 at H4 HE1 HL1
        generalize (drop46 (P.take i) key).map (·.f0) = Q0 at H5 HE0 HL0
        have hsz := HBr.out.size
        have HH := Aside0.mk (blk_below HR.out.cell HBr.out)
        have HLT := Aside0.mk HR.out.lt
        go_wp2_with (first
          | ((with_reducible refine gate_builtin (b := .append) (xs := #[.tmp 21, .tmp 23]) rfl ?_); at_builtin; refine Kd.R_append (Kd.int .i64) (w0 := wr) w.heap.size rfl (.tmp 21) (.tmp 23) 22 3 (.int .i64 0) 8 rfl Try.underlying22 info3 rfl (by decide) (by omega) u4 Q1 y1 [.int .i64 y1] (fun q => q ≠ h) (fun _ => False) rfl rfl ?aP (fun _ hk => hk.elim) ?aF ?aO ?aB ?aS ?aL ?_; (case aP => exact rfl); (case aB => exact Below.refl _ _); (case aF => exact fun k hk => HF.out k (Nat.le_trans hsz hk)); (case aO => exact H4.out); (case aS => exact hsz); (case aL => have := HL1.out; omega); intro v4 w4 ho4 hb4 hg4 hat4; have HA4 := Aside0.mk (RApp.of ho4 hb4 hg4 hat4); have hy4 := (hb4.cell HYL.out).trans ((HBr.out.cell HYL.out).trans HY0.out); have hc4 : w4.cell? ⟨h, 1, none⟩ = some (.slice (some adD) P.length cD) := (blk_cell ((hb4.block h HLT.out).trans HH.out) 1).trans rfl; have HB4 := Aside0.mk hb4; clear ho4 hb4 hg4 hat4)
          | ((with_reducible refine gate_builtin (b := .append) (xs := #[.tmp 25, .tmp 33]) rfl ?_); at_builtin; refine Kd.R_append (Kd.int .i64) (w0 := w4) w.heap.size rfl (.tmp 25) (.tmp 33) 22 3 (.int .i64 0) 8 rfl Try.underlying22 info3 rfl (by decide) (by omega) u5 Q0 y0 [.int .i64 y0] (fun q => q ≠ h) (fun _ => False) rfl rfl ?aP (fun _ hk => hk.elim) ?aF ?aO ?aB ?aS ?aL ?_; (case aP => exact rfl); (case aB => exact Below.refl _ _); (case aF => exact fun k hk => HF.out k (Nat.le_trans hsz (Nat.le_trans HB4.out.size hk))); (case aO => exact HA4.out.other H5.out HN.out); (case aS => exact Nat.le_trans hsz HB4.out.size); (case aL => have := HL0.out; omega); intro v5 w5 ho5 hb5 hg5 hat5; have HA5 := Aside0.mk (RApp.of ho5 hb5 hg5 hat5); have HB5 := Aside0.mk hb5; clear ho5 hb5 hg5 hat5))
        go_roundg (P.length - (i + 1))
        case measure => omega
        case rel =>
          have N4 := HA4.out.ne H5.out HN.out
          have O5 := HA4.out.other H5.out HN.out
          have N5 := HA5.out.ne HA4.out.own (fun q h5 h4 => N4 q h4 h5)
          refine ⟨i + 1, by go_num, by omega, Nat.le_refl _, ⟨?_⟩, ⟨?_⟩, ⟨fun q h4 h5 => N5 q h5 h4⟩, ⟨?_⟩⟩
          · rw [HE1.out]; exact HA5.out.other HA4.out.own (fun q h5 h4 => N4 q h4 h5)
          · rw [HE0.out]; exact HA5.out.own
          · exact ri_trans (ri_trans HBr.out HB4.out) HB5.out
    · have e : i = P.length := by omega
      subst e
      rw [List.take_length] at H4 H5
      have hcw : wr.heap[h]? = some (.cells #[.slice AK P.length cK, .slice AD P.length cD] 34 (0, 0)) := blk_below HR.out.cell HBr.out
      have hf0 := blk_frozen hcw 0
      have hf1 := blk_frozen hcw 1
      have HCW := Aside0.mk hcw
      obtain ⟨A4, c4, e4⟩ := Kd.R_slice H4.out
      obtain ⟨A5, c5, e5⟩ := Kd.R_slice H5.out
      generalize ((drop46 P key).map (·.f1)).length = n4 at e4
      generalize ((drop46 P key).map (·.f0)).length = n5 at e5
      subst e4 e5
      have hcc0 : wr.cell? ⟨h, 0, none⟩ = some (.slice AK P.length cK) := (blk_cell hcw 0).trans rfl
      have hcc1 : wr.cell? ⟨h, 1, none⟩ = some (.slice AD P.length cD) := (blk_cell hcw 1).trans rfl
      clear hcw
      go_wp2
      go_end0
      exact ⟨rfl, _, _, rturn_of HR.out HB.out HS.out HCW.out H4.out H5.out HN.out HBr.out⟩
theorem RApp.keep {W w1 : World} {base h : Nat} {v v1 : Value} {xs : List Int} {p : Int} {o : Obj} (a : RApp W w1 base h v v1 xs p) (hv : RI W base h v xs) (hc : W.heap[h]? = some o) : w1.heap[h]? = some o := blk_kept hc a.kept (fun hk => hv.1 h hk rfl)
theorem ri_set {w : World} {base h : Nat} {v : Value} {xs : List Int} (hv : RI w base h v xs) (i : Nat) (x : Value) : RI (w.setCell ⟨h, i, none⟩ x) base h v xs :=
  hv.kept (S := fun k => k = h) (Kept.setCell (S := fun k => k = h) (Kept.refl w _) (p := ⟨h, i, none⟩) (.inl rfl) x) (fun q hq e => hv.1 q hq e)
structure RMid (w1 W : World) (base h : Nat) (vK vD v2 : Value) (Q : List S46) (key : Int) : Prop where
  cell : W.heap[h]? = some (.cells #[v2, vD] 34 (0, 0))
  k : RI W base h v2 (Q.map (·.f1) ++ [key])
  d : RI W base h vD (Q.map (·.f0))
  ne : ∀ q, Blk v2 q → ¬ Blk vD q
  bel : Below base w1 W
  kept : Kept w1 W (fun k => k = h ∨ Blk vK k)
  own : ∀ k, Blk v2 k → Blk vK k ∨ w1.heap.size ≤ k
theorem RMid.of {w1 w2 : World} {base h : Nat} {vK vD v2 : Value} {Q : List S46} {key : Int} (r : Ref w1 base h vK vD Q) (a : RApp w1 w2 base h vK v2 (Q.map (·.f1)) key) (hs : base ≤ w1.heap.size) : RMid w1 (w2.setCell ⟨h, 0, none⟩ v2) base h vK vD v2 Q key := by
  have hc := a.keep r.k r.cell
  have hsz := a.kept.1
  refine ⟨blk_put hc 0 v2 rfl, ri_set a.own 0 v2, ri_set (a.other r.d r.ne) 0 v2, a.ne r.d r.ne, ?_, ?_, ?_⟩
  · exact Below.grown a.bel (grownBy_set w2 h 0 v2) (Nat.le_trans hs hsz) (fun k hk => by cases hk; exact r.low)
  · exact Kept.setCell (a.kept.mono (fun k hk => .inr hk)) (p := ⟨h, 0, none⟩) (.inl (.inl rfl)) v2
  · intro k hk
    rcases a.at_ with e | ⟨b, e, hb⟩
    · exact .inl (e.symm.trans hk)
    · exact .inr (by have e2 : b = k := Option.some.inj (e.symm.trans hk); omega)
theorem RTurn.set {w0 w w1 W w4 : World} {base h : Nat} {vK vD vK' vD' v2 v4 : Value} {Q : List S46} {key due : Int} (t : RTurn w0 w base h vK vD vK' vD' Q w1) (m : RMid w1 W base h vK' vD' v2 Q key) (a : RApp W w4 base h vD' v4 (Q.map (·.f0)) due) (hs : base ≤ w.heap.size) :
    RTurn w0 w base h vK vD v2 v4 (Q ++ [⟨due, key⟩]) (w4.setCell ⟨h, 1, none⟩ v4) := by
  have s1 := t.kept.1
  have s2 := m.kept.1
  have s3 := a.kept.1
  have hc := a.keep m.d m.cell
  have ek : (Q ++ [(⟨due, key⟩ : S46)]).map (·.f1) = Q.map (·.f1) ++ [key] := by simp
  have ed : (Q ++ [(⟨due, key⟩ : S46)]).map (·.f0) = Q.map (·.f0) ++ [due] := by simp
  have nn : ∀ q, Blk vD' q → ¬ Blk v2 q := fun q h1 h2 => m.ne q h2 h1
  have own' : ∀ k, Blk vK' k ∨ Blk vD' k → (k = h ∨ Blk vK k ∨ Blk vD k) ∨ w.heap.size ≤ k := fun k hk => (t.own k hk).imp .inr id
  refine ⟨⟨blk_put hc 1 v4 rfl, t.ref.low, ?_, ?_, fun q h2 h4 => a.ne m.k nn q h4 h2⟩, ?_, ?_, ?_⟩
  · rw [ek]; exact ri_set (a.other m.k nn) 1 v4
  · rw [ed]; exact ri_set a.own 1 v4
  · exact Below.grown (Below.trans (Below.trans t.bel m.bel) a.bel) (grownBy_set w4 h 1 v4) (by omega) (fun k hk => by cases hk; exact t.ref.low)
  · refine Kept.setCell ((t.kept.then_ m.kept ?_).then_ a.kept ?_) (p := ⟨h, 1, none⟩) (.inl (.inl rfl)) v4
    · rintro k (rfl | hk)
      · exact .inl (.inl rfl)
      · exact own' k (.inl hk)
    · exact fun k hk => own' k (.inr hk)
  · rintro k (hk | hk)
    · rcases m.own k hk with h1 | h1
      · exact t.own k (.inl h1)
      · exact .inr (by omega)
    · rcases a.at_ with e | ⟨b, e, hb⟩
      · exact t.own k (.inr (e.symm.trans hk))
      · exact .inr (by have e2 : b = k := Option.some.inj (e.symm.trans hk); omega)
def setP (P : List S46) (key due : Int) : List S46 := if due < 0 then P else drop46 P key ++ [⟨due, key⟩]
set_option maxHeartbeats 4000000 in
theorem rset_neg (h : Nat) (w : World) (key due : Int) (hd : due < 0) :
    Calls Try.prog 12 #[.pointer (some ⟨h, 0, none⟩), .int .i64 key, .int .i64 due] w fun e w' => e = .returned (.int .i64 1) ∧ w' = w := by
  go_enter Try.func12, Try.ntmps12
  go_wp2
  go_ret
  exact ⟨rfl, rfl⟩
theorem RI.open {w : World} {base h : Nat} {v : Value} {xs : List Int} (hv : RI w base h v xs) : ∃ A n c, v = .slice A n c := by
  obtain ⟨A, c, e⟩ := Kd.R_slice hv
  exact ⟨A, _, c, e⟩
theorem lit_at (w : World) (p : Addr) (x : Value) : (Value.slice (some ⟨w.heap.size, 0, none⟩) 1 1) = .slice (some ⟨(w.setCell p x).heap.size, 0, none⟩) 1 1 := by simp [World.setCell]
set_option maxHeartbeats 8000000 in
set_option maxRecDepth 100000 in
theorem rset_pos (base h : Nat) (vK vD : Value) (P : List S46) (w0 w : World) (hB : Below base w0 w) (hb : base ≤ w.heap.size) (hr : Ref w base h vK vD P) (hlen : P.length ≤ 1000000) (key due : Int) (hd : ¬ due < 0) :
    Calls Try.prog 12 #[.pointer (some ⟨h, 0, none⟩), .int .i64 key, .int .i64 due] w fun e w' => e = .returned (.int .i64 0) ∧ ∃ vK' vD', RTurn w0 w base h vK vD vK' vD' (drop46 P key ++ [⟨due, key⟩]) w' := by
  have e15 : ∀ args w, (callFunc 15 args).run Try.prog w = .ok (.enter 15 args) w := enters_of Try.func15 (by kernel_rfl) rfl
  have HK := Aside0.mk (rstop_calls base h vK vD P w0 w hB hb hr hlen key)
  have hdl : (drop46 P key).length ≤ P.length := drop46_len P key
  have HL1 := Aside0.mk (show ((drop46 P key).map (·.f1)).length ≤ 1000000 by rw [List.length_map]; omega)
  have HL0 := Aside0.mk (show ((drop46 P key).map (·.f0)).length ≤ 1000000 by rw [List.length_map]; omega)
  have HS := Aside0.mk hb
  have HH := Aside0.mk hr.lt
  clear hB hb hr
  go_enter Try.func12, Try.ntmps12
  go_wp2_with (first
    | (go_at_fn 15; refine HK.out.mono ?_; rintro e w1 ⟨rfl, vK', vD', ht⟩; obtain ⟨AK, nK, cK, rfl⟩ := ht.ref.k.open; obtain ⟨AD, nD, cD, rfl⟩ := ht.ref.d.open; have hc0 : w1.cell? ⟨h, 0, none⟩ = some (.slice AK nK cK) := (blk_cell ht.ref.cell 0).trans rfl; have HT := Aside0.mk ht; clear ht)
    | ((with_reducible refine gate_builtin (b := .append) (xs := #[.tmp 16, .tmp 18]) rfl ?_); at_builtin; refine Kd.R_append (Kd.int .i64) (w0 := w1) base rfl (.tmp 16) (.tmp 18) 22 3 (.int .i64 0) 8 rfl Try.underlying22 info3 rfl (by decide) (by omega) (.slice AK nK cK) ((drop46 P key).map (·.f1)) key [.int .i64 key] (fun q => q ≠ h) (fun _ => False) rfl rfl ?aP (fun _ hk => hk.elim) ?aF ?aO ?aB ?aS ?aL ?_; (case aP => exact rfl); (case aB => exact Below.refl _ _); (case aF => exact fun k hk e => by have := HT.out.ref.lt; omega); (case aO => exact HT.out.ref.k); (case aS => exact Nat.le_trans HS.out HT.out.kept.1); (case aL => have := HL1.out; omega); intro v2 w2 ho2 hb2 hg2 hat2; obtain ⟨A2, n2, c2, rfl⟩ := RI.open ho2; have ha := RApp.of ho2 hb2 hg2 hat2; have hc2 := ha.keep HT.out.ref.k HT.out.ref.cell; have hcc0 : w2.cell? ⟨h, 0, none⟩ = some (.slice AK nK cK) := (blk_cell hc2 0).trans rfl; have hcc1 : w2.cell? ⟨h, 1, none⟩ = some (.slice AD nD cD) := (blk_cell hc2 1).trans rfl; have hff0 := blk_frozen hc2 0; have HM := Aside0.mk (RMid.of HT.out.ref ha (Nat.le_trans HS.out HT.out.kept.1)); clear ho2 hb2 hg2 hat2 ha hc2)
    | ((with_reducible refine gate_builtin (b := .append) (xs := #[.tmp 26, .tmp 28]) rfl ?_); at_builtin; refine Kd.R_append (Kd.int .i64) (w0 := w2.setCell ⟨h, 0, none⟩ (.slice A2 n2 c2)) (W := w2.setCell ⟨h, 0, none⟩ (.slice A2 n2 c2)) base rfl (.tmp 26) (.tmp 28) 22 3 (.int .i64 0) 8 rfl Try.underlying22 info3 rfl (by decide) (by omega) (.slice AD nD cD) ((drop46 P key).map (·.f0)) due [.int .i64 due] (fun q => q ≠ h) (fun _ => False) rfl (lit_at w2 _ _) ?aP (fun _ hk => hk.elim) ?aF ?aO ?aB ?aS ?aL ?_; (case aP => exact rfl); (case aB => exact Below.refl _ _); (case aF => exact fun k hk e => by have h1 := HM.out.kept.1; have h2 := HT.out.ref.lt; omega); (case aO => exact HM.out.d); (case aS => exact Nat.le_trans (Nat.le_trans HS.out HT.out.kept.1) HM.out.kept.1); (case aL => have := HL0.out; omega); intro v4 w4 ho4 hb4 hg4 hat4; obtain ⟨A4, n4, c4, rfl⟩ := RI.open ho4; have ha := RApp.of ho4 hb4 hg4 hat4; have hc4 := ha.keep HM.out.d HM.out.cell; have hdd0 : w4.cell? ⟨h, 0, none⟩ = some (.slice A2 n2 c2) := (blk_cell hc4 0).trans rfl; have hdd1 : w4.cell? ⟨h, 1, none⟩ = some (.slice AD nD cD) := (blk_cell hc4 1).trans rfl; have hgg0 := blk_frozen hc4 1; have HA4 := Aside0.mk ha; clear ho4 hb4 hg4 hat4 ha hc4))
  go_ret
  exact ⟨rfl, _, _, HT.out.set HM.out HA4.out HS.out⟩
theorem rset_calls (base h : Nat) (vK vD : Value) (P : List S46) (w0 w : World) (hB : Below base w0 w) (hb : base ≤ w.heap.size) (hr : Ref w base h vK vD P) (hlen : P.length ≤ 1000000) (key due : Int) :
    Calls Try.prog 12 #[.pointer (some ⟨h, 0, none⟩), .int .i64 key, .int .i64 due] w fun e w' => ∃ r vK' vD', e = .returned (.int .i64 r) ∧ RTurn w0 w base h vK vD vK' vD' (setP P key due) w' := by
  by_cases hd : due < 0
  · refine (rset_neg h w key due hd).mono ?_
    rintro e w' ⟨rfl, rfl⟩
    rw [setP, if_pos hd]
    exact ⟨1, vK, vD, rfl, hr, hB, Kept.refl _ _, fun k hk => .inl hk⟩
  · refine (rset_pos base h vK vD P w0 w hB hb hr hlen key due hd).mono ?_
    rintro e w' ⟨rfl, vK', vD', ht⟩
    rw [setP, if_neg hd]
    exact ⟨0, vK', vD', rfl, ht⟩
def rdueOf (P : List S46) (key : Int) : Int := ((P.find? (fun x => x.f1 == key)).map (·.f0)).getD (-1)
set_option maxHeartbeats 8000000 in
set_option maxRecDepth 100000 in
theorem rdue_calls (base h : Nat) (vK vD : Value) (P : List S46) (w : World) (hr : Ref w base h vK vD P) (key : Int) (hlen : P.length ≤ 1000000) :
    Calls Try.prog 14 #[.pointer (some ⟨h, 0, none⟩), .int .i64 key] w fun e w' => e = .returned (.int .i64 (rdueOf P key)) ∧ Below w.heap.size w w' := by
  obtain ⟨AK, cK, AD, cD, rfl, rfl, hK, hD⟩ := hr.open
  have hc0 : w.cell? ⟨h, 0, none⟩ = some (.slice AK P.length cK) := (blk_cell hr.cell 0).trans rfl
  have hc1 : w.cell? ⟨h, 1, none⟩ = some (.slice AD P.length cD) := (blk_cell hr.cell 1).trans rfl
  have HK := Aside0.mk hK
  have HD := Aside0.mk hD
  clear hr hK hD
  go_enter Try.func14, Try.ntmps14
  go_wp2
  go_loopg [12] P.length (fun gk s12 wr => ∃ i : Nat, s12 = .int .i64 i ∧ i ≤ P.length ∧ P.length - i ≤ gk ∧ Aside0 (rdueOf P key = rdueOf (P.drop i) key) ∧ wr = w)
  case atStart => exact ⟨0, rfl, Nat.zero_le _, by omega, ⟨rfl⟩, rfl⟩
  case round =>
    obtain ⟨i, rfl, hil, hgk, HE, rfl⟩ := hrel
    by_cases hlt : i < P.length
    · have hlz : (i : Int) < (P.length : Int) := by omega
      obtain ⟨adK, eK, hx⟩ := CI_at HK.out i (by simpa using hlt)
      obtain ⟨adD, eD, hy⟩ := CI_at HD.out i (by simpa using hlt)
      rw [List.getElem_map] at hx hy
      subst eK eD
      have hdr := List.drop_eq_getElem_cons hlt
      by_cases hkey : P[i].f1 = key
      · have hres : rdueOf P key = P[i].f0 := by
          rw [HE.out, hdr]; unfold rdueOf; rw [List.find?_cons_of_pos (by simpa using hkey)]; rfl
        have HRES := Aside0.mk hres
        clear hdr hres HE
        generalize P[i].f0 = y0 at hy HRES
        generalize P[i].f1 = y1 at hx hkey
        subst hkey
        go_wp2
        go_ret
        exact ⟨by rw [HRES.out]; rfl, Below.refl _ _⟩
      · have hres : rdueOf P key = rdueOf (P.drop (i + 1)) key := by
          rw [HE.out, hdr]; unfold rdueOf; rw [List.find?_cons_of_neg (by simpa using hkey)]
        have HE2 := Aside0.mk hres
        clear hdr hres HE
        generalize P[i].f0 = y0 at hy
        generalize P[i].f1 = y1 at hx hkey
        go_wp2
        go_roundg (P.length - (i + 1))
        case measure => omega
        case rel => exact ⟨i + 1, by go_num, by omega, Nat.le_refl _, HE2, rfl⟩
    · have e : i = P.length := by omega
      subst e
      have hres : rdueOf P key = -1 := by rw [HE.out, List.drop_length]; rfl
      have HRES := Aside0.mk hres
      clear hres HE
      go_wp2
      go_ret
      exact ⟨by rw [HRES.out]; rfl, Below.refl _ _⟩
end Go.Proofs.Ytpcmleeiaffkeaa.QWhl
namespace Go.Proofs.Ytpcmleeiaffkeaa.QWhl
open Go.RowKit Go.Proofs.YtpcmleeiaffkeaaW.PrintWords Go.Proofs.YtpcmleeiaffkeaaW.PrintLast Go.Proofs.YtpcmleeiaffkeaaW.PrintMore
set_option linter.unusedVariables false
set_option linter.unusedSimpArgs false
structure Sm (L P : List S46) : Prop where
  perm : L.Perm P
  nd : (P.map (·.f1)).Nodup
  pos : ∀ x ∈ P, 0 ≤ x.f0
theorem Sm.nil : Sm [] [] := ⟨List.Perm.refl _, List.nodup_nil, fun x h => by cases h⟩
theorem perm_insR (t : S46) : ∀ l : List S46, (insR t l).Perm (t :: l)
  | [] => List.Perm.refl _
  | x :: r => by
    unfold insR
    split
    · exact ((perm_insR t r).cons x).trans (List.Perm.swap t x r)
    · exact List.Perm.refl _
theorem Sm.set {L P : List S46} (h : Sm L P) (hs : L.Pairwise lx) (key due : Int) : Sm (setf L key due) (setP P key due) := by
  unfold setf setP
  by_cases hd : due < 0
  · rw [if_pos hd, if_pos hd]; exact h
  · rw [if_neg hd, if_neg hd, ins46_eq _ _ (drop46_sorted hs key)]
    have hp : (drop46 L key).Perm (drop46 P key) := h.perm.filter _
    refine ⟨((perm_insR _ _).trans (hp.cons _)).trans (List.perm_append_comm (l₁ := [(⟨due, key⟩ : S46)])), ?_, ?_⟩
    · rw [List.map_append, List.nodup_append]
      refine ⟨h.nd.sublist (List.Sublist.map _ (by unfold drop46; exact List.filter_sublist)), by simp, ?_⟩
      intro a ha b hb
      have hb2 : b = key := by simpa using hb
      subst hb2
      obtain ⟨x, hx, rfl⟩ := List.mem_map.1 ha
      unfold drop46 at hx
      have := (List.mem_filter.1 hx).2
      simpa using this
    · intro x hx
      rcases List.mem_append.1 hx with h1 | h1
      · unfold drop46 at h1; exact h.pos x (List.mem_filter.1 h1).1
      · have : x = ⟨due, key⟩ := by simpa using h1
        subst this
        show 0 ≤ due
        omega
theorem drop46_head {x : S46} {R : List S46} (h : ((x :: R).map (·.f1)).Nodup) : drop46 (x :: R) x.f1 = R := by
  unfold drop46
  rw [List.filter_cons_of_neg (by simp)]
  rw [List.map_cons, List.nodup_cons] at h
  refine List.filter_eq_self.2 (fun y hy => ?_)
  simp only [decide_eq_true_eq]
  intro e
  exact h.1 (e ▸ List.mem_map.2 ⟨y, hy, rfl⟩)
theorem rdue_mem {P : List S46} (h : (P.map (·.f1)).Nodup) {x : S46} (hx : x ∈ P) : rdueOf P x.f1 = x.f0 := by
  unfold rdueOf
  induction P with
  | nil => cases hx
  | cons y r ih =>
    rw [List.map_cons, List.nodup_cons] at h
    rcases List.mem_cons.1 hx with rfl | hx
    · rw [List.find?_cons_of_pos (by simp)]; rfl
    · rw [List.find?_cons_of_neg (by simp; intro e; exact h.1 (e ▸ List.mem_map.2 ⟨x, hx, rfl⟩))]
      exact ih h.2 hx
theorem Sm.stop {x : S46} {R P : List S46} (h : Sm (x :: R) P) : rdueOf P x.f1 = x.f0 ∧ Sm R (drop46 P x.f1) := by
  have hx : x ∈ P := h.perm.subset (List.mem_cons_self)
  have hn : ((x :: R).map (·.f1)).Nodup := ((h.perm.map (·.f1)).nodup_iff).2 h.nd
  refine ⟨rdue_mem h.nd hx, ?_, h.nd.sublist (List.Sublist.map _ (by unfold drop46; exact List.filter_sublist)), fun y hy => by unfold drop46 at hy; exact h.pos y (List.mem_filter.1 hy).1⟩
  have := h.perm.filter (fun y => decide (y.f1 ≠ x.f1))
  have e : (x :: R).filter (fun y => decide (y.f1 ≠ x.f1)) = R := drop46_head hn
  rw [e] at this
  exact this
theorem pop_split {L : List S46} (hs : L.Pairwise lx) (t : Int) (hlo : ∀ x ∈ L, t ≤ x.f0) : (∀ x ∈ L.takeWhile (dueBy t), x.f0 = t) ∧ (∀ x ∈ L.dropWhile (dueBy t), t + 1 ≤ x.f0) := by
  constructor
  · intro x hx
    have h1 := hlo x (List.takeWhile_sublist _ |>.subset hx)
    have h2 : dueBy t x = true := List.all_eq_true.1 (List.all_takeWhile (p := dueBy t) (l := L)) x hx
    unfold dueBy at h2
    have := of_decide_eq_true h2
    omega
  · induction L with
    | nil => intro x hx; cases hx
    | cons y r ih =>
      have hp := List.pairwise_cons.1 hs
      intro x hx
      by_cases hy : dueBy t y = true
      · rw [List.dropWhile_cons_of_pos hy] at hx
        exact ih hp.2 (fun z hz => hlo z (List.mem_cons_of_mem _ hz)) x hx
      · rw [List.dropWhile_cons_of_neg hy] at hx
        have hy2 : t + 1 ≤ y.f0 := by
          unfold dueBy at hy
          have : ¬ y.f0 ≤ t := fun h => hy (decide_eq_true h)
          omega
        rcases List.mem_cons.1 hx with rfl | hx
        · exact hy2
        · have := hp.1 x hx
          unfold lx at this
          omega
structure Duo (w0 : World) (base g h : Nat) (v vK vD : Value) (L P : List S46) (W : World) : Prop where
  a : Whl W base g v L
  r : Ref W base h vK vD P
  ne : g ≠ h
  n1 : ∀ k, Blk v k → k ≠ h ∧ ¬ Blk vK k ∧ ¬ Blk vD k
  n2 : ¬ Blk vK g ∧ ¬ Blk vD g
  bel : Below base w0 W
section
variable {w0 w W W' : World} {base g h : Nat} {v v' vK vD vK' vD' : Value} {L L' P P' : List S46}
theorem Duo.below (d : Duo w0 base g h v vK vD L P W) (hb : Below W.heap.size W W') (hs : base ≤ W.heap.size) : Duo w0 base g h v vK vD L P W' :=
  ⟨d.a.below hb, d.r.below hb, d.ne, d.n1, d.n2, Below.grown d.bel (grownBy_below (r := none) hb) hs (fun k hk => by cases hk)⟩
theorem Duo.turn (d : Duo w0 base g h v vK vD L P W) (t : WTurn w0 W base g v v' L' W') : Duo w0 base g h v' vK vD L' P W' := by
  refine ⟨t.whl, d.r.kept t.kept ?_ ?_ ?_, d.ne, ?_, d.n2, t.bel⟩
  · rintro (e | e)
    · exact d.ne e.symm
    · exact (d.n1 h e).1 rfl
  · rintro k hk (e | e)
    · exact d.n2.1 (e ▸ hk)
    · exact (d.n1 k e).2.1 hk
  · rintro k hk (e | e)
    · exact d.n2.2 (e ▸ hk)
    · exact (d.n1 k e).2.2 hk
  · intro k hk
    rcases t.own with e | e
    · exact d.n1 k (e.symm.trans hk)
    · have h1 := e k hk
      have h2 := d.r.lt
      exact ⟨by omega, fun h3 => by have := d.r.k.lt k h3; omega, fun h3 => by have := d.r.d.lt k h3; omega⟩
theorem Duo.rturn (d : Duo w0 base g h v vK vD L P W) (t : RTurn w0 W base h vK vD vK' vD' P' W') : Duo w0 base g h v vK' vD' L P' W' := by
  have hg := d.a.lt
  refine ⟨d.a.kept t.kept ?_ ?_, t.ref, d.ne, ?_, ?_, t.bel⟩
  · rintro (e | e | e)
    · exact d.ne e
    · exact d.n2.1 e
    · exact d.n2.2 e
  · rintro k hk (e | e | e)
    · exact (d.n1 k hk).1 e
    · exact (d.n1 k hk).2.1 e
    · exact (d.n1 k hk).2.2 e
  · intro k hk
    have h1 := d.n1 k hk
    have h2 := own_lt d.a.row k hk
    refine ⟨h1.1, fun h3 => ?_, fun h3 => ?_⟩
    · rcases t.own k (.inl h3) with (h4 | h4) | h4
      · exact h1.2.1 h4
      · exact h1.2.2 h4
      · omega
    · rcases t.own k (.inr h3) with (h4 | h4) | h4
      · exact h1.2.1 h4
      · exact h1.2.2 h4
      · omega
  · constructor
    · intro h3
      rcases t.own g (.inl h3) with (h4 | h4) | h4
      · exact d.n2.1 h4
      · exact d.n2.2 h4
      · omega
    · intro h3
      rcases t.own g (.inr h3) with (h4 | h4) | h4
      · exact d.n2.1 h4
      · exact d.n2.2 h4
      · omega
end
def Apt (W : World) (h : Nat) (vK vD : Value) (k : Nat) : Prop := k ≠ h ∧ ¬ Blk vK k ∧ ¬ Blk vD k ∧ k < W.heap.size
structure Trio (w0 : World) (base g h : Nat) (A : Option Addr) (c : Nat) (L : List S46) (B : Option Addr) (keys : List Int) (vK vD : Value) (P : List S46) (W : World) : Prop where
  rd : WRead W g A c L
  low : base ≤ g
  row : Kd.C (Kd.int .i64) W B keys.length keys
  ref : Ref W base h vK vD P
  ag : Apt W h vK vD g
  aA : ∀ ad, A = some ad → Apt W h vK vD ad.block
  aB : ∀ ad, B = some ad → Apt W h vK vD ad.block ∧ ad.block ≠ g
  bel : Below base w0 W
  sz : base ≤ W.heap.size
section
variable {w0 w W W' : World} {base g h c c' : Nat} {A A' B B' : Option Addr} {v v' vK vD vK' vD' : Value} {L L' P P' : List S46} {keys : List Int}
theorem Apt.turn {k : Nat} (a : Apt W h vK vD k) (t : RTurn w0 W base h vK vD vK' vD' P' W') : Apt W' h vK' vD' k := by
  refine ⟨a.1, fun h3 => ?_, fun h3 => ?_, Nat.lt_of_lt_of_le a.2.2.2 t.kept.1⟩
  · rcases t.own k (.inl h3) with (h4 | h4) | h4
    · exact a.2.1 h4
    · exact a.2.2.1 h4
    · exact absurd a.2.2.2 (Nat.not_lt_of_le h4)
  · rcases t.own k (.inr h3) with (h4 | h4) | h4
    · exact a.2.1 h4
    · exact a.2.2.1 h4
    · exact absurd a.2.2.2 (Nat.not_lt_of_le h4)
theorem Apt.out {k : Nat} (a : Apt W h vK vD k) : ¬ (k = h ∨ Blk vK k ∨ Blk vD k) := by
  rintro (e | e | e)
  · exact a.1 e
  · exact a.2.1 e
  · exact a.2.2.1 e
theorem Apt.grow {k : Nat} (a : Apt W h vK vD k) (hs : W.heap.size ≤ W'.heap.size) : Apt W' h vK vD k := ⟨a.1, a.2.1, a.2.2.1, Nat.lt_of_lt_of_le a.2.2.2 hs⟩
theorem Trio.of_duo (d : Duo w0 base g h v vK vD L P W) (hs : base ≤ W.heap.size) : ∃ A c, Trio w0 base g h A c L none [] vK vD P W := by
  obtain ⟨A, c, rfl, hr⟩ := d.a.read
  refine ⟨A, c, hr, d.a.low, Kd.C_nil _ _, d.r, ⟨d.ne, d.n2.1, d.n2.2, d.a.lt⟩, ?_, fun ad e => (by cases e), d.bel, hs⟩
  rintro ad rfl
  have hk : Blk (.slice (some ad) L.length c) ad.block := rfl
  obtain ⟨h1, h2, h3⟩ := d.n1 _ hk
  exact ⟨h1, h2, h3, own_lt d.a.row _ hk⟩
theorem Trio.rturn (d : Trio w0 base g h A c L B keys vK vD P W) (t : RTurn w0 W base h vK vD vK' vD' P' W') : Trio w0 base g h A c L B keys vK' vD' P' W' :=
  ⟨⟨blk_kept d.rd.cell t.kept d.ag.out, C46_kept d.rd.row t.kept (fun ad e => (d.aA ad e).out), d.rd.fits, d.rd.ne⟩, d.low, CI_kept d.row t.kept (fun ad e => (d.aB ad e).1.out), t.ref, d.ag.turn t, fun ad e => (d.aA ad e).turn t, fun ad e => ⟨(d.aB ad e).1.turn t, (d.aB ad e).2⟩, t.bel, Nat.le_trans d.sz t.kept.1⟩
theorem Trio.below (d : Trio w0 base g h A c L B keys vK vD P W) (hb : Below W.heap.size W W') : Trio w0 base g h A c L B keys vK vD P W' :=
  ⟨d.rd.below hb, d.low, Kd.C_below d.row hb, d.ref.below hb, d.ag.grow hb.size, fun ad e => (d.aA ad e).grow hb.size, fun ad e => ⟨(d.aB ad e).1.grow hb.size, (d.aB ad e).2⟩, Below.grown d.bel (grownBy_below (r := none) hb) d.sz (fun k hk => by cases hk), Nat.le_trans d.sz hb.size⟩
theorem Trio.pop {now : Int} {u : Value} (d : Trio w0 base g h A c L B keys vK vD P W) (p : PopR (fun k => Apt W h vK vD k ∧ k ≠ g) w0 W base g L now u W') :
    ∃ A' c' B' cB, u = .slice B' ((L.takeWhile (dueBy now)).map (·.f1)).length cB ∧ Trio w0 base g h A' c' (L.dropWhile (dueBy now)) B' ((L.takeWhile (dueBy now)).map (·.f1)) vK vD P W' := by
  obtain ⟨A', c', hr, hN⟩ := p.left
  obtain ⟨B', cB, e⟩ := Kd.R_slice p.out
  have hsz := p.kept.1
  have ho := p.out
  rw [e] at ho
  refine ⟨A', c', B', cB, e, hr, d.low, (Kd.R_reads' ho).2.2, d.ref.kept p.kept (fun e => d.ag.1 e.symm) (fun q hq e => d.ag.2.1 (e ▸ hq)) (fun q hq e => d.ag.2.2.1 (e ▸ hq)), d.ag.grow hsz, fun ad e => (hN ad e).1.grow hsz, ?_, p.bel, Nat.le_trans d.sz hsz⟩
  rintro ad rfl
  have hk : (Value.slice (some ad) ((L.takeWhile (dueBy now)).map (·.f1)).length cB).ownBlock = some ad.block := rfl
  have h1 := Kd.R_base ho _ hk
  have h2 := Kd.R_lt ho _ hk
  have h3 := d.ref.lt
  have h4 := d.ag.2.2.2
  exact ⟨⟨by omega, fun h5 => by have := d.ref.k.lt _ h5; omega, fun h5 => by have := d.ref.d.lt _ h5; omega, h2⟩, by omega⟩
end
end Go.Proofs.Ytpcmleeiaffkeaa.QWhl
namespace Go.Proofs.Ytpcmleeiaffkeaa.QWhl
open Go.RowKit Go.Proofs.YtpcmleeiaffkeaaW.PrintWords Go.Proofs.YtpcmleeiaffkeaaW.PrintLast Go.Proofs.YtpcmleeiaffkeaaW.PrintMore
set_option linter.unusedVariables false
set_option linter.unusedSimpArgs false
def kissgatelaw09_WheelPops.f (l0 : List S36) (a1 : Int) : Option Bool := some true
set_option maxHeartbeats 8000000 in
set_option maxRecDepth 100000 in
theorem pops_great (A0 : Option Addr) (c0 : Nat) (l0 : List S36) (a1 : Int) (w : World) (h : ¬ (l0.length ≤ 100 ∧ 0 ≤ a1 ∧ a1 ≤ 200)) :
    Calls Try.prog 4 #[.slice A0 l0.length c0, .int .i64 a1] w fun e w' => e = .returned (.bool true) ∧ Below w.heap.size w w' := by
  have e6 : ∀ args w, (callFunc 6 args).run Try.prog w = .ok (.enter 6 args) w := enters_of Try.func6 (by kernel_rfl) rfl
  have key : (100 : Int) < (l0.length : Int) ∨ (¬ (100 : Int) < (l0.length : Int) ∧ a1 < 0) ∨ (¬ (100 : Int) < (l0.length : Int) ∧ ¬ a1 < 0 ∧ 200 < a1) := by omega
  clear h
  rcases key with h1 | ⟨h1, h2⟩ | ⟨h1, h2, h3⟩
  all_goals
    go_enter Try.func4, Try.ntmps4
    go_wp2_with (go_at_fn 6; refine (alive_calls w).mono ?_; rintro e w1 ⟨rfl, hb1⟩; have HB1 := Aside0.mk hb1; clear hb1)
    go_ret
    exact ⟨rfl, HB1.out⟩
theorem Duo.start {w w1 w2 w3 : World} {g h : Nat} (hb1 : Below w.heap.size w w1) (hw2 : Whl w2 w.heap.size g (.slice none 0 0) []) (hb2 : Below w1.heap.size w1 w2) (hx : w3.heap[h]? = some (.cells #[.slice none 0 0, .slice none 0 0] 34 (0, 0))) (hb3 : Below w2.heap.size w2 w3) (hg3 : h = w2.heap.size) :
    Duo w w.heap.size g h (.slice none 0 0) (.slice none 0 0) (.slice none 0 0) [] [] w3 := by
  have h1 := hw2.lt
  have h2 := hb1.size
  have h3 := hb2.size
  exact ⟨hw2.below hb3, ⟨hx, by omega, Kd.R_nil _ _ _ _ _, Kd.R_nil _ _ _ _ _, fun q hq => absurd hq (nil_no q)⟩, by omega, fun k hk => absurd hk (nil_no k), ⟨nil_no g, nil_no g⟩, below_step (below_step hb1 hb2) hb3⟩
theorem set_duo_calls (base g h : Nat) (v vK vD : Value) (L P : List S46) (w0 w : World) (d : Duo w0 base g h v vK vD L P w) (hb : base ≤ w.heap.size) (hs : L.Pairwise lx) (hlen : L.length ≤ 1000000) (key due : Int) :
    Calls Try.prog 11 #[.pointer (some ⟨g, 0, none⟩), .int .i64 key, .int .i64 due] w fun e w' => ∃ r v', e = .returned (.int .i64 r) ∧ Duo w0 base g h v' vK vD (setf L key due) P w' ∧ Kept w w' (fun k => k = g ∨ Blk v k) := by
  refine (set_calls base g v L w0 w d.bel hb d.a hs hlen key due).mono ?_
  rintro e w' ⟨rfl, v', ht⟩
  exact ⟨_, v', rfl, d.turn ht, ht.kept⟩
theorem rset_duo_calls (base g h : Nat) (v vK vD : Value) (L P : List S46) (w0 w : World) (d : Duo w0 base g h v vK vD L P w) (hb : base ≤ w.heap.size) (hlen : P.length ≤ 1000000) (key due : Int) :
    Calls Try.prog 12 #[.pointer (some ⟨h, 0, none⟩), .int .i64 key, .int .i64 due] w fun e w' => ∃ r vK' vD', e = .returned (.int .i64 r) ∧ Duo w0 base g h v vK' vD' L (setP P key due) w' := by
  refine (rset_calls base h vK vD P w0 w d.bel hb d.r hlen key due).mono ?_
  rintro e w' ⟨r, vK', vD', rfl, ht⟩
  exact ⟨r, vK', vD', rfl, d.rturn ht⟩
theorem pop_trio_calls (base g h c : Nat) (A : Option Addr) (L P : List S46) (vK vD : Value) (w0 w : World) (d : Trio w0 base g h A c L none [] vK vD P w) (hlen : L.length ≤ 1000000) (now : Int) :
    Calls Try.prog 13 #[.pointer (some ⟨g, 0, none⟩), .int .i64 now] w fun e w' => ∃ A' c' B' cB, e = .returned (.slice B' ((L.takeWhile (dueBy now)).map (·.f1)).length cB) ∧ Trio w0 base g h A' c' (L.dropWhile (dueBy now)) B' ((L.takeWhile (dueBy now)).map (·.f1)) vK vD P w' := by
  refine (pop_calls (fun k => Apt w h vK vD k ∧ k ≠ g) base g c A L w0 w d.bel d.sz d.rd d.low hlen now (fun _ h => h.2) (fun ad e => ⟨d.aA ad e, d.rd.ne ad e⟩)).mono ?_
  rintro e w' ⟨u, rfl, hp⟩
  obtain ⟨A', c', B', cB, rfl, ht⟩ := d.pop hp
  exact ⟨A', c', B', cB, rfl, ht⟩
theorem stop_trio_calls (base g h c : Nat) (A B : Option Addr) (keys : List Int) (L P : List S46) (vK vD : Value) (w0 w : World) (d : Trio w0 base g h A c L B keys vK vD P w) (hlen : P.length ≤ 1000000) (key : Int) :
    Calls Try.prog 15 #[.pointer (some ⟨h, 0, none⟩), .int .i64 key] w fun e w' => e = .returned (.tuple #[]) ∧ ∃ vK' vD', Trio w0 base g h A c L B keys vK' vD' (drop46 P key) w' := by
  refine (rstop_calls base h vK vD P w0 w d.bel d.sz d.ref hlen key).mono ?_
  rintro e w' ⟨rfl, vK', vD', ht⟩
  exact ⟨rfl, vK', vD', d.rturn ht⟩
theorem Trio.forget {w0 W : World} {base g h c : Nat} {A B : Option Addr} {vK vD : Value} {L P : List S46} {keys : List Int} (d : Trio w0 base g h A c L B keys vK vD P W) : Trio w0 base g h A c L none [] vK vD P W :=
  ⟨d.rd, d.low, Kd.C_nil _ _, d.ref, d.ag, d.aA, fun ad e => (by cases e), d.bel, d.sz⟩
set_option maxHeartbeats 8000000 in
set_option maxRecDepth 100000 in
theorem pops_walk (A0 : Option Addr) (c0 : Nat) (l0 : List S36) (m : Nat) (w : World) (hr0 : Kd.C k36 w A0 l0.length l0) (hl0 : l0.length ≤ 100) (hm : m ≤ 200) :
    Calls Try.prog 4 #[.slice A0 l0.length c0, .int .i64 (m : Int)] w fun e w' => e = .returned (.bool true) ∧ Below w.heap.size w w' := by
  have e6 : ∀ args w, (callFunc 6 args).run Try.prog w = .ok (.enter 6 args) w := enters_of Try.func6 (by kernel_rfl) rfl
  have e10 : ∀ args w, (callFunc 10 args).run Try.prog w = .ok (.enter 10 args) w := enters_of Try.func10 (by kernel_rfl) rfl
  have e11 : ∀ args w, (callFunc 11 args).run Try.prog w = .ok (.enter 11 args) w := enters_of Try.func11 (by kernel_rfl) rfl
  have e12 : ∀ args w, (callFunc 12 args).run Try.prog w = .ok (.enter 12 args) w := enters_of Try.func12 (by kernel_rfl) rfl
  have e13 : ∀ args w, (callFunc 13 args).run Try.prog w = .ok (.enter 13 args) w := enters_of Try.func13 (by kernel_rfl) rfl
  have e14 : ∀ args w, (callFunc 14 args).run Try.prog w = .ok (.enter 14 args) w := enters_of Try.func14 (by kernel_rfl) rfl
  have e15 : ∀ args w, (callFunc 15 args).run Try.prog w = .ok (.enter 15 args) w := enters_of Try.func15 (by kernel_rfl) rfl
  have e16 : ∀ args w, (callFunc 16 args).run Try.prog w = .ok (.enter 16 args) w := enters_of Try.func16 (by kernel_rfl) rfl
  have HR0 := Aside0.mk hr0
  clear hr0
  have g1 : ¬ (100 : Int) < (l0.length : Int) := by omega
  have g2 : ¬ (m : Int) < 0 := by omega
  have g3 : ¬ (200 : Int) < (m : Int) := by omega
  go_enter Try.func4, Try.ntmps4
  go_wp2_with (first
    | (go_at_fn 6; refine (alive_calls w).mono ?_; rintro e w1 ⟨rfl, hb1⟩; have HB1 := Aside0.mk hb1; clear hb1)
    | (go_at_fn 10; with_reducible refine (new_calls w.heap.size w1 HB1.out.size).mono ?_; rintro e w2 ⟨g, rfl, hw2, hb2, hg2⟩; have HW2 := Aside0.mk hw2; have HB2 := Aside0.mk hb2; have HG2 := Aside0.mk hg2; clear hw2 hb2 hg2)
    | ((with_reducible refine gate_dst (N := 30) rfl ?_); refine box_event ?hg (N := 30) ?hd (cs := #[.slice none 0 0, .slice none 0 0]) (t := 34) ?hr ?_; (case hd => rfl); (case hg => rfl); (case hr => first | (go_simp; done) | (go_simp; rfl)); intro h hg w3 hbox hb3; have HD3 := Aside0.mk (Duo.start HB1.out HW2.out HB2.out hbox hb3 hg); clear hbox hb3 hg))
  go_loopg [33] l0.length (fun gk s33 wr => ∃ (i : Nat) (v vK vD : Value) (L P : List S46), s33 = .int .i64 i ∧ i ≤ l0.length ∧ l0.length - i ≤ gk ∧ L.length ≤ i ∧ L.Pairwise lx ∧ Sm L P ∧ Aside0 (Duo w w.heap.size g h v vK vD L P wr))
  case atStart => exact ⟨0, _, _, _, [], [], rfl, Nat.zero_le _, by omega, Nat.le_refl _, List.Pairwise.nil, Sm.nil, HD3⟩
  case round =>
    obtain ⟨i, v, vK, vD, L, P, rfl, hil, hgk, hLi, hLs, hSm, HT⟩ := hrel
    have hPL : P.length = L.length := hSm.perm.length_eq.symm
    by_cases hlt : i < l0.length
    · have hlz : (i : Int) < (l0.length : Int) := by omega
      obtain ⟨ad, e, hx0, hx1, hx2⟩ := at_T36 (Kd.C_below HR0.out HT.out.bel) (i : Int) (by omega) hlz
      rw [rd36 hlt, Int.toNat_natCast] at hx0 hx1 hx2
      subst e
      generalize l0[i].f0 = q0 at hx0
      generalize l0[i].f1 = q1 at hx1
      generalize l0[i].f2 = q2 at hx2
      go_wp2_with (first
        | ((with_reducible refine gate_dst (N := 8) rfl ?_); refine box_event ?hg (N := 8) ?hd (cs := #[.int .i64 0, .int .i64 0, .int .i64 0]) (t := 36) ?hr ?_; (case hd => rfl); (case hg => rfl); (case hr => first | (go_simp; done) | (go_simp; rfl)); intro tb hg w4 hbox hb4; have hcz0 : w4.cell? ⟨tb, 0, none⟩ = some (.int .i64 0) := (blk_cell hbox 0).trans rfl; have hcz1 : w4.cell? ⟨tb, 1, none⟩ = some (.int .i64 0) := (blk_cell hbox 1).trans rfl; have hcz2 : w4.cell? ⟨tb, 2, none⟩ = some (.int .i64 0) := (blk_cell hbox 2).trans rfl; have hfz0 := blk_frozen hbox 0; have hfz1 := blk_frozen hbox 1; have hfz2 := blk_frozen hbox 2; have HX := Aside0.mk hbox; have HB4 := Aside0.mk hb4; have HG := Aside0.mk hg; clear hbox hb4 hg))
      have B4 : Below wr.heap.size wr (((w4.setCell ⟨tb, 0, none⟩ (.int .i64 q0)).setCell ⟨tb, 1, none⟩ (.int .i64 q1)).setCell ⟨tb, 2, none⟩ (.int .i64 q2)) :=
        below_set (below_set (below_set HB4.out (Nat.le_of_eq HG.out.symm)) (Nat.le_of_eq HG.out.symm)) (Nat.le_of_eq HG.out.symm)
      have X4 : (((w4.setCell ⟨tb, 0, none⟩ (.int .i64 q0)).setCell ⟨tb, 1, none⟩ (.int .i64 q1)).setCell ⟨tb, 2, none⟩ (.int .i64 q2)).heap[tb]? = some (.cells #[.int .i64 q0, .int .i64 q1, .int .i64 q2] 36 (0, 0)) :=
        blk_put (blk_put (blk_put HX.out 0 _ rfl) 1 _ rfl) 2 _ rfl
      generalize ((w4.setCell ⟨tb, 0, none⟩ (.int .i64 q0)).setCell ⟨tb, 1, none⟩ (.int .i64 q1)).setCell ⟨tb, 2, none⟩ (.int .i64 q2) = W4 at *
      have T4 := HT.out.below B4 HT.out.bel.size
      have hne : tb ≠ g := by have h1 := HT.out.a.lt; have h2 := HG.out; omega
      have hnb : ¬ Blk v tb := fun hk => by have h1 := own_lt HT.out.a.row tb hk; have h2 := HG.out; omega
      refine (set_duo_calls w.heap.size g h v vK vD L P w W4 T4 T4.bel.size hLs (by omega) q1 q2).mono ?_
      rintro e w5 ⟨r5, v', rfl, t5, k5⟩
      have X5 := blk_kept X4 k5 (fun h => h.elim hne hnb)
      have hq1 : w5.cell? ⟨tb, 1, none⟩ = some (.int .i64 q1) := (blk_cell X5 1).trans rfl
      have hq2 : w5.cell? ⟨tb, 2, none⟩ = some (.int .i64 q2) := (blk_cell X5 2).trans rfl
      have HT5 := Aside0.mk t5
      clear X5 X4 B4 T4 t5 k5
      go_wp2_with (go_at_fn 12; refine (rset_duo_calls w.heap.size g h v' vK vD (setf L q1 q2) P w w5 HT5.out HT5.out.bel.size (by omega) q1 q2).mono ?_; rintro e w6 ⟨r6, vK', vD', rfl, t6⟩; have HT6 := Aside0.mk t6; clear t6)
      go_roundg (l0.length - (i + 1))
      case measure => omega
      case rel => exact ⟨i + 1, v', vK', vD', setf L q1 q2, setP P q1 q2, by go_num, by omega, Nat.le_refl _, by have := setf_len hLs q1 q2; omega, setf_sorted hLs q1 q2, hSm.set hLs q1 q2, HT6⟩
    · have e : i = l0.length := by omega
      subst e
      obtain ⟨A, c, hT⟩ := Trio.of_duo HT.out HT.out.bel.size
      have HTR := Aside0.mk hT
      clear hT
      go_wp2
      go_loopg [9, 10] (m + 1) (fun gk s9 s10 wr => ∃ (t : Nat) (n : Int) (A : Option Addr) (c : Nat) (vK vD : Value) (L P : List S46), s9 = .int .i64 n ∧ s10 = .int .i64 t ∧ t ≤ m + 1 ∧ m + 1 - t ≤ gk ∧ L.length ≤ 100 ∧ L.Pairwise lx ∧ Sm L P ∧ (∀ x ∈ L, (t : Int) ≤ x.f0) ∧ Aside0 (Trio w w.heap.size g h A c L none [] vK vD P wr))
      case atStart => exact ⟨0, 0, A, c, vK, vD, L, P, rfl, rfl, by omega, by omega, by omega, hLs, hSm, fun x hx => hSm.pos x (hSm.perm.subset hx), HTR⟩
      case round =>
        clear HTR hLi hLs hSm hPL
        obtain ⟨t, n, A, c, vK, vD, L, P, rfl, rfl, htm, hgt, hLL, hLs, hSm, hlo, HT⟩ := hrel
        by_cases htt : t ≤ m
        · have htz : (t : Int) ≤ (m : Int) := by omega
          have HPC := Aside0.mk (pop_trio_calls w.heap.size g h c A L P vK vD w wr HT.out (by omega) (t : Int))
          obtain ⟨hs1, hs2⟩ := pop_split hLs (t : Int) hlo
          have hap : L.takeWhile (dueBy (t : Int)) ++ L.dropWhile (dueBy (t : Int)) = L := List.takeWhile_append_dropWhile
          have hs3 : (L.dropWhile (dueBy (t : Int))).Pairwise lx := hLs.sublist (List.dropWhile_sublist _)
          rw [← hap] at hSm
          have hlen : (L.takeWhile (dueBy (t : Int))).length + (L.dropWhile (dueBy (t : Int))).length ≤ 100 := by rw [← List.length_append, hap]; exact hLL
          clear hap hlo hLs hLL HT
          generalize L.takeWhile (dueBy (t : Int)) = L1 at *
          generalize L.dropWhile (dueBy (t : Int)) = L2 at *
          go_wp2_with (go_at_fn 13; refine HPC.out.mono ?_; rintro e w5 ⟨A', c', B', cB, rfl, t5⟩; have HT5 := Aside0.mk t5; clear t5)
          go_loopg [9, 59] L1.length (fun gk s9 s59 wr => ∃ (j : Nat) (n : Int) (vK vD : Value) (P : List S46), s9 = .int .i64 n ∧ s59 = .int .i64 j ∧ j ≤ L1.length ∧ L1.length - j ≤ gk ∧ Sm (L1.drop j ++ L2) P ∧ Aside0 (Trio w w.heap.size g h A' c' L2 B' (L1.map (·.f1)) vK vD P wr))
          case atStart => exact ⟨0, n, vK, vD, P, rfl, rfl, Nat.zero_le _, by omega, hSm, HT5⟩
          case round =>
            clear HPC HT5 hSm
            obtain ⟨j, n, vK, vD, P, rfl, rfl, hjl, hgj, hSm, HT⟩ := hrel
            by_cases hjt : j < L1.length
            · have hjm : j < (L1.map (·.f1)).length := by simpa using hjt
              have hjz : (j : Int) < ((L1.map (·.f1)).length : Int) := by omega
              obtain ⟨ad, e, hx⟩ := CI_at HT.out.row j hjm
              rw [List.getElem_map] at hx
              subst e
              rw [List.drop_eq_getElem_cons hjt, List.cons_append] at hSm
              have hPl : P.length ≤ 100 := by have := hSm.perm.length_eq; simp at this; omega
              obtain ⟨hdue, hSm2⟩ := hSm.stop
              rw [hs1 _ (List.getElem_mem hjt)] at hdue
              have HRD := Aside0.mk (rdue_calls w.heap.size h vK vD P)
              generalize hkey : L1[j].f1 = key at hx hdue hSm2
              have HDU := Aside0.mk hdue
              have HSM2 := Aside0.mk hSm2
              have HJZ := Aside0.mk hjz
              clear hdue hSm2 hSm hkey
              go_wp2_with (first
                | (go_at_fn 14; refine (rdue_calls w.heap.size h vK vD P wr HT.out.ref key (by omega)).mono ?_; rintro e w6 ⟨rfl, hb6⟩; rw [HDU.out]; have HT6 := Aside0.mk (HT.out.below hb6); clear hb6)
                | (go_at_fn 15; refine (stop_trio_calls w.heap.size g h c' A' (some ad) (L1.map (·.f1)) L2 P vK vD w w6 HT6.out (by omega) key).mono ?_; rintro e w7 ⟨rfl, vK', vD', t7⟩; have HT7 := Aside0.mk t7; clear t7))
              go_roundg (L1.length - (j + 1))
              case measure => omega
              case rel => exact ⟨j + 1, _, vK', vD', drop46 P key, rfl, by go_num, by omega, Nat.le_refl _, HSM2.out, HT7⟩
            · have e : j = L1.length := by omega
              subst e
              have hjz : ¬ ((L1.length : Nat) : Int) < ((L1.map (·.f1)).length : Int) := by rw [List.length_map]; omega
              rw [List.drop_length, List.nil_append] at hSm
              go_wp2
              go_roundg (m + 1 - (t + 1))
              case measure => omega
              case rel => exact ⟨t + 1, n, A', c', vK, vD, L2, P, rfl, by go_num, by omega, Nat.le_refl _, by omega, hs3, hSm, fun x hx => by have := hs2 x hx; omega, ⟨HT.out.forget⟩⟩
        · have e : t = m + 1 := by omega
          subst e
          have htz : ¬ ((m + 1 : Nat) : Int) ≤ (m : Int) := by omega
          have hPL : L.length = P.length := hSm.perm.length_eq
          have hlo2 : ∀ x ∈ P, (m : Int) < x.f0 := fun x hx => by have := hlo x (hSm.perm.symm.subset hx); omega
          obtain ⟨AK, cK, AD, cD, rfl, rfl, hK, hD⟩ := HT.out.ref.open
          have hc0 : wr.cell? ⟨h, 0, none⟩ = some (.slice AK P.length cK) := (blk_cell HT.out.ref.cell 0).trans rfl
          have hc1 : wr.cell? ⟨h, 1, none⟩ = some (.slice AD P.length cD) := (blk_cell HT.out.ref.cell 1).trans rfl
          have HD := Aside0.mk hD
          clear hK hD hlo hSm hLs
          go_wp2
          go_loopg [79] P.length (fun gk s79 wq => ∃ (i : Nat), s79 = .int .i64 i ∧ i ≤ P.length ∧ P.length - i ≤ gk ∧ wq = wr)
          case atStart => exact ⟨0, rfl, Nat.zero_le _, by omega, rfl⟩
          case round =>
            obtain ⟨i, rfl, hil, hgi, rfl⟩ := hrel
            by_cases hit : i < P.length
            · have hiz : (i : Int) < (P.length : Int) := by omega
              obtain ⟨ad, e, hx⟩ := CI_at HD.out i (by simpa using hit)
              rw [List.getElem_map] at hx
              have hgt2 := hlo2 _ (List.getElem_mem hit)
              subst e
              generalize P[i].f0 = y at hx hgt2
              have hny : ¬ y ≤ (m : Int) := by omega
              clear hlo2
              go_wp2
              go_roundg (P.length - (i + 1))
              case measure => omega
              case rel => exact ⟨i + 1, by go_num, by omega, Nat.le_refl _, rfl⟩
            · have e : i = P.length := by omega
              subst e
              clear hlo2
              have HB := Aside0.mk HT.out.bel
              have HWR := Aside0.mk HT.out.rd
              have HCR := Aside0.mk HT.out.ref.cell
              have hLi : (L.length : Int) = (P.length : Int) := by omega
              go_wp2_with fail
              go_region_with (go_at_call 16; refine (all_calls g c A L _ ?q1 ?q2).mono ?_; (case q1 => first | exact HWR.out | exact HWR.out.below (below_drew1 (Below.refl wr.heap.size wr))); (case q2 => omega); rintro e w8 ⟨v8, rfl, hr8, hb8⟩; obtain ⟨A8, c8, rfl⟩ := Kd.R_slice hr8; have hc8 : w8.cell? ⟨h, 0, none⟩ = some (.slice AK P.length cK) := (blk_cell (blk_below HCR.out (below_step (below_drew1 (Below.refl wr.heap.size wr)) hb8)) 0).trans rfl; have HB8 := Aside0.mk (below_step HB.out (below_step (below_drew1 (Below.refl wr.heap.size wr)) hb8)); clear hr8 hb8)
              all_goals (go_wp2; go_ret; exact ⟨rfl, HB8.out⟩)
theorem kissgatelaw09_WheelPops.calls (A0 : Option Addr) (c0 : Nat) (l0 : List S36) (a1 : Int) (r : Bool) (w : World) (hr0 : Kd.C k36 w A0 l0.length l0) (hc0 : l0.length ≤ c0) (hT : r = true) (h : kissgatelaw09_WheelPops.f l0 a1 = some r) :
    Calls Try.prog 4 #[.slice A0 l0.length c0, .int .i64 a1] w fun e w' => e = .returned (.bool r) ∧ Below w.heap.size w w' := by
  subst hT
  by_cases hs : l0.length ≤ 100 ∧ 0 ≤ a1 ∧ a1 ≤ 200
  · obtain ⟨m, rfl⟩ := Int.eq_ofNat_of_zero_le hs.2.1
    exact pops_walk A0 c0 l0 m w hr0 hs.1 (by omega)
  · exact pops_great A0 c0 l0 a1 w hs
end Go.Proofs.Ytpcmleeiaffkeaa.QWhl
namespace Go.Proofs.Ytpcmleeiaffkeaa.Opn
open Go.ChangeShapes Go.WideShapes Go.Proofs.YtpcmleeiaffkeaaW.PrintWords
variable {P : Program}
def Opens {α : Type} (P : Program) (t : TypeId) (d : Kd α) (good : α → Prop) : Prop :=
  ∀ (H : Type) (enc : TypeId × Value → H) (w : World) (fuel : Nat) (cs : List Value) (x : DataW H × List MemPlace),
    DataW.trod enc P w 0 (fun _ => true) true fuel t cs = some x → (∀ n ∈ x.1.weights P t, n ≤ reachBytes) → ∃ a : α, d.K w a cs ∧ good a
theorem opens_int {t : TypeId} {k : IntKind} (hu : P.underlying t = some (.int k)) : Opens P t (Kd.int k) (fun n => (Lit.int k n).wf = true) := by
  intro H enc w fuel cs x h _
  obtain ⟨n, rfl, _, hw⟩ := DataW.trod_int hu h
  exact ⟨n, rfl, hw⟩
theorem weightsAll_mem {H : Type} {e : TypeId} : ∀ {l : List (DataW H)} {d : DataW H}, d ∈ l → ∀ n ∈ d.weights P e, n ∈ DataW.weightsAll P e l
  | [], d, h, _, _ => by simp at h
  | d0 :: l, d, h, n, hn => by
    simp only [DataW.weightsAll, List.mem_append]
    rcases List.mem_cons.1 h with rfl | h
    · exact Or.inl hn
    · exact Or.inr (weightsAll_mem h n hn)
theorem add_at_ (a : Addr) (i j : Nat) : (a.add i).add j = a.add (i + j) := by
  unfold Addr.add
  by_cases hi : i = 0
  · subst hi; simp
  · by_cases hj : j = 0
    · subst hj; simp
    · simp [hi, hj, Nat.add_assoc]
theorem choose_list {α : Type} {Q : Nat → α → Prop} : ∀ (n : Nat), (∀ i, i < n → ∃ a, Q i a) → ∃ l : List α, l.length = n ∧ ∀ i a, l[i]? = some a → Q i a
  | 0, _ => ⟨[], rfl, fun i a h => by simp at h⟩
  | n + 1, h => by
    obtain ⟨l, hl, hq⟩ := choose_list n (fun i hi => h i (by omega))
    obtain ⟨a, ha⟩ := h n (by omega)
    refine ⟨l ++ [a], by simp [hl], fun i b hb => ?_⟩
    rcases Nat.lt_or_ge i l.length with hi | hi
    · rw [List.getElem?_append_left hi] at hb
      exact hq i b hb
    · rw [List.getElem?_append_right hi] at hb
      have hlt := (List.getElem?_eq_some_iff.1 hb).1
      simp at hlt
      have e : i = n := by omega
      subst e
      rw [show i - l.length = 0 from by omega] at hb
      have hb' : a = b := by simpa using hb
      subst hb'
      exact ha
theorem opens_slice_row {α : Type} {t e : TypeId} {d : Kd α} {good : α → Prop} (hu : P.underlying t = some (.slice e)) (hC : P.cellsOf e = d.sz) {B : Nat} (hB : P.bytesOf e = B) (ho : Opens P e d good)
    (H : Type) (enc : TypeId × Value → H) (w : World) (fuel : Nat) (A : Option Addr) (len cap : Nat) (x : DataW H × List MemPlace)
    (h : DataW.trod enc P w 0 (fun _ => true) true fuel t [.slice A len cap] = some x) (hz : ∀ n ∈ x.1.weights P t, n ≤ reachBytes) :
    ∃ l : List α, l.length = len ∧ len ≤ cap ∧ d.C w A len l ∧ len ≤ maxLen ∧ len * B ≤ 140737488351232 ∧ ∀ a ∈ l, good a := by
  rcases DataW.trod_slice hu h with ⟨h0, _⟩ | ⟨a, len', cap', elems, rest, n, _, hcs, hx, _, hl, hm, hlen, hel, _, _⟩
  · simp only [List.cons.injEq, Value.slice.injEq, and_true] at h0
    obtain ⟨rfl, rfl, rfl⟩ := h0
    exact ⟨[], rfl, Nat.le_refl _, ⟨rfl, Nat.zero_le _, fun h => absurd h (by omega)⟩, Nat.zero_le _, by simp, fun a ha => by simp at ha⟩
  · simp only [List.cons.injEq, Value.slice.injEq, and_true] at hcs
    obtain ⟨rfl, rfl, rfl⟩ := hcs
    have each : ∀ i, i < len → ∃ b : α, (∃ c, c.length = d.sz ∧ d.K w b c ∧ ∀ j u, c[j]? = some u → w.cell? (a.add (i * d.sz + j)) = some u) ∧ good b := by
      intro i hi
      have h1 := hel i hi
      have hie : i < elems.length := by omega
      rw [List.getElem?_eq_getElem hie, Option.bind_eq_some_iff] at h1
      obtain ⟨cs', hc, ht'⟩ := h1
      have hw' : ∀ n ∈ (elems[i]).1.weights P e, n ≤ reachBytes := by
        intro m hm'
        refine hz m ?_
        rw [hx]
        simp only [DataW.weights, hu]
        refine List.mem_cons_of_mem _ (List.mem_append_left _ ?_)
        exact weightsAll_mem (List.mem_map.2 ⟨elems[i], List.getElem_mem hie, rfl⟩) m hm'
      obtain ⟨b, hb, hg⟩ := ho H enc w _ cs' _ ht' hw'
      obtain ⟨_, hcl, hat⟩ := World.cells?_some hc
      refine ⟨b, ⟨cs', by rw [hcl, hC], hb, fun j u hu' => ?_⟩, hg⟩
      have hj : j < P.cellsOf e := by
        have := (List.getElem?_eq_some_iff.1 hu').1
        omega
      have := hat j hj
      rw [hC] at this
      rw [← add_at_, this, hu']
    obtain ⟨l, hll, hq⟩ := choose_list len each
    refine ⟨l, hll, hl, ⟨hll, by simp only [maxLen] at hm; omega, fun _ => ⟨a, rfl, fun j p hj => (hq j p hj).1⟩⟩, by omega, ?_, fun b hb => ?_⟩
    · have h1 := hz ((elems.length + rest.length) * P.bytesOf e) (by rw [hx]; simp [DataW.weights, hu])
      rw [hB] at h1
      simp only [reachBytes] at h1
      refine Nat.le_trans (Nat.mul_le_mul_right _ ?_) h1
      omega
    · obtain ⟨i, hi⟩ := List.getElem?_of_mem hb
      exact (hq i b hi).2
def OpensFs {α : Type} (P : Program) (off : Nat) (fs : List Field) (d : Kd α) (good : α → Prop) : Prop :=
  ∀ (H : Type) (enc : TypeId × Value → H) (w : World) (fuel : Nat) (cs : List Value) (ys : List (DataW H × List MemPlace)),
    cs.length = off + d.sz → ys.length = fs.length → (∀ (i : Nat) (f : Field), fs[i]? = some f → DataW.trod enc P w 0 (fun _ => true) true fuel f.type ((cs.drop f.offset).take (P.cellsOf f.type)) = ys[i]?) →
    (∀ n ∈ DataW.weightsEach P (fs.map (·.type)) (ys.map (·.1)), n ≤ reachBytes) → ∃ a : α, d.K w a (cs.drop off) ∧ good a
theorem opensFs_one {α : Type} {off : Nat} {f : Field} {d : Kd α} {good : α → Prop} (ho : f.offset = off) (hC : P.cellsOf f.type = d.sz) (h : Opens P f.type d good) : OpensFs P off [f] d good := by
  intro H enc w fuel cs ys hcs hy hf hz
  match ys, hy with
  | [y], _ =>
    have h1 := hf 0 f rfl
    rw [ho, hC, List.take_of_length_le (by simp [List.length_drop]; omega)] at h1
    exact h H enc w fuel _ y h1 (fun n hn => hz n (by simp only [List.map_cons, DataW.weightsEach, List.mem_append]; exact Or.inl hn))
theorem opensFs_cons {α β : Type} {off : Nat} {f : Field} {fs : List Field} {d : Kd α} {e : Kd β} {g1 : α → Prop} {g2 : β → Prop} (ho : f.offset = off) (hC : P.cellsOf f.type = d.sz) (h : Opens P f.type d g1) (hs : OpensFs P (off + d.sz) fs e g2) :
    OpensFs P off (f :: fs) (Kd.pair d e) (fun p => g1 p.1 ∧ g2 p.2) := by
  intro H enc w fuel cs ys hcs hy hf hz
  match ys, hy with
  | y :: ys, hy =>
    have hsz : (Kd.pair d e).sz = d.sz + e.sz := rfl
    rw [hsz] at hcs
    have h1 := hf 0 f rfl
    rw [ho, hC] at h1
    obtain ⟨a, ha, hga⟩ := h H enc w fuel _ y h1 (fun n hn => hz n (by simp only [List.map_cons, DataW.weightsEach, List.mem_append]; exact Or.inl hn))
    obtain ⟨b, hb, hgb⟩ := hs H enc w fuel cs ys (by omega) (by simpa using hy) (fun i f' hi => by simpa using hf (i + 1) f' (by simpa using hi)) (fun n hn => hz n (by simp only [List.map_cons, DataW.weightsEach, List.mem_append]; exact Or.inr hn))
    refine ⟨(a, b), ⟨(cs.drop off).take d.sz, cs.drop (off + d.sz), ?_, ha, hb⟩, hga, hgb⟩
    rw [← List.drop_drop, List.take_append_drop]
theorem opens_struct {α : Type} {t : TypeId} {fs : Array Field} {d : Kd α} {good : α → Prop} (hu : P.underlying t = some (.struct fs)) (hC : P.cellsOf t = d.sz) (h : OpensFs P 0 fs.toList d good) : Opens P t d good := by
  intro H enc w fuel cs x hx hz
  obtain ⟨ys, n, _, hxe, hlen, hyl, hf⟩ := DataW.trod_struct hu hx
  obtain ⟨a, ha, hg⟩ := h H enc w n cs ys (by omega) (by simpa using hyl) (fun i f hi => hf i f (by simpa using hi)) (fun m hm => hz m (by rw [hxe]; simp only [DataW.weights, hu]; exact hm))
  exact ⟨a, by simpa using ha, hg⟩
theorem opens_iso {α β : Type} {t : TypeId} {d : Kd α} {good : α → Prop} (f : β → α) (g : α → β) (hfg : ∀ a, f (g a) = a) (h : Opens P t d good) : Opens P t (Kd.iso d f) (fun b => good (f b)) := by
  intro H enc w fuel cs x hx hz
  obtain ⟨a, ha, hga⟩ := h H enc w fuel cs x hx hz
  refine ⟨g a, ?_, by show good (f (g a)); rw [hfg]; exact hga⟩
  show d.K w (f (g a)) cs
  rw [hfg]
  exact ha
theorem opens_imp {α : Type} {t : TypeId} {d : Kd α} {g1 g2 : α → Prop} (h : Opens P t d g1) (hg : ∀ a, g1 a → g2 a) : Opens P t d g2 := by
  intro H enc w fuel cs x hx hz
  obtain ⟨a, ha, hga⟩ := h H enc w fuel cs x hx hz
  exact ⟨a, ha, hg a hga⟩
theorem weights_of {H : Type} {ts : List TypeId} {ds : List (DataW H)} (h : (DataW.weightsEach P ts ds).all (· ≤ reachBytes) = true) {j : Nat} {t : TypeId} {d : DataW H} (ht : ts[j]? = some t) (hd : ds[j]? = some d) : ∀ n ∈ d.weights P t, n ≤ reachBytes := by
  intro n hn
  have := List.all_eq_true.1 h _ (DataW.weights_mem_each ht hd n hn)
  simpa using this
theorem arg_slice {α : Type} {t e : TypeId} {d : Kd α} {good : α → Prop} (hu : P.underlying t = some (.slice e)) (hC : P.cellsOf e = d.sz) {B : Nat} (hB : P.bytesOf e = B) (ho : Opens P e d good)
    {H : Type} {enc : TypeId × Value → H} {w : World} {r : Reach} {b0 : Nat} {v : Value} {x : DataW H} {ps : List MemPlace} (hv : Value.okWide P w r b0 t v)
    (h : DataW.Trod enc P w 0 (fun _ => true) true t v x ps) (hz : ∀ n ∈ x.weights P t, n ≤ reachBytes) :
    ∃ (A : Option Addr) (c : Nat) (l : List α), v = .slice A l.length c ∧ l.length ≤ c ∧ d.C w A l.length l ∧ l.length ≤ maxLen ∧ l.length * B ≤ 140737488351232 ∧ ∀ a ∈ l, good a := by
  obtain ⟨A, len, c, rfl⟩ := okWide_slice hu hv
  obtain ⟨fuel, hf⟩ := h
  have hf' : DataW.trod enc P w 0 (fun _ => true) true fuel t [.slice A len c] = some (x, ps) := by simpa [Value.cells] using hf
  obtain ⟨l, rfl, hlc, hC', hm, hb, hg⟩ := opens_slice_row hu hC hB ho H enc w fuel A len c _ hf' hz
  exact ⟨A, c, l, rfl, hlc, hC', hm, hb, hg⟩
theorem arg_int {t : TypeId} {k : IntKind} (hu : P.underlying t = some (.int k))
    {H : Type} {enc : TypeId × Value → H} {w : World} {r : Reach} {b0 : Nat} {v : Value} {x : DataW H} {ps : List MemPlace} (hv : Value.okWide P w r b0 t v)
    (h : DataW.Trod enc P w 0 (fun _ => true) true t v x ps) : ∃ n, v = .int k n ∧ (Lit.int k n).wf = true := by
  obtain ⟨n, rfl⟩ := okWide_int hu hv
  obtain ⟨fuel, hf⟩ := h
  obtain ⟨m, hcs, _, hw⟩ := DataW.trod_int hu hf
  simp only [Value.cells] at hcs
  have e : n = m := by simpa using hcs
  subst e
  exact ⟨n, rfl, hw⟩
end Go.Proofs.Ytpcmleeiaffkeaa.Opn
namespace Go.Proofs.Ytpcmleeiaffkeaa.wheelPops
open Go.RowKit Go.Proofs.YtpcmleeiaffkeaaW.PrintWords Go.Proofs.YtpcmleeiaffkeaaW.PrintLast Go.Proofs.YtpcmleeiaffkeaaW.PrintMore Go.Proofs.Ytpcmleeiaffkeaa.QWhl
set_option linter.unusedVariables false
def G36 (x : S36) : Prop := (Lit.int .i64 x.f0).wf = true ∧ (Lit.int .i64 x.f1).wf = true ∧ (Lit.int .i64 x.f2).wf = true
def Pure : Prop := ∀ (x0 : (List S36)) (x1 : Int), (x0.length ≤ maxLen ∧ x0.length * 24 ≤ 140737488351232 ∧ ∀ a ∈ x0, G36 a) → (Lit.int .i64 x1).wf = true → kissgatelaw09_WheelPops.f x0 x1 = some true
end Go.Proofs.Ytpcmleeiaffkeaa.wheelPops
namespace Go.Proofs.Ytpcmleeiaffkeaa.wheelPops
open Go.RowKit Go.Proofs.YtpcmleeiaffkeaaW.PrintWords Go.Proofs.YtpcmleeiaffkeaaW.PrintLast Go.Proofs.YtpcmleeiaffkeaaW.PrintMore Go.Proofs.Ytpcmleeiaffkeaa.QWhl
theorem pure : Pure := by
  intro _ _ _ _
  rfl
end Go.Proofs.Ytpcmleeiaffkeaa.wheelPops

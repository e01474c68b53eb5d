/- Functions of the program as plain Lean functions, what their calls do, and what follows of it. Conditions: each theorem's own. -/
import Derived.Test.YtjhkbmdblfdlnaaCPrioSorted2
namespace Go.Proofs.Ytjhkbmdblfdlnaa.Opn
open Go.ChangeShapes Go.WideShapes Go.Proofs.YtjhkbmdblfdlnaaW.PrintWords
variable {P : Program}
def Opens {α : Type} (P : Program) (t : TypeId) (d : Kd α) (good : α → Prop) : Prop :=
  ∀ (H : Type) (enc : TypeId × Value → H) (w : World) (fuel : Nat) (cs : List Value) (x : DataW H × List MemPlace),
    DataW.trod enc P w 0 (fun _ => true) true fuel t cs = some x → (∀ n ∈ x.1.weights P t, n ≤ reachBytes) → ∃ a : α, d.K w a cs ∧ good a
theorem opens_int {t : TypeId} {k : IntKind} (hu : P.underlying t = some (.int k)) : Opens P t (Kd.int k) (fun n => (Lit.int k n).wf = true) := by
  intro H enc w fuel cs x h _
  obtain ⟨n, rfl, _, hw⟩ := DataW.trod_int hu h
  exact ⟨n, rfl, hw⟩
theorem weightsAll_mem {H : Type} {e : TypeId} : ∀ {l : List (DataW H)} {d : DataW H}, d ∈ l → ∀ n ∈ d.weights P e, n ∈ DataW.weightsAll P e l
  | [], d, h, _, _ => by simp at h
  | d0 :: l, d, h, n, hn => by
    simp only [DataW.weightsAll, List.mem_append]
    rcases List.mem_cons.1 h with rfl | h
    · exact Or.inl hn
    · exact Or.inr (weightsAll_mem h n hn)
theorem add_at_ (a : Addr) (i j : Nat) : (a.add i).add j = a.add (i + j) := by
  unfold Addr.add
  by_cases hi : i = 0
  · subst hi; simp
  · by_cases hj : j = 0
    · subst hj; simp
    · simp [hi, hj, Nat.add_assoc]
theorem choose_list {α : Type} {Q : Nat → α → Prop} : ∀ (n : Nat), (∀ i, i < n → ∃ a, Q i a) → ∃ l : List α, l.length = n ∧ ∀ i a, l[i]? = some a → Q i a
  | 0, _ => ⟨[], rfl, fun i a h => by simp at h⟩
  | n + 1, h => by
    obtain ⟨l, hl, hq⟩ := choose_list n (fun i hi => h i (by omega))
    obtain ⟨a, ha⟩ := h n (by omega)
    refine ⟨l ++ [a], by simp [hl], fun i b hb => ?_⟩
    rcases Nat.lt_or_ge i l.length with hi | hi
    · rw [List.getElem?_append_left hi] at hb
      exact hq i b hb
    · rw [List.getElem?_append_right hi] at hb
      have hlt := (List.getElem?_eq_some_iff.1 hb).1
      simp at hlt
      have e : i = n := by omega
      subst e
      rw [show i - l.length = 0 from by omega] at hb
      have hb' : a = b := by simpa using hb
      subst hb'
      exact ha
theorem opens_slice_row {α : Type} {t e : TypeId} {d : Kd α} {good : α → Prop} (hu : P.underlying t = some (.slice e)) (hC : P.cellsOf e = d.sz) {B : Nat} (hB : P.bytesOf e = B) (ho : Opens P e d good)
    (H : Type) (enc : TypeId × Value → H) (w : World) (fuel : Nat) (A : Option Addr) (len cap : Nat) (x : DataW H × List MemPlace)
    (h : DataW.trod enc P w 0 (fun _ => true) true fuel t [.slice A len cap] = some x) (hz : ∀ n ∈ x.1.weights P t, n ≤ reachBytes) :
    ∃ l : List α, l.length = len ∧ len ≤ cap ∧ d.C w A len l ∧ len ≤ maxLen ∧ len * B ≤ 140737488351232 ∧ ∀ a ∈ l, good a := by
  rcases DataW.trod_slice hu h with ⟨h0, _⟩ | ⟨a, len', cap', elems, rest, n, _, hcs, hx, _, hl, hm, hlen, hel, _, _⟩
  · simp only [List.cons.injEq, Value.slice.injEq, and_true] at h0
    obtain ⟨rfl, rfl, rfl⟩ := h0
    exact ⟨[], rfl, Nat.le_refl _, ⟨rfl, Nat.zero_le _, fun h => absurd h (by omega)⟩, Nat.zero_le _, by simp, fun a ha => by simp at ha⟩
  · simp only [List.cons.injEq, Value.slice.injEq, and_true] at hcs
    obtain ⟨rfl, rfl, rfl⟩ := hcs
    have each : ∀ i, i < len → ∃ b : α, (∃ c, c.length = d.sz ∧ d.K w b c ∧ ∀ j u, c[j]? = some u → w.cell? (a.add (i * d.sz + j)) = some u) ∧ good b := by
      intro i hi
      have h1 := hel i hi
      have hie : i < elems.length := by omega
      rw [List.getElem?_eq_getElem hie, Option.bind_eq_some_iff] at h1
      obtain ⟨cs', hc, ht'⟩ := h1
      have hw' : ∀ n ∈ (elems[i]).1.weights P e, n ≤ reachBytes := by
        intro m hm'
        refine hz m ?_
        rw [hx]
        simp only [DataW.weights, hu]
        refine List.mem_cons_of_mem _ (List.mem_append_left _ ?_)
        exact weightsAll_mem (List.mem_map.2 ⟨elems[i], List.getElem_mem hie, rfl⟩) m hm'
      obtain ⟨b, hb, hg⟩ := ho H enc w _ cs' _ ht' hw'
      obtain ⟨_, hcl, hat⟩ := World.cells?_some hc
      refine ⟨b, ⟨cs', by rw [hcl, hC], hb, fun j u hu' => ?_⟩, hg⟩
      have hj : j < P.cellsOf e := by
        have := (List.getElem?_eq_some_iff.1 hu').1
        omega
      have := hat j hj
      rw [hC] at this
      rw [← add_at_, this, hu']
    obtain ⟨l, hll, hq⟩ := choose_list len each
    refine ⟨l, hll, hl, ⟨hll, by simp only [maxLen] at hm; omega, fun _ => ⟨a, rfl, fun j p hj => (hq j p hj).1⟩⟩, by omega, ?_, fun b hb => ?_⟩
    · have h1 := hz ((elems.length + rest.length) * P.bytesOf e) (by rw [hx]; simp [DataW.weights, hu])
      rw [hB] at h1
      simp only [reachBytes] at h1
      refine Nat.le_trans (Nat.mul_le_mul_right _ ?_) h1
      omega
    · obtain ⟨i, hi⟩ := List.getElem?_of_mem hb
      exact (hq i b hi).2
def OpensFs {α : Type} (P : Program) (off : Nat) (fs : List Field) (d : Kd α) (good : α → Prop) : Prop :=
  ∀ (H : Type) (enc : TypeId × Value → H) (w : World) (fuel : Nat) (cs : List Value) (ys : List (DataW H × List MemPlace)),
    cs.length = off + d.sz → ys.length = fs.length → (∀ (i : Nat) (f : Field), fs[i]? = some f → DataW.trod enc P w 0 (fun _ => true) true fuel f.type ((cs.drop f.offset).take (P.cellsOf f.type)) = ys[i]?) →
    (∀ n ∈ DataW.weightsEach P (fs.map (·.type)) (ys.map (·.1)), n ≤ reachBytes) → ∃ a : α, d.K w a (cs.drop off) ∧ good a
theorem opensFs_one {α : Type} {off : Nat} {f : Field} {d : Kd α} {good : α → Prop} (ho : f.offset = off) (hC : P.cellsOf f.type = d.sz) (h : Opens P f.type d good) : OpensFs P off [f] d good := by
  intro H enc w fuel cs ys hcs hy hf hz
  match ys, hy with
  | [y], _ =>
    have h1 := hf 0 f rfl
    rw [ho, hC, List.take_of_length_le (by simp [List.length_drop]; omega)] at h1
    exact h H enc w fuel _ y h1 (fun n hn => hz n (by simp only [List.map_cons, DataW.weightsEach, List.mem_append]; exact Or.inl hn))
theorem opensFs_cons {α β : Type} {off : Nat} {f : Field} {fs : List Field} {d : Kd α} {e : Kd β} {g1 : α → Prop} {g2 : β → Prop} (ho : f.offset = off) (hC : P.cellsOf f.type = d.sz) (h : Opens P f.type d g1) (hs : OpensFs P (off + d.sz) fs e g2) :
    OpensFs P off (f :: fs) (Kd.pair d e) (fun p => g1 p.1 ∧ g2 p.2) := by
  intro H enc w fuel cs ys hcs hy hf hz
  match ys, hy with
  | y :: ys, hy =>
    have hsz : (Kd.pair d e).sz = d.sz + e.sz := rfl
    rw [hsz] at hcs
    have h1 := hf 0 f rfl
    rw [ho, hC] at h1
    obtain ⟨a, ha, hga⟩ := h H enc w fuel _ y h1 (fun n hn => hz n (by simp only [List.map_cons, DataW.weightsEach, List.mem_append]; exact Or.inl hn))
    obtain ⟨b, hb, hgb⟩ := hs H enc w fuel cs ys (by omega) (by simpa using hy) (fun i f' hi => by simpa using hf (i + 1) f' (by simpa using hi)) (fun n hn => hz n (by simp only [List.map_cons, DataW.weightsEach, List.mem_append]; exact Or.inr hn))
    refine ⟨(a, b), ⟨(cs.drop off).take d.sz, cs.drop (off + d.sz), ?_, ha, hb⟩, hga, hgb⟩
    rw [← List.drop_drop, List.take_append_drop]
theorem opens_struct {α : Type} {t : TypeId} {fs : Array Field} {d : Kd α} {good : α → Prop} (hu : P.underlying t = some (.struct fs)) (hC : P.cellsOf t = d.sz) (h : OpensFs P 0 fs.toList d good) : Opens P t d good := by
  intro H enc w fuel cs x hx hz
  obtain ⟨ys, n, _, hxe, hlen, hyl, hf⟩ := DataW.trod_struct hu hx
  obtain ⟨a, ha, hg⟩ := h H enc w n cs ys (by omega) (by simpa using hyl) (fun i f hi => hf i f (by simpa using hi)) (fun m hm => hz m (by rw [hxe]; simp only [DataW.weights, hu]; exact hm))
  exact ⟨a, by simpa using ha, hg⟩
theorem opens_iso {α β : Type} {t : TypeId} {d : Kd α} {good : α → Prop} (f : β → α) (g : α → β) (hfg : ∀ a, f (g a) = a) (h : Opens P t d good) : Opens P t (Kd.iso d f) (fun b => good (f b)) := by
  intro H enc w fuel cs x hx hz
  obtain ⟨a, ha, hga⟩ := h H enc w fuel cs x hx hz
  refine ⟨g a, ?_, by show good (f (g a)); rw [hfg]; exact hga⟩
  show d.K w (f (g a)) cs
  rw [hfg]
  exact ha
theorem opens_imp {α : Type} {t : TypeId} {d : Kd α} {g1 g2 : α → Prop} (h : Opens P t d g1) (hg : ∀ a, g1 a → g2 a) : Opens P t d g2 := by
  intro H enc w fuel cs x hx hz
  obtain ⟨a, ha, hga⟩ := h H enc w fuel cs x hx hz
  exact ⟨a, ha, hg a hga⟩
theorem weights_of {H : Type} {ts : List TypeId} {ds : List (DataW H)} (h : (DataW.weightsEach P ts ds).all (· ≤ reachBytes) = true) {j : Nat} {t : TypeId} {d : DataW H} (ht : ts[j]? = some t) (hd : ds[j]? = some d) : ∀ n ∈ d.weights P t, n ≤ reachBytes := by
  intro n hn
  have := List.all_eq_true.1 h _ (DataW.weights_mem_each ht hd n hn)
  simpa using this
theorem arg_slice {α : Type} {t e : TypeId} {d : Kd α} {good : α → Prop} (hu : P.underlying t = some (.slice e)) (hC : P.cellsOf e = d.sz) {B : Nat} (hB : P.bytesOf e = B) (ho : Opens P e d good)
    {H : Type} {enc : TypeId × Value → H} {w : World} {r : Reach} {b0 : Nat} {v : Value} {x : DataW H} {ps : List MemPlace} (hv : Value.okWide P w r b0 t v)
    (h : DataW.Trod enc P w 0 (fun _ => true) true t v x ps) (hz : ∀ n ∈ x.weights P t, n ≤ reachBytes) :
    ∃ (A : Option Addr) (c : Nat) (l : List α), v = .slice A l.length c ∧ l.length ≤ c ∧ d.C w A l.length l ∧ l.length ≤ maxLen ∧ l.length * B ≤ 140737488351232 ∧ ∀ a ∈ l, good a := by
  obtain ⟨A, len, c, rfl⟩ := okWide_slice hu hv
  obtain ⟨fuel, hf⟩ := h
  have hf' : DataW.trod enc P w 0 (fun _ => true) true fuel t [.slice A len c] = some (x, ps) := by simpa [Value.cells] using hf
  obtain ⟨l, rfl, hlc, hC', hm, hb, hg⟩ := opens_slice_row hu hC hB ho H enc w fuel A len c _ hf' hz
  exact ⟨A, c, l, rfl, hlc, hC', hm, hb, hg⟩
theorem arg_int {t : TypeId} {k : IntKind} (hu : P.underlying t = some (.int k))
    {H : Type} {enc : TypeId × Value → H} {w : World} {r : Reach} {b0 : Nat} {v : Value} {x : DataW H} {ps : List MemPlace} (hv : Value.okWide P w r b0 t v)
    (h : DataW.Trod enc P w 0 (fun _ => true) true t v x ps) : ∃ n, v = .int k n ∧ (Lit.int k n).wf = true := by
  obtain ⟨n, rfl⟩ := okWide_int hu hv
  obtain ⟨fuel, hf⟩ := h
  obtain ⟨m, hcs, _, hw⟩ := DataW.trod_int hu hf
  simp only [Value.cells] at hcs
  have e : n = m := by simpa using hcs
  subst e
  exact ⟨n, rfl, hw⟩
end Go.Proofs.Ytjhkbmdblfdlnaa.Opn
namespace Go.Proofs.Ytjhkbmdblfdlnaa.prioSorted
open Go.RowKit Go.Proofs.YtjhkbmdblfdlnaaW.PrintWords Go.Proofs.YtjhkbmdblfdlnaaW.PrintLast Go.Proofs.YtjhkbmdblfdlnaaW.PrintMore Go.Proofs.Ytjhkbmdblfdlnaa.QSrt
set_option linter.unusedVariables false
def G23 (x : S23) : Prop := (Lit.int .i64 x.f0).wf = true ∧ (Lit.int .i64 x.f1).wf = true ∧ (Lit.int .i64 x.f2).wf = true ∧ (Lit.int .i64 x.f3).wf = true
def Pure : Prop := ∀ (x0 : (List S23)) (x1 : Int), (x0.length ≤ maxLen ∧ x0.length * 32 ≤ 140737488351232 ∧ ∀ a ∈ x0, G23 a) → (Lit.int .i64 x1).wf = true → ∃ k, kissgatelaw10_PrioSorted.f k x0 x1 = some true
end Go.Proofs.Ytjhkbmdblfdlnaa.prioSorted
namespace Go.Proofs.Ytjhkbmdblfdlnaa.prioSorted
open Go.RowKit Go.Proofs.YtjhkbmdblfdlnaaW.PrintWords Go.Proofs.YtjhkbmdblfdlnaaW.PrintLast Go.Proofs.YtjhkbmdblfdlnaaW.PrintMore Go.Proofs.Ytjhkbmdblfdlnaa.QSrt
theorem alive : Ev (fun k => kissgatelaw10_alive.f k) true := Ev.of kissgatelaw10_alive.mono (k := 12) (by decide +kernel)
def eqb (x y : S23) : Bool := (x.f0 == y.f0 && (x.f1 == y.f1 && (x.f2 == y.f2 && x.f3 == y.f3)))
theorem rd23 {l : List S23} {i : Nat} (h : i < l.length) : rd_T23 l i = l[i] := by
  unfold rd_T23
  rw [Int.toNat_natCast, List.getD_eq_getElem?_getD, List.getElem?_eq_getElem h]; rfl
theorem worse {x y : S23} (h : cf y x ≤ 0) : kissgateref10_Better.f x.f0 x.f1 x.f2 x.f3 y.f0 y.f1 y.f2 y.f3 = some false := by
  have hn : ¬ lx x y := fun h1 => by have := (cf_lt x y).2 h1; rw [cf_neg x y] at h; omega
  unfold lx at hn
  unfold kissgateref10_Better.f
  by_cases h0 : x.f0 = y.f0
  · rw [if_pos h0]
    by_cases h1 : x.f1 = y.f1
    · rw [if_pos h1]
      by_cases h2 : x.f2 = y.f2
      · rw [if_pos h2, decide_eq_false (by omega)]
      · rw [if_neg h2, decide_eq_false (by omega)]
    · rw [if_neg h1, decide_eq_false (by omega)]
  · rw [if_neg h0, decide_eq_false (by omega)]
theorem wr1 (x : Nat) (h : x ≤ 1000) : wrap64 ((x : Int) + 1) = ((x + 1 : Nat) : Int) := by unfold wrap64; omega
def cnt (q : S23) (l : List S23) : Nat := l.countP fun p => eqb p q
theorem cnt_nil (q : S23) : cnt q [] = 0 := rfl
theorem cnt_cons (q p : S23) (l : List S23) : cnt q (p :: l) = cnt q l + (if eqb p q = true then 1 else 0) := List.countP_cons
theorem cnt_perm (q : S23) {l a : List S23} (h : a.Perm l) : cnt q l = cnt q a := (h.countP_eq _).symm
theorem one_round (k : Nat) (l a b : List S23) (i j x y : Nat) (n : Int) (hi : i < a.length) (hlt : j < l.length) (hlt2 : j < a.length) (hj : j ≤ 1000) (hx : x ≤ 1000) (hy : y ≤ 1000) :
    kissgatelaw10_PrioSorted.l1 (k + 1) l a b i x y n i l.length j = kissgatelaw10_PrioSorted.l1 k l a b i ((x + (if eqb l[j] a[i] = true then 1 else 0) : Nat) : Int) ((y + (if eqb a[j] a[i] = true then 1 else 0) : Nat) : Int) n i l.length ((j + 1 : Nat) : Int) := by
  have e1 : ∀ p q : S23, (p.f0 == q.f0 && (p.f1 == q.f1 && (p.f2 == q.f2 && p.f3 == q.f3))) = eqb p q := fun _ _ => rfl
  rw [kissgatelaw10_PrioSorted.l1, if_pos (by omega), if_pos (by omega), if_pos (by omega), if_pos (by omega), if_pos (by omega), rd23 hlt, rd23 hi, rd23 hlt2, wr1 j hj, wr1 x hx, wr1 y hy, e1, e1]
  generalize eqb l[j] a[i] = u
  generalize eqb a[j] a[i] = v
  have hj2 : (j : Int) < (a.length : Int) := by omega
  cases u <;> cases v <;> simp [hj2]
theorem counts (l a b : List S23) (hl : a.length = l.length) (hn : l.length ≤ 60) (i : Nat) (hi : i < a.length) (n : Int) (R : Bool) (hR : Ev (fun k => kissgatelaw10_PrioSorted.l0 k l a b n (wrap64 ((i : Int) + 1))) R) (d : Nat) : ∀ j x y : Nat, j + d = l.length → x ≤ j → y ≤ j → x + cnt a[i] (l.drop j) = y + cnt a[i] (a.drop j) →
    Ev (fun k => kissgatelaw10_PrioSorted.l1 k l a b i x y n i l.length j) R := by
  generalize ha : a[i] = q
  induction d with
  | zero =>
    intro j x y hj hx hy hc
    rw [List.drop_of_length_le (by omega), List.drop_of_length_le (by omega), cnt_nil, Nat.add_zero, Nat.add_zero] at hc
    subst hc
    exact Ev.step (fun k => by rw [kissgatelaw10_PrioSorted.l1, if_neg (by omega), if_pos rfl]) hR
  | succ d ih =>
    intro j x y hj hx hy hc
    have hlt : j < l.length := by omega
    have hlt2 : j < a.length := by omega
    rw [List.drop_eq_getElem_cons hlt, List.drop_eq_getElem_cons hlt2, cnt_cons, cnt_cons] at hc
    refine Ev.step (fun k => one_round k l a b i j x y n hi hlt hlt2 (by omega) (by omega) (by omega)) (ih _ _ _ (by omega) ?_ ?_ ?_)
    · split <;> omega
    · split <;> omega
    · rw [ha]; omega
theorem outer (l a : List S23) (hp : a.Perm l) (hs : a.Pairwise fun x y => cf x y ≤ 0) (hn : l.length ≤ 60) (d : Nat) : ∀ i : Nat, i + d = a.length → Ev (fun k => kissgatelaw10_PrioSorted.l0 k l a a a.length i) true := by
  have hl := hp.length_eq
  induction d with
  | zero => intro i hi; exact Ev.step (fun k => by rw [kissgatelaw10_PrioSorted.l0, if_neg (by omega)]) (Ev.now _)
  | succ d ih =>
    intro i hi
    have hlt : i < a.length := by omega
    have hw : wrap64 ((i : Int) + 1) = ((i + 1 : Nat) : Int) := by unfold wrap64; omega
    have hne : (!(((a[i]).f0) == ((a[i]).f0)) || (!(((a[i]).f1) == ((a[i]).f1)) || (!(((a[i]).f2) == ((a[i]).f2)) || (!(((a[i]).f3) == ((a[i]).f3)))))) = false := by simp
    have hj3 : Ev (fun k => kissgatelaw10_PrioSorted.j3 k l a a i a.length i false) true := by
      refine Ev.step (fun k => by rw [kissgatelaw10_PrioSorted.j3, if_neg (by simp)]) ?_
      refine counts l a a hl hn i hlt a.length true (by rw [hw]; exact ih (i + 1) (by omega)) l.length 0 0 0 (by omega) (by omega) (by omega) ?_
      simp only [List.drop_zero, Nat.zero_add]
      exact cnt_perm _ hp
    refine Ev.step (f := fun k => kissgatelaw10_PrioSorted.j3 k l a a i a.length i false) (fun k => ?_) hj3
    rw [kissgatelaw10_PrioSorted.l0, if_pos (by omega), if_pos (by omega), if_pos (by omega), if_pos (by omega), rd23 hlt, if_neg (by rw [hne]; simp)]
    by_cases h0 : (i : Int) > 0
    · obtain ⟨m, rfl⟩ : ∃ m, i = m + 1 := ⟨i - 1, by omega⟩
      have hwm : wrap64 (((m + 1 : Nat) : Int) - 1) = ((m : Nat) : Int) := by unfold wrap64; omega
      have hml : m < a.length := by omega
      have hcf : cf a[m] a[m + 1] ≤ 0 := List.pairwise_iff_getElem.1 hs m (m + 1) hml hlt (by omega)
      rw [if_pos h0, hwm, if_pos (by omega), if_pos (by omega), rd23 hml, worse hcf]; rfl
    · rw [if_neg h0]
theorem pure : Pure := by
  intro l t hl ht
  refine Ev.rounds ?_
  unfold kissgatelaw10_PrioSorted.f
  refine Ev.bind alive ?_
  simp only [if_true]
  by_cases h60 : (l.length : Int) > 60
  · refine Ev.congr (fun k => if_pos h60) ?_
    exact Ev.step (fun k => by rw [kissgatelaw10_PrioSorted.j0, if_pos rfl]) (Ev.now _)
  refine Ev.congr (fun k => if_neg h60) ?_
  by_cases h0 : l.length = 0
  · exact Ev.step (fun k => by rw [kissgatelaw10_PrioSorted.j0, if_pos (by rw [h0]; rfl)]) (Ev.now _)
  have hw : IntKind.u64.wrap (l.length : Int) = (l.length : Int) := by simp [IntKind.wrap, IntKind.bits, IntKind.signed]; omega
  obtain ⟨m, hm, hml⟩ : ∃ m : Nat, wrap64 (Int.tmod (IntKind.u64.wrap t) (l.length : Int)) = (m : Int) ∧ m ≤ l.length := by
    have hu0 : 0 ≤ IntKind.u64.wrap t := by simp [IntKind.wrap, IntKind.bits, IntKind.signed]; omega
    have hq : Int.tmod (IntKind.u64.wrap t) (l.length : Int) = (IntKind.u64.wrap t) % (l.length : Int) := Int.tmod_eq_emod_of_nonneg hu0
    have h1 := Int.emod_nonneg (IntKind.u64.wrap t) (b := (l.length : Int)) (by omega)
    have h2 := Int.emod_lt_of_pos (IntKind.u64.wrap t) (b := (l.length : Int)) (by omega)
    refine ⟨((IntKind.u64.wrap t) % (l.length : Int)).toNat, ?_, by omega⟩
    rw [hq]; unfold wrap64; omega
  have hperm : (l.drop m ++ l.take m).Perm l := (List.perm_append_comm).trans (by rw [List.take_append_drop])
  have hs : ∀ q : List S23, q.length = l.length → prio_Sorted.f q = some (vsort q) := fun q hq => by unfold prio_Sorted.f; rw [if_pos (by omega)]
  have hsame : vsort (l.drop m ++ l.take m) = vsort l := vsort_unique ((vsort_perm _).trans hperm) (vsort_pairwise _)
  have hlen : (vsort l).length = l.length := (vsort_perm l).length_eq
  refine Ev.step (f := fun k => kissgatelaw10_PrioSorted.j1 k l (vsort l) (vsort l) false) (fun k => ?_) ?_
  · have hne : ((l.length : Int) == 0) = false := by simpa using h0
    rw [kissgatelaw10_PrioSorted.j0, hne, if_neg (by simp), hw, if_neg (by omega), hs l rfl, Option.bind_some, Option.bind_some, hm, if_pos (by omega), if_pos (by omega), Option.bind_some, Int.toNat_natCast, if_pos (by simp; omega), Option.bind_some, Option.bind_some, if_pos (by simp; omega), List.nil_append, hs _ (by simp; omega), Option.bind_some, hsame, if_pos (by rw [hlen])]
    have : (((vsort l).length : Int) != (l.length : Int)) = false := by rw [hlen]; simp
    rw [this]
  · refine Ev.step (fun k => by rw [kissgatelaw10_PrioSorted.j1, if_neg (by simp)]) ?_
    exact outer l (vsort l) (vsort_perm l) (vsort_pairwise l) (by omega) (vsort l).length 0 (by omega)
end Go.Proofs.Ytjhkbmdblfdlnaa.prioSorted

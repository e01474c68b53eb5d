/- Functions of the program as plain Lean functions, what their calls do, and what follows of it. Conditions: each theorem's own. -/
import Derived.Test.YtbcngajkokjfjaaCSpreadAll2
namespace Go.Proofs.Ytbcngajkokjfjaa.Opn
open Go.ChangeShapes Go.WideShapes Go.Proofs.YtbcngajkokjfjaaW.PrintWords
variable {P : Program}
def Opens {α : Type} (P : Program) (t : TypeId) (d : Kd α) (good : α → Prop) : Prop :=
  ∀ (H : Type) (enc : TypeId × Value → H) (w : World) (fuel : Nat) (cs : List Value) (x : DataW H × List MemPlace),
    DataW.trod enc P w 0 (fun _ => true) true fuel t cs = some x → (∀ n ∈ x.1.weights P t, n ≤ reachBytes) → ∃ a : α, d.K w a cs ∧ good a
theorem opens_int {t : TypeId} {k : IntKind} (hu : P.underlying t = some (.int k)) : Opens P t (Kd.int k) (fun n => (Lit.int k n).wf = true) := by
  intro H enc w fuel cs x h _
  obtain ⟨n, rfl, _, hw⟩ := DataW.trod_int hu h
  exact ⟨n, rfl, hw⟩
theorem opens_bool {t : TypeId} (hu : P.underlying t = some .bool) : Opens P t Kd.bool (fun _ => True) := by
  intro H enc w fuel cs x h _
  obtain ⟨b, rfl, _⟩ := DataW.trod_bool hu h
  exact ⟨b, rfl, trivial⟩
theorem weightsAll_mem {H : Type} {e : TypeId} : ∀ {l : List (DataW H)} {d : DataW H}, d ∈ l → ∀ n ∈ d.weights P e, n ∈ DataW.weightsAll P e l
  | [], d, h, _, _ => by simp at h
  | d0 :: l, d, h, n, hn => by
    simp only [DataW.weightsAll, List.mem_append]
    rcases List.mem_cons.1 h with rfl | h
    · exact Or.inl hn
    · exact Or.inr (weightsAll_mem h n hn)
theorem add_at_ (a : Addr) (i j : Nat) : (a.add i).add j = a.add (i + j) := by
  unfold Addr.add
  by_cases hi : i = 0
  · subst hi; simp
  · by_cases hj : j = 0
    · subst hj; simp
    · simp [hi, hj, Nat.add_assoc]
theorem choose_list {α : Type} {Q : Nat → α → Prop} : ∀ (n : Nat), (∀ i, i < n → ∃ a, Q i a) → ∃ l : List α, l.length = n ∧ ∀ i a, l[i]? = some a → Q i a
  | 0, _ => ⟨[], rfl, fun i a h => by simp at h⟩
  | n + 1, h => by
    obtain ⟨l, hl, hq⟩ := choose_list n (fun i hi => h i (by omega))
    obtain ⟨a, ha⟩ := h n (by omega)
    refine ⟨l ++ [a], by simp [hl], fun i b hb => ?_⟩
    rcases Nat.lt_or_ge i l.length with hi | hi
    · rw [List.getElem?_append_left hi] at hb
      exact hq i b hb
    · rw [List.getElem?_append_right hi] at hb
      have hlt := (List.getElem?_eq_some_iff.1 hb).1
      simp at hlt
      have e : i = n := by omega
      subst e
      rw [show i - l.length = 0 from by omega] at hb
      have hb' : a = b := by simpa using hb
      subst hb'
      exact ha
theorem opens_slice_row {α : Type} {t e : TypeId} {d : Kd α} {good : α → Prop} (hu : P.underlying t = some (.slice e)) (hC : P.cellsOf e = d.sz) {B : Nat} (hB : P.bytesOf e = B) (ho : Opens P e d good)
    (H : Type) (enc : TypeId × Value → H) (w : World) (fuel : Nat) (A : Option Addr) (len cap : Nat) (x : DataW H × List MemPlace)
    (h : DataW.trod enc P w 0 (fun _ => true) true fuel t [.slice A len cap] = some x) (hz : ∀ n ∈ x.1.weights P t, n ≤ reachBytes) :
    ∃ l : List α, l.length = len ∧ len ≤ cap ∧ d.C w A len l ∧ len ≤ maxLen ∧ len * B ≤ 140737488351232 ∧ ∀ a ∈ l, good a := by
  rcases DataW.trod_slice hu h with ⟨h0, _⟩ | ⟨a, len', cap', elems, rest, n, _, hcs, hx, _, hl, hm, hlen, hel, _, _⟩
  · simp only [List.cons.injEq, Value.slice.injEq, and_true] at h0
    obtain ⟨rfl, rfl, rfl⟩ := h0
    exact ⟨[], rfl, Nat.le_refl _, ⟨rfl, Nat.zero_le _, fun h => absurd h (by omega)⟩, Nat.zero_le _, by simp, fun a ha => by simp at ha⟩
  · simp only [List.cons.injEq, Value.slice.injEq, and_true] at hcs
    obtain ⟨rfl, rfl, rfl⟩ := hcs
    have each : ∀ i, i < len → ∃ b : α, (∃ c, c.length = d.sz ∧ d.K w b c ∧ ∀ j u, c[j]? = some u → w.cell? (a.add (i * d.sz + j)) = some u) ∧ good b := by
      intro i hi
      have h1 := hel i hi
      have hie : i < elems.length := by omega
      rw [List.getElem?_eq_getElem hie, Option.bind_eq_some_iff] at h1
      obtain ⟨cs', hc, ht'⟩ := h1
      have hw' : ∀ n ∈ (elems[i]).1.weights P e, n ≤ reachBytes := by
        intro m hm'
        refine hz m ?_
        rw [hx]
        simp only [DataW.weights, hu]
        refine List.mem_cons_of_mem _ (List.mem_append_left _ ?_)
        exact weightsAll_mem (List.mem_map.2 ⟨elems[i], List.getElem_mem hie, rfl⟩) m hm'
      obtain ⟨b, hb, hg⟩ := ho H enc w _ cs' _ ht' hw'
      obtain ⟨_, hcl, hat⟩ := World.cells?_some hc
      refine ⟨b, ⟨cs', by rw [hcl, hC], hb, fun j u hu' => ?_⟩, hg⟩
      have hj : j < P.cellsOf e := by
        have := (List.getElem?_eq_some_iff.1 hu').1
        omega
      have := hat j hj
      rw [hC] at this
      rw [← add_at_, this, hu']
    obtain ⟨l, hll, hq⟩ := choose_list len each
    refine ⟨l, hll, hl, ⟨hll, by simp only [maxLen] at hm; omega, fun _ => ⟨a, rfl, fun j p hj => (hq j p hj).1⟩⟩, by omega, ?_, fun b hb => ?_⟩
    · have h1 := hz ((elems.length + rest.length) * P.bytesOf e) (by rw [hx]; simp [DataW.weights, hu])
      rw [hB] at h1
      simp only [reachBytes] at h1
      refine Nat.le_trans (Nat.mul_le_mul_right _ ?_) h1
      omega
    · obtain ⟨i, hi⟩ := List.getElem?_of_mem hb
      exact (hq i b hi).2
theorem opens_slice {α : Type} {t e : TypeId} {d : Kd α} {good : α → Prop} (hu : P.underlying t = some (.slice e)) (hC : P.cellsOf e = d.sz) {B : Nat} (hB : P.bytesOf e = B) (ho : Opens P e d good) :
    Opens P t (Kd.slice e d) (fun l => l.length ≤ maxLen ∧ l.length * B ≤ 140737488351232 ∧ ∀ a ∈ l, good a) := by
  intro H enc w fuel cs x h hz
  have hform : ∃ A len cap, cs = [.slice A len cap] := by
    rcases DataW.trod_slice hu h with ⟨h0, _⟩ | ⟨a, len', cap', elems, rest, n, _, hcs, _⟩
    · exact ⟨_, _, _, h0⟩
    · exact ⟨_, _, _, hcs⟩
  obtain ⟨A, len, cap, rfl⟩ := hform
  obtain ⟨l, rfl, hlc, hC', hm, hb, hg⟩ := opens_slice_row hu hC hB ho H enc w fuel A len cap x h hz
  exact ⟨l, ⟨A, cap, rfl, hlc, hC'⟩, hm, hb, hg⟩
def OpensFs {α : Type} (P : Program) (off : Nat) (fs : List Field) (d : Kd α) (good : α → Prop) : Prop :=
  ∀ (H : Type) (enc : TypeId × Value → H) (w : World) (fuel : Nat) (cs : List Value) (ys : List (DataW H × List MemPlace)),
    cs.length = off + d.sz → ys.length = fs.length → (∀ (i : Nat) (f : Field), fs[i]? = some f → DataW.trod enc P w 0 (fun _ => true) true fuel f.type ((cs.drop f.offset).take (P.cellsOf f.type)) = ys[i]?) →
    (∀ n ∈ DataW.weightsEach P (fs.map (·.type)) (ys.map (·.1)), n ≤ reachBytes) → ∃ a : α, d.K w a (cs.drop off) ∧ good a
theorem opensFs_one {α : Type} {off : Nat} {f : Field} {d : Kd α} {good : α → Prop} (ho : f.offset = off) (hC : P.cellsOf f.type = d.sz) (h : Opens P f.type d good) : OpensFs P off [f] d good := by
  intro H enc w fuel cs ys hcs hy hf hz
  match ys, hy with
  | [y], _ =>
    have h1 := hf 0 f rfl
    rw [ho, hC, List.take_of_length_le (by simp [List.length_drop]; omega)] at h1
    exact h H enc w fuel _ y h1 (fun n hn => hz n (by simp only [List.map_cons, DataW.weightsEach, List.mem_append]; exact Or.inl hn))
theorem opensFs_cons {α β : Type} {off : Nat} {f : Field} {fs : List Field} {d : Kd α} {e : Kd β} {g1 : α → Prop} {g2 : β → Prop} (ho : f.offset = off) (hC : P.cellsOf f.type = d.sz) (h : Opens P f.type d g1) (hs : OpensFs P (off + d.sz) fs e g2) :
    OpensFs P off (f :: fs) (Kd.pair d e) (fun p => g1 p.1 ∧ g2 p.2) := by
  intro H enc w fuel cs ys hcs hy hf hz
  match ys, hy with
  | y :: ys, hy =>
    have hsz : (Kd.pair d e).sz = d.sz + e.sz := rfl
    rw [hsz] at hcs
    have h1 := hf 0 f rfl
    rw [ho, hC] at h1
    obtain ⟨a, ha, hga⟩ := h H enc w fuel _ y h1 (fun n hn => hz n (by simp only [List.map_cons, DataW.weightsEach, List.mem_append]; exact Or.inl hn))
    obtain ⟨b, hb, hgb⟩ := hs H enc w fuel cs ys (by omega) (by simpa using hy) (fun i f' hi => by simpa using hf (i + 1) f' (by simpa using hi)) (fun n hn => hz n (by simp only [List.map_cons, DataW.weightsEach, List.mem_append]; exact Or.inr hn))
    refine ⟨(a, b), ⟨(cs.drop off).take d.sz, cs.drop (off + d.sz), ?_, ha, hb⟩, hga, hgb⟩
    rw [← List.drop_drop, List.take_append_drop]
theorem opens_struct {α : Type} {t : TypeId} {fs : Array Field} {d : Kd α} {good : α → Prop} (hu : P.underlying t = some (.struct fs)) (hC : P.cellsOf t = d.sz) (h : OpensFs P 0 fs.toList d good) : Opens P t d good := by
  intro H enc w fuel cs x hx hz
  obtain ⟨ys, n, _, hxe, hlen, hyl, hf⟩ := DataW.trod_struct hu hx
  obtain ⟨a, ha, hg⟩ := h H enc w n cs ys (by omega) (by simpa using hyl) (fun i f hi => hf i f (by simpa using hi)) (fun m hm => hz m (by rw [hxe]; simp only [DataW.weights, hu]; exact hm))
  exact ⟨a, by simpa using ha, hg⟩
theorem opens_iso {α β : Type} {t : TypeId} {d : Kd α} {good : α → Prop} (f : β → α) (g : α → β) (hfg : ∀ a, f (g a) = a) (h : Opens P t d good) : Opens P t (Kd.iso d f) (fun b => good (f b)) := by
  intro H enc w fuel cs x hx hz
  obtain ⟨a, ha, hga⟩ := h H enc w fuel cs x hx hz
  refine ⟨g a, ?_, by show good (f (g a)); rw [hfg]; exact hga⟩
  show d.K w (f (g a)) cs
  rw [hfg]
  exact ha
theorem opens_imp {α : Type} {t : TypeId} {d : Kd α} {g1 g2 : α → Prop} (h : Opens P t d g1) (hg : ∀ a, g1 a → g2 a) : Opens P t d g2 := by
  intro H enc w fuel cs x hx hz
  obtain ⟨a, ha, hga⟩ := h H enc w fuel cs x hx hz
  exact ⟨a, ha, hg a hga⟩
theorem weights_of {H : Type} {ts : List TypeId} {ds : List (DataW H)} (h : (DataW.weightsEach P ts ds).all (· ≤ reachBytes) = true) {j : Nat} {t : TypeId} {d : DataW H} (ht : ts[j]? = some t) (hd : ds[j]? = some d) : ∀ n ∈ d.weights P t, n ≤ reachBytes := by
  intro n hn
  have := List.all_eq_true.1 h _ (DataW.weights_mem_each ht hd n hn)
  simpa using this
theorem arg_slice {α : Type} {t e : TypeId} {d : Kd α} {good : α → Prop} (hu : P.underlying t = some (.slice e)) (hC : P.cellsOf e = d.sz) {B : Nat} (hB : P.bytesOf e = B) (ho : Opens P e d good)
    {H : Type} {enc : TypeId × Value → H} {w : World} {r : Reach} {b0 : Nat} {v : Value} {x : DataW H} {ps : List MemPlace} (hv : Value.okWide P w r b0 t v)
    (h : DataW.Trod enc P w 0 (fun _ => true) true t v x ps) (hz : ∀ n ∈ x.weights P t, n ≤ reachBytes) :
    ∃ (A : Option Addr) (c : Nat) (l : List α), v = .slice A l.length c ∧ l.length ≤ c ∧ d.C w A l.length l ∧ l.length ≤ maxLen ∧ l.length * B ≤ 140737488351232 ∧ ∀ a ∈ l, good a := by
  obtain ⟨A, len, c, rfl⟩ := okWide_slice hu hv
  obtain ⟨fuel, hf⟩ := h
  have hf' : DataW.trod enc P w 0 (fun _ => true) true fuel t [.slice A len c] = some (x, ps) := by simpa [Value.cells] using hf
  obtain ⟨l, rfl, hlc, hC', hm, hb, hg⟩ := opens_slice_row hu hC hB ho H enc w fuel A len c _ hf' hz
  exact ⟨A, c, l, rfl, hlc, hC', hm, hb, hg⟩
theorem arg_struct {α : Type} {t : TypeId} {fs : Array Field} {d : Kd α} {good : α → Prop} (hu : P.underlying t = some (.struct fs)) (ho : Opens P t d good)
    {H : Type} {enc : TypeId × Value → H} {w : World} {r : Reach} {b0 : Nat} {v : Value} {x : DataW H} {ps : List MemPlace} (hv : Value.okWide P w r b0 t v)
    (h : DataW.Trod enc P w 0 (fun _ => true) true t v x ps) (hz : ∀ n ∈ x.weights P t, n ≤ reachBytes) :
    ∃ (a : α) (cs : List Value), v = .agg cs.toArray ∧ d.K w a cs ∧ good a := by
  obtain ⟨cs, rfl, _⟩ := okWide_struct hu hv
  obtain ⟨fuel, hf⟩ := h
  obtain ⟨a, ha, hg⟩ := ho H enc w fuel _ _ hf hz
  exact ⟨a, cs.toList, by simp, by simpa [Value.cells] using ha, hg⟩
end Go.Proofs.Ytbcngajkokjfjaa.Opn
namespace Go.Proofs.Ytbcngajkokjfjaa.spreadAll
open Go.RowKit Go.Proofs.YtbcngajkokjfjaaW.PrintWords Go.Proofs.YtbcngajkokjfjaaW.PrintLast Go.Proofs.YtbcngajkokjfjaaW.PrintMore Go.Proofs.Ytbcngajkokjfjaa.QAll
set_option linter.unusedVariables false
def G38 (x : S38) : Prop := (Lit.int .i64 x.f0).wf = true ∧ (Lit.int .i64 x.f1).wf = true
def G49 (x : S49) : Prop := True ∧ (x.f1.length ≤ maxLen ∧ x.f1.length * 16 ≤ 140737488351232 ∧ ∀ a ∈ x.f1, G38 a) ∧ (x.f2.length ≤ maxLen ∧ x.f2.length * 8 ≤ 140737488351232 ∧ ∀ a ∈ x.f2, (Lit.int .i64 a).wf = true)
def Pure : Prop := ∀ (x0 : (List S49)) (x1 : (List S38)) (x2 : S38), (x0.length ≤ maxLen ∧ x0.length * 56 ≤ 140737488351232 ∧ ∀ a ∈ x0, G49 a) → (x1.length ≤ maxLen ∧ x1.length * 16 ≤ 140737488351232 ∧ ∀ a ∈ x1, G38 a) → G38 x2 → ∃ k, kissgatelaw17_SpreadAll.f k x0 x1 x2.f0 x2.f1 = some true
end Go.Proofs.Ytbcngajkokjfjaa.spreadAll
namespace Go.Proofs.Ytbcngajkokjfjaa.All
open Go.RowKit Go.Proofs.YtbcngajkokjfjaaW.PrintWords Go.Proofs.YtbcngajkokjfjaaW.PrintLast Go.Proofs.YtbcngajkokjfjaaW.PrintMore Go.Proofs.Ytbcngajkokjfjaa.QAll
open Go.Lib (compact compactUpTo keeps)
theorem wrap_up {i : Int} {n : Nat} (h0 : 0 ≤ i) (h : i < (n : Int)) (hn : n ≤ 9223372036854775000) : wrap64 (i + 1) = i + 1 := by
  unfold wrap64
  omega
def find (xs : List S38) (a b : Int) : Option Nat := xs.findIdx? fun x => a == x.f0 && b == x.f1
theorem rd38 {xs : List S38} {i : Nat} (h : i < xs.length) : rd_T38 xs i = xs[i] := by
  unfold rd_T38
  rw [Int.toNat_natCast, List.getD_eq_getElem?_getD, List.getElem?_eq_getElem h]; rfl
def findFrom (xs : List S38) (a b : Int) (i : Nat) : Option Nat := (find (xs.drop i) a b).map (· + i)
theorem findFrom_end (xs : List S38) (a b : Int) (i : Nat) (h : xs.length ≤ i) : findFrom xs a b i = none := by
  unfold findFrom find
  rw [List.drop_of_length_le h]
  rfl
theorem findFrom_step (xs : List S38) (a b : Int) (i : Nat) (h : i < xs.length) : findFrom xs a b i = if (a == xs[i].f0 && b == xs[i].f1) = true then some i else findFrom xs a b (i + 1) := by
  unfold findFrom find
  rw [List.drop_eq_getElem_cons h, List.findIdx?_cons]
  split
  · simp
  · cases List.findIdx? (fun x => a == x.f0 && b == x.f1) (List.drop (i + 1) xs) with
    | none => rfl
    | some j => simp; omega
theorem findFrom_zero (xs : List S38) (a b : Int) : findFrom xs a b 0 = find xs a b := by
  unfold findFrom
  rw [List.drop_zero]
  cases find xs a b <;> simp
theorem index_from (xs : List S38) (a b : Int) (hn : xs.length ≤ 9223372036854775000) (d : Nat) : ∀ i : Nat, i + d = xs.length →
    Ev (fun k => api_Attr_44.l0 k xs xs.length i a b) (match findFrom xs a b i with | some j => (j : Int) | none => -1) := by
  induction d with
  | zero =>
    intro i hi
    rw [findFrom_end xs a b i (by omega)]
    refine Ev.step (fun k => by rw [api_Attr_44.l0, if_neg (by omega)]) (Ev.now _)
  | succ d ih =>
    intro i hi
    rw [findFrom_step xs a b i (by omega)]
    have hlt : i < xs.length := by omega
    by_cases hc : (a == xs[i].f0 && b == xs[i].f1) = true
    · rw [if_pos hc]
      exact Ev.step (fun k => by rw [api_Attr_44.l0, if_pos (by omega), if_pos (by omega), if_pos (by omega), rd38 hlt, if_pos hc]) (Ev.now _)
    · rw [if_neg hc]
      refine Ev.step (fun k => by rw [api_Attr_44.l0, if_pos (by omega), if_pos (by omega), if_pos (by omega), rd38 hlt, if_neg hc, wrap_up (n := xs.length) (by omega) (by omega) hn]) ?_
      exact ih (i + 1) (by omega)
theorem rd49 {l : List S49} {i : Nat} (h : i < l.length) : rd_T49 l i = l[i] := by
  unfold rd_T49
  rw [Int.toNat_natCast, List.getD_eq_getElem?_getD, List.getElem?_eq_getElem h]; rfl
def Few (l : List S49) : Prop := l.length ≤ 20 ∧ ∀ v ∈ l, v.f1.length ≤ 40 ∧ v.f2.length ≤ 100
def conv (v : S49) : S47 := ⟨v.f0, v.f1, v.f2⟩
theorem rd47 {l : List S49} {i : Nat} (h : i < l.length) : rd_T47 (l.map conv) i = conv l[i] := by
  unfold rd_T47
  rw [Int.toNat_natCast, List.getD_eq_getElem?_getD, List.getElem?_map, List.getElem?_eq_getElem h]; rfl
theorem plain_loop (l : List S49) (hl : l.length * 56 ≤ 140737488351232) (d : Nat) : ∀ (i : Nat), i + d = l.length →
    (∃ r, Ev (fun k => kissgatelaw17_plain.l0 k l ((l.take i).map conv) l l.length i) (r, false)) ∨
    (Ev (fun k => kissgatelaw17_plain.l0 k l ((l.take i).map conv) l l.length i) (l.map conv, decide ((l.length : Int) ≤ 20)) ∧ ∀ v ∈ l.drop i, v.f1.length ≤ 40 ∧ v.f2.length ≤ 100) := by
  induction d with
  | zero =>
    intro i hi
    refine .inr ⟨?_, by rw [List.drop_of_length_le (by omega)]; simp⟩
    rw [List.take_of_length_le (by omega)]
    exact Ev.step (fun k => by rw [kissgatelaw17_plain.l0, if_neg (by omega)]) (Ev.now _)
  | succ d ih =>
    intro i hi
    have hlt : i < l.length := by omega
    by_cases h1 : (l[i].f1.length : Int) > 40
    · exact .inl ⟨_, Ev.step (fun k => by rw [kissgatelaw17_plain.l0, if_pos (by omega), if_pos (by omega), if_pos (by omega), rd49 hlt, if_pos h1]) (Ev.now _)⟩
    · by_cases h2 : (l[i].f2.length : Int) > 100
      · exact .inl ⟨_, Ev.step (fun k => by rw [kissgatelaw17_plain.l0, if_pos (by omega), if_pos (by omega), if_pos (by omega), rd49 hlt, if_neg h1, if_pos h2]) (Ev.now _)⟩
      · have hstep : ∀ k, kissgatelaw17_plain.l0 (k + 1) l ((l.take i).map conv) l l.length i = kissgatelaw17_plain.l0 k l ((l.take (i + 1)).map conv) l l.length ((i + 1 : Nat) : Int) := by
          intro k
          rw [kissgatelaw17_plain.l0, if_pos (by omega), if_pos (by omega), if_pos (by omega), rd49 hlt, if_neg h1, if_neg h2, if_pos (by simp; omega), wrap_up (n := l.length) (by omega) (by omega) (by omega), List.take_succ_eq_append_getElem hlt, List.map_append]
          rfl
        rcases ih (i + 1) (by omega) with ⟨r, hr⟩ | ⟨hr, hv⟩
        · exact .inl ⟨r, Ev.step hstep hr⟩
        · refine .inr ⟨Ev.step hstep hr, ?_⟩
          rw [List.drop_eq_getElem_cons hlt]
          intro v hv'
          rcases List.mem_cons.1 hv' with rfl | hv'
          · exact ⟨by omega, by omega⟩
          · exact hv v hv'
theorem plain (l : List S49) (hl : l.length * 56 ≤ 140737488351232) : (∃ r, Ev (fun k => kissgatelaw17_plain.f k l) (r, false)) ∨ (Ev (fun k => kissgatelaw17_plain.f k l) (l.map conv, true) ∧ Few l) := by
  unfold kissgatelaw17_plain.f
  rcases plain_loop l hl l.length 0 (by omega) with ⟨r, h⟩ | ⟨h, hv⟩
  · exact .inl ⟨r, by simpa using h⟩
  · by_cases hn : l.length ≤ 20
    · refine .inr ⟨?_, hn, by simpa using hv⟩
      have : decide ((l.length : Int) ≤ 20) = true := decide_eq_true (by omega)
      rw [this] at h
      simpa using h
    · refine .inl ⟨l.map conv, ?_⟩
      have : decide ((l.length : Int) ≤ 20) = false := decide_eq_false (by omega)
      rw [this] at h
      simpa using h
theorem alive : Ev (fun k => kissgatelaw17_alive.f k) true := Ev.of kissgatelaw17_alive.mono (k := 60) (by decide +kernel)
theorem mem_compact (zs : List S38) (x : S38) : x ∈ compact zs ↔ x ∈ zs := by
  unfold compact compactUpTo
  simp only [List.mem_map, List.mem_filter, List.mem_range]
  constructor
  · rintro ⟨j, ⟨hj, _⟩, rfl⟩
    rw [getElem!_pos _ j (by simpa using hj)]
    simp
  · intro hx
    obtain ⟨j, hj, rfl⟩ := List.getElem_of_mem hx
    have key : ∀ j, (hj : j < zs.length) → ∃ m, (m < zs.length ∧ keeps zs.toArray m = true) ∧ zs.toArray[m]! = zs[j] := by
      intro j
      induction j with
      | zero => intro hj; exact ⟨0, ⟨hj, by simp [keeps]⟩, by rw [getElem!_pos _ 0 (by simpa using hj)]; simp⟩
      | succ j ih =>
        intro hj
        by_cases hk : keeps zs.toArray (j + 1) = true
        · exact ⟨j + 1, ⟨hj, hk⟩, by rw [getElem!_pos _ (j + 1) (by simpa using hj)]; simp⟩
        · obtain ⟨m, hm, he⟩ := ih (by omega)
          refine ⟨m, hm, he.trans ?_⟩
          simp only [keeps, decide_eq_true_eq, not_or, Nat.add_sub_cancel, ne_eq, Decidable.not_not] at hk
          have := hk.2
          rw [getElem!_pos _ (j + 1) (by simpa using hj), getElem!_pos _ j (by simp; omega)] at this
          simpa using this.symm
    exact key j hj
theorem compact_len (zs : List S38) : (compact zs).length ≤ zs.length := by
  unfold compact compactUpTo
  rw [List.length_map]
  exact Nat.le_trans (List.length_filter_le _ _) (by simp)
theorem lx_of_le {x y : S38} (h : cf x y ≤ 0) (hne : x ≠ y) : lx x y := by
  have h1 : ¬ lx y x := fun k => by have := (cf_lt y x).2 k; rw [cf_neg x y] at this; omega
  apply Classical.byContradiction
  intro h2
  exact hne (not_lx h2 h1)
theorem sorted_get {zs : List S38} (hs : zs.Pairwise fun x y => cf x y ≤ 0) {i j : Nat} (hij : i ≤ j) (hj : j < zs.length) : cf (zs.toArray[i]!) (zs.toArray[j]!) ≤ 0 := by
  rw [getElem!_pos _ i (by simp; omega), getElem!_pos _ j (by simpa using hj)]
  simp only [List.getElem_toArray]
  rcases Nat.lt_or_ge i j with h | h
  · exact List.pairwise_iff_getElem.1 hs i j (by omega) hj h
  · obtain rfl : i = j := by omega
    have := cf_neg zs[i] zs[i]
    omega
theorem compact_strict {zs : List S38} (hs : zs.Pairwise fun x y => cf x y ≤ 0) : (compact zs).Pairwise lx := by
  unfold compact compactUpTo
  rw [List.pairwise_map, List.pairwise_filter]
  refine (List.pairwise_iff_getElem.2 fun i j hi hj hij => ?_)
  simp only [List.length_range] at hi hj
  simp only [List.getElem_range]
  intro _ hk
  have h1 := sorted_get hs (i := i) (j := j - 1) (by omega) (by omega)
  have h2 := sorted_get hs (i := j - 1) (j := j) (by omega) hj
  have hne : zs.toArray[j]! ≠ zs.toArray[j - 1]! := by
    simp only [keeps, decide_eq_true_eq] at hk
    rcases hk with h | h
    · omega
    · exact h
  have h3 := lx_of_le h2 (fun e => hne e.symm)
  have h4 : cf (zs.toArray[i]!) (zs.toArray[j]!) ≤ 0 := cf_le_trans h1 h2
  refine lx_of_le h4 fun e => ?_
  rw [e] at h1
  have := (cf_lt _ _).2 h3
  rw [cf_neg] at h1
  omega
def has (xs : List S38) (a b : Int) : Bool := xs.any fun x => x.f0 == a && x.f1 == b
theorem has_iff (xs : List S38) (x : S38) : has xs x.f0 x.f1 = true ↔ x ∈ xs := by
  unfold has
  rw [List.any_eq_true]
  constructor
  · rintro ⟨y, hy, he⟩
    rw [Bool.and_eq_true, beq_iff_eq, beq_iff_eq] at he
    rwa [← S38.ext' he.1 he.2]
  · intro h; exact ⟨x, h, by simp⟩
theorem has_from (xs : List S38) (a b : Int) (hn : xs.length ≤ 9223372036854775000) (d : Nat) : ∀ i : Nat, i + d = xs.length →
    Ev (fun k => kissgateref17_Has.l0 k xs xs.length i a b) (has (xs.drop i) a b) := by
  induction d with
  | zero =>
    intro i hi
    rw [List.drop_of_length_le (by omega)]
    exact Ev.step (fun k => by rw [kissgateref17_Has.l0, if_neg (by omega)]; rfl) (Ev.now _)
  | succ d ih =>
    intro i hi
    have hlt : i < xs.length := by omega
    rw [List.drop_eq_getElem_cons hlt, has, List.any_cons]
    by_cases hc : (xs[i].f0 == a && xs[i].f1 == b) = true
    · rw [hc, Bool.true_or]
      exact Ev.step (fun k => by rw [kissgateref17_Has.l0, if_pos (by omega), if_pos (by omega), if_pos (by omega), rd38 hlt, if_pos hc]) (Ev.now _)
    · rw [Bool.not_eq_true] at hc
      rw [hc, Bool.false_or]
      refine Ev.step (fun k => by rw [kissgateref17_Has.l0, if_pos (by omega), if_pos (by omega), if_pos (by omega), rd38 hlt, if_neg (by rw [hc]; simp), wrap_up (n := xs.length) (by omega) (by omega) hn]) ?_
      exact ih (i + 1) (by omega)
theorem has_ev (o : Bool) (xs : List S38) (bs : List Int) (a b : Int) (hn : xs.length ≤ 9223372036854775000) : Ev (fun k => kissgateref17_Has.f k o xs bs a b) (has xs a b) := by
  have := has_from xs a b hn xs.length 0 (by omega)
  rw [List.drop_zero] at this
  exact this
theorem find_has (xs : List S38) (a b : Int) : (match find xs a b with | some j => (j : Int) | none => -1) ≥ 0 ↔ has xs a b = true := by
  unfold find has
  cases h : List.findIdx? (fun x => a == x.f0 && b == x.f1) xs with
  | none =>
    rw [List.findIdx?_eq_none_iff] at h
    constructor
    · intro h2; exact absurd h2 (by decide)
    · intro h2
      obtain ⟨y, hy, he⟩ := List.any_eq_true.1 h2
      have := h y hy
      rw [Bool.and_eq_true, beq_iff_eq, beq_iff_eq] at he
      rw [he.1, he.2] at this
      simp at this
  | some j =>
    constructor
    · intro _
      obtain ⟨hj, hp, _⟩ := List.findIdx?_eq_some_iff_getElem.1 h
      refine List.any_eq_true.2 ⟨xs[j], by simp, ?_⟩
      rw [Bool.and_eq_true, beq_iff_eq, beq_iff_eq] at hp ⊢
      exact ⟨hp.1.symm, hp.2.symm⟩
    · intro _; show (j : Int) ≥ 0; omega
theorem contains_ev (xs : List S38) (a b : Int) (hn : xs.length ≤ 9223372036854775000) : Ev (fun k => api_Attr_43.f k xs a b) (has xs a b) := by
  unfold api_Attr_43.f
  have h := index_from xs a b hn xs.length 0 (by omega)
  rw [findFrom_zero] at h
  have h2 : Ev (fun k => api_Attr_44.f k xs a b) (match find xs a b with | some j => (j : Int) | none => -1) := Ev.congr (fun k => rfl) h
  refine Ev.bind h2 ?_
  have e : decide ((match find xs a b with | some j => (j : Int) | none => -1) ≥ 0) = has xs a b := by
    rw [Bool.eq_iff_iff, decide_eq_true_eq]; exact find_has xs a b
  rw [← e]
  exact Ev.now _
def mem (a b : Int) : Nat → List S49 → List Int
  | _, [] => []
  | i, v :: r => if has v.f1 a b = true then (i : Int) :: mem a b (i + 1) r else mem a b (i + 1) r
theorem mem_drop (a b : Int) (l : List S49) (i : Nat) (h : i < l.length) : mem a b i (l.drop i) = if has l[i].f1 a b = true then (i : Int) :: mem a b (i + 1) (l.drop (i + 1)) else mem a b (i + 1) (l.drop (i + 1)) := by
  rw [List.drop_eq_getElem_cons h]; rfl
theorem members_loop (l : List S49) (a b : Int) (hf : Few l) (d : Nat) : ∀ (i : Nat) (acc : List Int), i + d = l.length → acc.length ≤ i →
    Ev (fun k => spread_Members.l0 k acc l l.length i a b) (acc ++ mem a b i (l.drop i)) := by
  have h20 := hf.1
  induction d with
  | zero =>
    intro i acc hi _
    rw [List.drop_of_length_le (by omega)]
    simp only [mem, List.append_nil]
    exact Ev.step (fun k => by rw [spread_Members.l0, if_neg (by omega)]) (Ev.now _)
  | succ d ih =>
    intro i acc hi ha
    have hlt : i < l.length := by omega
    have h40 := (hf.2 l[i] (by simp)).1
    rw [mem_drop a b l i hlt]
    refine Ev.step (fun k => by rw [spread_Members.l0, if_pos (by omega), if_pos (by omega), if_pos (by omega), rd49 hlt, wrap_up (n := l.length) (by omega) (by omega) (by omega)]) ?_
    refine Ev.bind (contains_ev l[i].f1 a b (by omega)) ?_
    by_cases hc : has l[i].f1 a b = true
    · simp only [hc, if_true]
      refine Ev.congr (fun k => by rw [if_pos (by omega)]) ?_
      have := ih (i + 1) (acc ++ [(i : Int)]) (by omega) (by simp; omega)
      rw [List.append_assoc] at this
      exact this
    · simp only [if_neg hc]
      exact ih (i + 1) acc (by omega) (by omega)
theorem members_ev (l : List S49) (a b : Int) (hf : Few l) : Ev (fun k => spread_Members.f k l a b) (mem a b 0 l) := by
  have := members_loop l a b hf l.length 0 [] (by omega) (by simp)
  rw [List.drop_zero, List.nil_append] at this
  exact this
theorem mem_len (a b : Int) : ∀ (l : List S49) (i : Nat), (mem a b i l).length ≤ l.length
  | [], _ => Nat.le_refl _
  | v :: r, i => by
    unfold mem
    have := mem_len a b r (i + 1)
    split <;> simp only [List.length_cons] <;> omega
theorem same_from (xs : List Int) (hn : xs.length ≤ 9223372036854775000) (d : Nat) : ∀ i : Nat, i + d = xs.length → Ev (fun k => kissgateref06_Same.l0 k xs xs xs.length i) true := by
  induction d with
  | zero =>
    intro i hi
    exact Ev.step (fun k => by rw [kissgateref06_Same.l0, if_neg (by omega)]) (Ev.now _)
  | succ d ih =>
    intro i hi
    refine Ev.step (fun k => by rw [kissgateref06_Same.l0, if_pos (by omega), if_pos (by omega), if_pos (by omega), if_pos (by omega), if_pos rfl, wrap_up (n := xs.length) (by omega) (by omega) hn]) ?_
    exact ih (i + 1) (by omega)
theorem same_ev (xs : List Int) (hn : xs.length ≤ 9223372036854775000) : Ev (fun k => kissgateref06_Same.f k xs xs) true := by
  unfold kissgateref06_Same.f
  refine Ev.congr (fun k => by rw [if_pos rfl]) ?_
  exact same_from xs hn xs.length 0 (by omega)
def row (l : List S49) (more : List S38) : List S38 := more ++ l.flatMap (·.f1)
def all (l : List S49) (more : List S38) : List S38 := compact (vsort (row l more))
theorem flat_len (l : List S49) (h : ∀ v ∈ l, v.f1.length ≤ 40) : (l.flatMap (·.f1)).length ≤ l.length * 40 := by
  induction l with
  | nil => simp
  | cons v r ih =>
    rw [List.flatMap_cons, List.length_append, List.length_cons]
    have h1 := h v (by simp)
    have h2 := ih fun x hx => h x (by simp [hx])
    omega
theorem row_len (l : List S49) (more : List S38) (hf : Few l) (hm : more.length ≤ 40) : (row l more).length ≤ 840 := by
  unfold row
  rw [List.length_append]
  have := flat_len l fun v hv => (hf.2 v hv).1
  have := hf.1
  omega
theorem all_len (l : List S49) (more : List S38) (hf : Few l) (hm : more.length ≤ 40) : (all l more).length ≤ 840 := by
  have h1 := compact_len (vsort (row l more))
  have h2 := (vsort_perm (row l more)).length_eq
  have h3 := row_len l more hf hm
  unfold all
  omega
theorem mem_all (l : List S49) (more : List S38) (x : S38) : x ∈ all l more ↔ x ∈ more ∨ ∃ v ∈ l, x ∈ v.f1 := by
  unfold all row
  rw [mem_compact, (vsort_perm _).mem_iff, List.mem_append, List.mem_flatMap]
theorem all_strict (l : List S49) (more : List S38) : (all l more).Pairwise lx := compact_strict (vsort_pairwise _)
theorem all_loop (l : List S49) (hf : Few l) (d : Nat) : ∀ (i : Nat) (acc : List S38), i + d = l.length → acc.length + (l.length - i) * 40 ≤ 840 →
    Ev (fun k => spread_All.l0 k acc l l.length i) (compact (vsort (acc ++ (l.drop i).flatMap (·.f1)))) := by
  have h20 := hf.1
  induction d with
  | zero =>
    intro i acc hi ha
    rw [List.drop_of_length_le (by omega)]
    simp only [List.flatMap_nil, List.append_nil]
    refine Ev.step (fun k => by rw [spread_All.l0, if_neg (by omega), api_Attr_40.f, if_pos (by omega)]) ?_
    simp only [Option.bind_some, api_Attr_42.f]
    exact Ev.now _
  | succ d ih =>
    intro i acc hi ha
    have hlt : i < l.length := by omega
    have h40 := (hf.2 l[i] (by simp)).1
    refine Ev.step (fun k => by rw [spread_All.l0, if_pos (by omega), if_pos (by omega), if_pos (by omega), rd49 hlt, if_pos (by omega), wrap_up (n := l.length) (by omega) (by omega) (by omega)]) ?_
    have := ih (i + 1) (acc ++ l[i].f1) (by omega) (by rw [List.length_append]; omega)
    rw [List.append_assoc] at this
    rw [List.drop_eq_getElem_cons hlt, List.flatMap_cons]
    exact this
theorem all_ev (l : List S49) (more : List S38) (hf : Few l) (hm : more.length ≤ 40) : Ev (fun k => spread_All.f k l more) (all l more) := by
  unfold spread_All.f
  have h20 := hf.1
  refine Ev.congr (fun k => by rw [api_Attr_39.f, if_pos (by omega), Option.bind_some]) ?_
  have := all_loop l hf l.length 0 more (by omega) (by omega)
  rw [List.drop_zero] at this
  exact this
end Go.Proofs.Ytbcngajkokjfjaa.All
namespace Go.Proofs.Ytbcngajkokjfjaa.spreadAll
open Go.RowKit Go.Proofs.YtbcngajkokjfjaaW.PrintWords Go.Proofs.YtbcngajkokjfjaaW.PrintLast Go.Proofs.YtbcngajkokjfjaaW.PrintMore Go.Proofs.Ytbcngajkokjfjaa.QAll Go.Proofs.Ytbcngajkokjfjaa.All
theorem less_ev {x y : S38} (h : lx x y) : kissgateref07_Less.f x.f0 x.f1 y.f0 y.f1 = some true := by
  unfold kissgateref07_Less.f
  unfold lx at h
  by_cases h0 : x.f0 < y.f0
  · rw [if_pos h0]
  · rw [if_neg h0]
    have h1 : x.f0 = y.f0 := by omega
    rw [if_pos h1, decide_eq_true (by omega)]
variable (l : List S49) (more : List S38) (a b : Int)
theorem loop4 (hf : Few l) (hm : more.length ≤ 40) (d : Nat) : ∀ i : Nat, i + d = more.length →
    Ev (fun k => kissgatelaw17_SpreadAll.l4 k l (all l more) (mem a b 0 l) more more.length i a b) true := by
  have h20 := hf.1
  have hal := all_len l more hf hm
  induction d with
  | zero =>
    intro i hi
    refine Ev.step (fun k => by rw [kissgatelaw17_SpreadAll.l4, if_neg (by omega)]) ?_
    refine Ev.bind (members_ev l a b hf) ?_
    have := mem_len a b l 0
    exact Ev.bind (same_ev (mem a b 0 l) (by omega)) (Ev.now _)
  | succ d ih =>
    intro i hi
    have hlt : i < more.length := by omega
    refine Ev.step (fun k => by rw [kissgatelaw17_SpreadAll.l4, if_pos (by omega), if_pos (by omega), if_pos (by omega), rd38 hlt, wrap_up (n := more.length) (by omega) (by omega) (by omega)]) ?_
    refine Ev.bind (has_ev false (all l more) [] _ _ (by omega)) ?_
    have : has (all l more) more[i].f0 more[i].f1 = true := (has_iff _ _).2 ((mem_all l more _).2 (.inl (by simp)))
    simp only [this, if_true]
    exact ih (i + 1) (by omega)
theorem loop3 (hf : Few l) (hm : more.length ≤ 40) (acc : List Int) (j : Nat) (hj : j < l.length)
    (hk : Ev (fun k => kissgatelaw17_SpreadAll.l2 k l more (all l more) acc (l.map conv) l.length ((j + 1 : Nat) : Int) a b) true) (d : Nat) : ∀ i : Nat, i + d = l[j].f1.length →
    Ev (fun k => kissgatelaw17_SpreadAll.l3 k l more (all l more) acc (l.map conv) l.length j l[j].f1 l[j].f1.length i a b) true := by
  have h20 := hf.1
  have hal := all_len l more hf hm
  have h40 := (hf.2 l[j] (by simp)).1
  induction d with
  | zero =>
    intro i hi
    exact Ev.step (fun k => by rw [kissgatelaw17_SpreadAll.l3, if_neg (by omega), wrap_up (n := l.length) (by omega) (by omega) (by omega)]; rfl) hk
  | succ d ih =>
    intro i hi
    have hlt : i < l[j].f1.length := by omega
    refine Ev.step (fun k => by rw [kissgatelaw17_SpreadAll.l3, if_pos (by omega), if_pos (by omega), if_pos (by omega), rd38 hlt, wrap_up (i := i) (n := l[j].f1.length) (by omega) (by omega) (by omega)]) ?_
    refine Ev.bind (has_ev false (all l more) [] _ _ (by omega)) ?_
    have : has (all l more) l[j].f1[i].f0 l[j].f1[i].f1 = true := (has_iff _ _).2 ((mem_all l more _).2 (.inr ⟨l[j], by simp, by simp⟩))
    simp only [this, if_true]
    exact ih (i + 1) (by omega)
theorem loop2 (hf : Few l) (hm : more.length ≤ 40) (d : Nat) : ∀ (j : Nat) (acc : List Int), j + d = l.length → acc.length ≤ j → acc ++ mem a b j (l.drop j) = mem a b 0 l →
    Ev (fun k => kissgatelaw17_SpreadAll.l2 k l more (all l more) acc (l.map conv) l.length j a b) true := by
  have h20 := hf.1
  induction d with
  | zero =>
    intro j acc hj ha he
    rw [List.drop_of_length_le (by omega)] at he
    simp only [mem, List.append_nil] at he
    refine Ev.step (fun k => by rw [kissgatelaw17_SpreadAll.l2, if_neg (by omega)]) ?_
    rw [he]
    exact loop4 l more a b hf hm more.length 0 (by omega)
  | succ d ih =>
    intro j acc hj ha he
    have hlt : j < l.length := by omega
    have h40 := (hf.2 l[j] (by simp)).1
    have hlen : (l.map conv).length = l.length := by simp
    refine Ev.step (fun k => by rw [kissgatelaw17_SpreadAll.l2, if_pos (by omega), if_pos (by omega), if_pos (by omega), rd47 hlt]) ?_
    refine Ev.bind (has_ev _ l[j].f1 _ a b (by omega)) ?_
    rw [mem_drop a b l j hlt] at he
    by_cases hc : has l[j].f1 a b = true
    · rw [if_pos hc] at he
      simp only [hc, if_true]
      refine Ev.congr (fun k => by rw [if_pos (by omega)]) ?_
      exact loop3 l more a b hf hm (acc ++ [(j : Int)]) j hlt (ih (j + 1) _ (by omega) (by simp; omega) (by rw [List.append_assoc]; exact he)) _ 0 (by simp; rfl)
    · rw [if_neg hc] at he
      simp only [if_neg hc]
      exact loop3 l more a b hf hm acc j hlt (ih (j + 1) _ (by omega) (by omega) he) _ 0 (by simp; rfl)
theorem loop1 (hf : Few l) (i : Nat) (hi : i < (all l more).length) (hi2 : (all l more).length ≤ 840) (p q : Int)
    (hk : Ev (fun k => kissgatelaw17_SpreadAll.l0 k l more (l.map conv) (all l more) (all l more) (all l more).length ((i + 1 : Nat) : Int) a b) true) (d : Nat) : ∀ (j : Nat) (g : Bool), j + d = l.length → (g || (l.drop j).any fun v => has v.f1 p q) = true →
    Ev (fun k => kissgatelaw17_SpreadAll.l1 k l more (l.map conv) (all l more) g (all l more) (all l more).length i (l.map conv) l.length j a b p q) true := by
  have h20 := hf.1
  have hlen : (l.map conv).length = l.length := by simp
  induction d with
  | zero =>
    intro j g hj hg
    rw [List.drop_of_length_le (by omega)] at hg
    simp only [List.any_nil, Bool.or_false] at hg
    exact Ev.step (fun k => by rw [kissgatelaw17_SpreadAll.l1, if_neg (by omega), if_pos hg, wrap_up (i := i) (n := (all l more).length) (by omega) (by omega) (by omega)]; rfl) hk
  | succ d ih =>
    intro j g hj hg
    have hlt : j < l.length := by omega
    have h40 := (hf.2 l[j] (by simp)).1
    rw [List.drop_eq_getElem_cons hlt, List.any_cons] at hg
    by_cases hgt : g = true
    · refine Ev.step (fun k => by rw [kissgatelaw17_SpreadAll.l1, if_pos (by omega), if_pos (by omega), if_pos (by omega), if_pos hgt, wrap_up (i := j) (n := l.length) (by omega) (by omega) (by omega)]) ?_
      exact ih (j + 1) true (by omega) (by simp)
    · refine Ev.step (fun k => by rw [kissgatelaw17_SpreadAll.l1, if_pos (by omega), if_pos (by omega), if_pos (by omega), if_neg hgt, rd47 hlt, wrap_up (i := j) (n := l.length) (by omega) (by omega) (by omega)]) ?_
      refine Ev.bind (has_ev _ l[j].f1 _ p q (by omega)) ?_
      rw [Bool.not_eq_true] at hgt
      rw [hgt, Bool.false_or] at hg
      exact ih (j + 1) _ (by omega) hg
theorem loop0 (hf : Few l) (hm : more.length ≤ 40) (d : Nat) : ∀ i : Nat, i + d = (all l more).length →
    Ev (fun k => kissgatelaw17_SpreadAll.l0 k l more (l.map conv) (all l more) (all l more) (all l more).length i a b) true := by
  have h20 := hf.1
  have hal := all_len l more hf hm
  have hlen : ((l.map conv).length : Int) = l.length := by simp
  induction d with
  | zero =>
    intro i hi
    refine Ev.step (fun k => by rw [kissgatelaw17_SpreadAll.l0, if_neg (by omega), hlen]) ?_
    exact loop2 l more a b hf hm l.length 0 [] (by omega) (by simp) (by simp)
  | succ d ih =>
    intro i hi
    have hlt : i < (all l more).length := by omega
    have hin : (has more (all l more)[i].f0 (all l more)[i].f1 || (l.drop 0).any fun v => has v.f1 (all l more)[i].f0 (all l more)[i].f1) = true := by
      rw [List.drop_zero, Bool.or_eq_true, List.any_eq_true, has_iff]
      rcases (mem_all l more (all l more)[i]).1 (by simp) with h | ⟨v, hv, h⟩
      · exact .inl h
      · exact .inr ⟨v, hv, (has_iff _ _).2 h⟩
    have go := loop1 l more a b hf i hlt hal (all l more)[i].f0 (all l more)[i].f1 (ih (i + 1) (by omega)) l.length 0 _ (by omega) hin
    by_cases h0 : (i : Int) > 0
    · obtain ⟨m, rfl⟩ : ∃ m, i = m + 1 := ⟨i - 1, by omega⟩
      have hw : wrap64 (((m + 1 : Nat) : Int) - 1) = (m : Int) := by unfold wrap64; omega
      have hlt' : m < (all l more).length := by omega
      have hs := List.pairwise_iff_getElem.1 (all_strict l more) m (m + 1) hlt' hlt (by omega)
      refine Ev.step (fun k => by rw [kissgatelaw17_SpreadAll.l0, if_pos (by omega), if_pos (by omega), if_pos (by omega), if_pos h0, hw, if_pos (by omega), if_pos (by omega), rd38 hlt, rd38 hlt', less_ev hs, Option.bind_some, if_pos rfl, hlen]) ?_
      exact Ev.bind (has_ev false more [] _ _ (by omega)) go
    · refine Ev.step (fun k => by rw [kissgatelaw17_SpreadAll.l0, if_pos (by omega), if_pos (by omega), if_pos (by omega), if_neg h0, rd38 hlt, hlen]) ?_
      exact Ev.bind (has_ev false more [] _ _ (by omega)) go
theorem pure : Pure := by
  intro l more x hl hm hx
  obtain ⟨hm1, hb, hg⟩ := hl
  refine Ev.rounds ?_
  unfold kissgatelaw17_SpreadAll.f
  refine Ev.bind alive ?_
  simp only [if_true]
  rcases plain l hb with ⟨r, h⟩ | ⟨h, hf⟩
  · refine Ev.bind h ?_
    simp only [Bool.false_eq_true, if_false]
    exact Ev.now _
  · refine Ev.bind h ?_
    simp only [if_true]
    by_cases h40 : (more.length : Int) > 40
    · exact Ev.congr (fun k => by rw [if_pos h40]) (Ev.now _)
    · refine Ev.congr (fun k => by rw [if_neg h40]) ?_
      refine Ev.bind (all_ev l more hf (by omega)) ?_
      exact loop0 l more x.f0 x.f1 hf (by omega) _ 0 (by simp; rfl)
end Go.Proofs.Ytbcngajkokjfjaa.spreadAll

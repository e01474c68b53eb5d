/- Functions of the program as plain Lean functions, what their calls do, and what follows of it. Conditions: each theorem's own. -/
import Derived.Test.YtbcngajkokjfjaaCSpreadUp1
namespace Go.Proofs.Ytbcngajkokjfjaa.Opn
open Go.ChangeShapes Go.WideShapes Go.Proofs.YtbcngajkokjfjaaW.PrintWords
variable {P : Program}
def Opens {α : Type} (P : Program) (t : TypeId) (d : Kd α) (good : α → Prop) : Prop :=
  ∀ (H : Type) (enc : TypeId × Value → H) (w : World) (fuel : Nat) (cs : List Value) (x : DataW H × List MemPlace),
    DataW.trod enc P w 0 (fun _ => true) true fuel t cs = some x → (∀ n ∈ x.1.weights P t, n ≤ reachBytes) → ∃ a : α, d.K w a cs ∧ good a
theorem opens_int {t : TypeId} {k : IntKind} (hu : P.underlying t = some (.int k)) : Opens P t (Kd.int k) (fun n => (Lit.int k n).wf = true) := by
  intro H enc w fuel cs x h _
  obtain ⟨n, rfl, _, hw⟩ := DataW.trod_int hu h
  exact ⟨n, rfl, hw⟩
theorem opens_bool {t : TypeId} (hu : P.underlying t = some .bool) : Opens P t Kd.bool (fun _ => True) := by
  intro H enc w fuel cs x h _
  obtain ⟨b, rfl, _⟩ := DataW.trod_bool hu h
  exact ⟨b, rfl, trivial⟩
theorem weightsAll_mem {H : Type} {e : TypeId} : ∀ {l : List (DataW H)} {d : DataW H}, d ∈ l → ∀ n ∈ d.weights P e, n ∈ DataW.weightsAll P e l
  | [], d, h, _, _ => by simp at h
  | d0 :: l, d, h, n, hn => by
    simp only [DataW.weightsAll, List.mem_append]
    rcases List.mem_cons.1 h with rfl | h
    · exact Or.inl hn
    · exact Or.inr (weightsAll_mem h n hn)
theorem add_at_ (a : Addr) (i j : Nat) : (a.add i).add j = a.add (i + j) := by
  unfold Addr.add
  by_cases hi : i = 0
  · subst hi; simp
  · by_cases hj : j = 0
    · subst hj; simp
    · simp [hi, hj, Nat.add_assoc]
theorem choose_list {α : Type} {Q : Nat → α → Prop} : ∀ (n : Nat), (∀ i, i < n → ∃ a, Q i a) → ∃ l : List α, l.length = n ∧ ∀ i a, l[i]? = some a → Q i a
  | 0, _ => ⟨[], rfl, fun i a h => by simp at h⟩
  | n + 1, h => by
    obtain ⟨l, hl, hq⟩ := choose_list n (fun i hi => h i (by omega))
    obtain ⟨a, ha⟩ := h n (by omega)
    refine ⟨l ++ [a], by simp [hl], fun i b hb => ?_⟩
    rcases Nat.lt_or_ge i l.length with hi | hi
    · rw [List.getElem?_append_left hi] at hb
      exact hq i b hb
    · rw [List.getElem?_append_right hi] at hb
      have hlt := (List.getElem?_eq_some_iff.1 hb).1
      simp at hlt
      have e : i = n := by omega
      subst e
      rw [show i - l.length = 0 from by omega] at hb
      have hb' : a = b := by simpa using hb
      subst hb'
      exact ha
theorem opens_slice_row {α : Type} {t e : TypeId} {d : Kd α} {good : α → Prop} (hu : P.underlying t = some (.slice e)) (hC : P.cellsOf e = d.sz) {B : Nat} (hB : P.bytesOf e = B) (ho : Opens P e d good)
    (H : Type) (enc : TypeId × Value → H) (w : World) (fuel : Nat) (A : Option Addr) (len cap : Nat) (x : DataW H × List MemPlace)
    (h : DataW.trod enc P w 0 (fun _ => true) true fuel t [.slice A len cap] = some x) (hz : ∀ n ∈ x.1.weights P t, n ≤ reachBytes) :
    ∃ l : List α, l.length = len ∧ len ≤ cap ∧ d.C w A len l ∧ len ≤ maxLen ∧ len * B ≤ 140737488351232 ∧ ∀ a ∈ l, good a := by
  rcases DataW.trod_slice hu h with ⟨h0, _⟩ | ⟨a, len', cap', elems, rest, n, _, hcs, hx, _, hl, hm, hlen, hel, _, _⟩
  · simp only [List.cons.injEq, Value.slice.injEq, and_true] at h0
    obtain ⟨rfl, rfl, rfl⟩ := h0
    exact ⟨[], rfl, Nat.le_refl _, ⟨rfl, Nat.zero_le _, fun h => absurd h (by omega)⟩, Nat.zero_le _, by simp, fun a ha => by simp at ha⟩
  · simp only [List.cons.injEq, Value.slice.injEq, and_true] at hcs
    obtain ⟨rfl, rfl, rfl⟩ := hcs
    have each : ∀ i, i < len → ∃ b : α, (∃ c, c.length = d.sz ∧ d.K w b c ∧ ∀ j u, c[j]? = some u → w.cell? (a.add (i * d.sz + j)) = some u) ∧ good b := by
      intro i hi
      have h1 := hel i hi
      have hie : i < elems.length := by omega
      rw [List.getElem?_eq_getElem hie, Option.bind_eq_some_iff] at h1
      obtain ⟨cs', hc, ht'⟩ := h1
      have hw' : ∀ n ∈ (elems[i]).1.weights P e, n ≤ reachBytes := by
        intro m hm'
        refine hz m ?_
        rw [hx]
        simp only [DataW.weights, hu]
        refine List.mem_cons_of_mem _ (List.mem_append_left _ ?_)
        exact weightsAll_mem (List.mem_map.2 ⟨elems[i], List.getElem_mem hie, rfl⟩) m hm'
      obtain ⟨b, hb, hg⟩ := ho H enc w _ cs' _ ht' hw'
      obtain ⟨_, hcl, hat⟩ := World.cells?_some hc
      refine ⟨b, ⟨cs', by rw [hcl, hC], hb, fun j u hu' => ?_⟩, hg⟩
      have hj : j < P.cellsOf e := by
        have := (List.getElem?_eq_some_iff.1 hu').1
        omega
      have := hat j hj
      rw [hC] at this
      rw [← add_at_, this, hu']
    obtain ⟨l, hll, hq⟩ := choose_list len each
    refine ⟨l, hll, hl, ⟨hll, by simp only [maxLen] at hm; omega, fun _ => ⟨a, rfl, fun j p hj => (hq j p hj).1⟩⟩, by omega, ?_, fun b hb => ?_⟩
    · have h1 := hz ((elems.length + rest.length) * P.bytesOf e) (by rw [hx]; simp [DataW.weights, hu])
      rw [hB] at h1
      simp only [reachBytes] at h1
      refine Nat.le_trans (Nat.mul_le_mul_right _ ?_) h1
      omega
    · obtain ⟨i, hi⟩ := List.getElem?_of_mem hb
      exact (hq i b hi).2
theorem opens_slice {α : Type} {t e : TypeId} {d : Kd α} {good : α → Prop} (hu : P.underlying t = some (.slice e)) (hC : P.cellsOf e = d.sz) {B : Nat} (hB : P.bytesOf e = B) (ho : Opens P e d good) :
    Opens P t (Kd.slice e d) (fun l => l.length ≤ maxLen ∧ l.length * B ≤ 140737488351232 ∧ ∀ a ∈ l, good a) := by
  intro H enc w fuel cs x h hz
  have hform : ∃ A len cap, cs = [.slice A len cap] := by
    rcases DataW.trod_slice hu h with ⟨h0, _⟩ | ⟨a, len', cap', elems, rest, n, _, hcs, _⟩
    · exact ⟨_, _, _, h0⟩
    · exact ⟨_, _, _, hcs⟩
  obtain ⟨A, len, cap, rfl⟩ := hform
  obtain ⟨l, rfl, hlc, hC', hm, hb, hg⟩ := opens_slice_row hu hC hB ho H enc w fuel A len cap x h hz
  exact ⟨l, ⟨A, cap, rfl, hlc, hC'⟩, hm, hb, hg⟩
def OpensFs {α : Type} (P : Program) (off : Nat) (fs : List Field) (d : Kd α) (good : α → Prop) : Prop :=
  ∀ (H : Type) (enc : TypeId × Value → H) (w : World) (fuel : Nat) (cs : List Value) (ys : List (DataW H × List MemPlace)),
    cs.length = off + d.sz → ys.length = fs.length → (∀ (i : Nat) (f : Field), fs[i]? = some f → DataW.trod enc P w 0 (fun _ => true) true fuel f.type ((cs.drop f.offset).take (P.cellsOf f.type)) = ys[i]?) →
    (∀ n ∈ DataW.weightsEach P (fs.map (·.type)) (ys.map (·.1)), n ≤ reachBytes) → ∃ a : α, d.K w a (cs.drop off) ∧ good a
theorem opensFs_one {α : Type} {off : Nat} {f : Field} {d : Kd α} {good : α → Prop} (ho : f.offset = off) (hC : P.cellsOf f.type = d.sz) (h : Opens P f.type d good) : OpensFs P off [f] d good := by
  intro H enc w fuel cs ys hcs hy hf hz
  match ys, hy with
  | [y], _ =>
    have h1 := hf 0 f rfl
    rw [ho, hC, List.take_of_length_le (by simp [List.length_drop]; omega)] at h1
    exact h H enc w fuel _ y h1 (fun n hn => hz n (by simp only [List.map_cons, DataW.weightsEach, List.mem_append]; exact Or.inl hn))
theorem opensFs_cons {α β : Type} {off : Nat} {f : Field} {fs : List Field} {d : Kd α} {e : Kd β} {g1 : α → Prop} {g2 : β → Prop} (ho : f.offset = off) (hC : P.cellsOf f.type = d.sz) (h : Opens P f.type d g1) (hs : OpensFs P (off + d.sz) fs e g2) :
    OpensFs P off (f :: fs) (Kd.pair d e) (fun p => g1 p.1 ∧ g2 p.2) := by
  intro H enc w fuel cs ys hcs hy hf hz
  match ys, hy with
  | y :: ys, hy =>
    have hsz : (Kd.pair d e).sz = d.sz + e.sz := rfl
    rw [hsz] at hcs
    have h1 := hf 0 f rfl
    rw [ho, hC] at h1
    obtain ⟨a, ha, hga⟩ := h H enc w fuel _ y h1 (fun n hn => hz n (by simp only [List.map_cons, DataW.weightsEach, List.mem_append]; exact Or.inl hn))
    obtain ⟨b, hb, hgb⟩ := hs H enc w fuel cs ys (by omega) (by simpa using hy) (fun i f' hi => by simpa using hf (i + 1) f' (by simpa using hi)) (fun n hn => hz n (by simp only [List.map_cons, DataW.weightsEach, List.mem_append]; exact Or.inr hn))
    refine ⟨(a, b), ⟨(cs.drop off).take d.sz, cs.drop (off + d.sz), ?_, ha, hb⟩, hga, hgb⟩
    rw [← List.drop_drop, List.take_append_drop]
theorem opens_struct {α : Type} {t : TypeId} {fs : Array Field} {d : Kd α} {good : α → Prop} (hu : P.underlying t = some (.struct fs)) (hC : P.cellsOf t = d.sz) (h : OpensFs P 0 fs.toList d good) : Opens P t d good := by
  intro H enc w fuel cs x hx hz
  obtain ⟨ys, n, _, hxe, hlen, hyl, hf⟩ := DataW.trod_struct hu hx
  obtain ⟨a, ha, hg⟩ := h H enc w n cs ys (by omega) (by simpa using hyl) (fun i f hi => hf i f (by simpa using hi)) (fun m hm => hz m (by rw [hxe]; simp only [DataW.weights, hu]; exact hm))
  exact ⟨a, by simpa using ha, hg⟩
theorem opens_iso {α β : Type} {t : TypeId} {d : Kd α} {good : α → Prop} (f : β → α) (g : α → β) (hfg : ∀ a, f (g a) = a) (h : Opens P t d good) : Opens P t (Kd.iso d f) (fun b => good (f b)) := by
  intro H enc w fuel cs x hx hz
  obtain ⟨a, ha, hga⟩ := h H enc w fuel cs x hx hz
  refine ⟨g a, ?_, by show good (f (g a)); rw [hfg]; exact hga⟩
  show d.K w (f (g a)) cs
  rw [hfg]
  exact ha
theorem opens_imp {α : Type} {t : TypeId} {d : Kd α} {g1 g2 : α → Prop} (h : Opens P t d g1) (hg : ∀ a, g1 a → g2 a) : Opens P t d g2 := by
  intro H enc w fuel cs x hx hz
  obtain ⟨a, ha, hga⟩ := h H enc w fuel cs x hx hz
  exact ⟨a, ha, hg a hga⟩
theorem weights_of {H : Type} {ts : List TypeId} {ds : List (DataW H)} (h : (DataW.weightsEach P ts ds).all (· ≤ reachBytes) = true) {j : Nat} {t : TypeId} {d : DataW H} (ht : ts[j]? = some t) (hd : ds[j]? = some d) : ∀ n ∈ d.weights P t, n ≤ reachBytes := by
  intro n hn
  have := List.all_eq_true.1 h _ (DataW.weights_mem_each ht hd n hn)
  simpa using this
theorem arg_slice {α : Type} {t e : TypeId} {d : Kd α} {good : α → Prop} (hu : P.underlying t = some (.slice e)) (hC : P.cellsOf e = d.sz) {B : Nat} (hB : P.bytesOf e = B) (ho : Opens P e d good)
    {H : Type} {enc : TypeId × Value → H} {w : World} {r : Reach} {b0 : Nat} {v : Value} {x : DataW H} {ps : List MemPlace} (hv : Value.okWide P w r b0 t v)
    (h : DataW.Trod enc P w 0 (fun _ => true) true t v x ps) (hz : ∀ n ∈ x.weights P t, n ≤ reachBytes) :
    ∃ (A : Option Addr) (c : Nat) (l : List α), v = .slice A l.length c ∧ l.length ≤ c ∧ d.C w A l.length l ∧ l.length ≤ maxLen ∧ l.length * B ≤ 140737488351232 ∧ ∀ a ∈ l, good a := by
  obtain ⟨A, len, c, rfl⟩ := okWide_slice hu hv
  obtain ⟨fuel, hf⟩ := h
  have hf' : DataW.trod enc P w 0 (fun _ => true) true fuel t [.slice A len c] = some (x, ps) := by simpa [Value.cells] using hf
  obtain ⟨l, rfl, hlc, hC', hm, hb, hg⟩ := opens_slice_row hu hC hB ho H enc w fuel A len c _ hf' hz
  exact ⟨A, c, l, rfl, hlc, hC', hm, hb, hg⟩
theorem arg_struct {α : Type} {t : TypeId} {fs : Array Field} {d : Kd α} {good : α → Prop} (hu : P.underlying t = some (.struct fs)) (ho : Opens P t d good)
    {H : Type} {enc : TypeId × Value → H} {w : World} {r : Reach} {b0 : Nat} {v : Value} {x : DataW H} {ps : List MemPlace} (hv : Value.okWide P w r b0 t v)
    (h : DataW.Trod enc P w 0 (fun _ => true) true t v x ps) (hz : ∀ n ∈ x.weights P t, n ≤ reachBytes) :
    ∃ (a : α) (cs : List Value), v = .agg cs.toArray ∧ d.K w a cs ∧ good a := by
  obtain ⟨cs, rfl, _⟩ := okWide_struct hu hv
  obtain ⟨fuel, hf⟩ := h
  obtain ⟨a, ha, hg⟩ := ho H enc w fuel _ _ hf hz
  exact ⟨a, cs.toList, by simp, by simpa [Value.cells] using ha, hg⟩
theorem arg_int {t : TypeId} {k : IntKind} (hu : P.underlying t = some (.int k))
    {H : Type} {enc : TypeId × Value → H} {w : World} {r : Reach} {b0 : Nat} {v : Value} {x : DataW H} {ps : List MemPlace} (hv : Value.okWide P w r b0 t v)
    (h : DataW.Trod enc P w 0 (fun _ => true) true t v x ps) : ∃ n, v = .int k n ∧ (Lit.int k n).wf = true := by
  obtain ⟨n, rfl⟩ := okWide_int hu hv
  obtain ⟨fuel, hf⟩ := h
  obtain ⟨m, hcs, _, hw⟩ := DataW.trod_int hu hf
  simp only [Value.cells] at hcs
  have e : n = m := by simpa using hcs
  subst e
  exact ⟨n, rfl, hw⟩
end Go.Proofs.Ytbcngajkokjfjaa.Opn
namespace Go.Proofs.Ytbcngajkokjfjaa.spreadUp
open Go.RowKit Go.Proofs.YtbcngajkokjfjaaW.PrintWords Go.Proofs.YtbcngajkokjfjaaW.PrintLast Go.Proofs.YtbcngajkokjfjaaW.PrintMore Go.Proofs.Ytbcngajkokjfjaa.QSps
set_option linter.unusedVariables false
def G38 (x : S38) : Prop := (Lit.int .i64 x.f0).wf = true ∧ (Lit.int .i64 x.f1).wf = true
def G49 (x : S49) : Prop := True ∧ (x.f1.length ≤ maxLen ∧ x.f1.length * 16 ≤ 140737488351232 ∧ ∀ a ∈ x.f1, G38 a) ∧ (x.f2.length ≤ maxLen ∧ x.f2.length * 8 ≤ 140737488351232 ∧ ∀ a ∈ x.f2, (Lit.int .i64 a).wf = true)
def Pure : Prop := ∀ (x0 : (List S49)) (x1 : S38) (x2 : Int) (x3 : Int) (x4 : Int), (x0.length ≤ maxLen ∧ x0.length * 56 ≤ 140737488351232 ∧ ∀ a ∈ x0, G49 a) → G38 x1 → (Lit.int .i64 x2).wf = true → (Lit.int .i64 x3).wf = true → (Lit.int .i64 x4).wf = true → ∃ k, kissgatelaw17_SpreadUp.f k x0 x1.f0 x1.f1 x2 x3 x4 = some true
end Go.Proofs.Ytbcngajkokjfjaa.spreadUp
namespace Go.Proofs.Ytbcngajkokjfjaa.Sps
open Go.RowKit Go.Proofs.YtbcngajkokjfjaaW.PrintWords Go.Proofs.YtbcngajkokjfjaaW.PrintLast Go.Proofs.YtbcngajkokjfjaaW.PrintMore Go.Proofs.Ytbcngajkokjfjaa.QSps
theorem wrap_up {i : Int} {n : Nat} (h0 : 0 ≤ i) (h : i < (n : Int)) (hn : n ≤ 9223372036854775000) : wrap64 (i + 1) = i + 1 := by
  unfold wrap64
  omega
def find (xs : List S38) (a b : Int) : Option Nat := xs.findIdx? fun x => a == x.f0 && b == x.f1
theorem rd38 {xs : List S38} {i : Nat} (h : i < xs.length) : rd_T38 xs i = xs[i] := by
  unfold rd_T38
  rw [Int.toNat_natCast, List.getD_eq_getElem?_getD, List.getElem?_eq_getElem h]; rfl
def findFrom (xs : List S38) (a b : Int) (i : Nat) : Option Nat := (find (xs.drop i) a b).map (· + i)
theorem findFrom_end (xs : List S38) (a b : Int) (i : Nat) (h : xs.length ≤ i) : findFrom xs a b i = none := by
  unfold findFrom find
  rw [List.drop_of_length_le h]
  rfl
theorem findFrom_step (xs : List S38) (a b : Int) (i : Nat) (h : i < xs.length) : findFrom xs a b i = if (a == xs[i].f0 && b == xs[i].f1) = true then some i else findFrom xs a b (i + 1) := by
  unfold findFrom find
  rw [List.drop_eq_getElem_cons h, List.findIdx?_cons]
  split
  · simp
  · cases List.findIdx? (fun x => a == x.f0 && b == x.f1) (List.drop (i + 1) xs) with
    | none => rfl
    | some j => simp; omega
theorem findFrom_zero (xs : List S38) (a b : Int) : findFrom xs a b 0 = find xs a b := by
  unfold findFrom
  rw [List.drop_zero]
  cases find xs a b <;> simp
theorem index_from (xs : List S38) (a b : Int) (hn : xs.length ≤ 9223372036854775000) (d : Nat) : ∀ i : Nat, i + d = xs.length →
    Ev (fun k => api_Attr.l0 k xs xs.length i a b) (match findFrom xs a b i with | some j => (j : Int) | none => -1) := by
  induction d with
  | zero =>
    intro i hi
    rw [findFrom_end xs a b i (by omega)]
    refine Ev.step (fun k => by rw [api_Attr.l0, if_neg (by omega)]) (Ev.now _)
  | succ d ih =>
    intro i hi
    rw [findFrom_step xs a b i (by omega)]
    have hlt : i < xs.length := by omega
    by_cases hc : (a == xs[i].f0 && b == xs[i].f1) = true
    · rw [if_pos hc]
      exact Ev.step (fun k => by rw [api_Attr.l0, if_pos (by omega), if_pos (by omega), if_pos (by omega), rd38 hlt, if_pos hc]) (Ev.now _)
    · rw [if_neg hc]
      refine Ev.step (fun k => by rw [api_Attr.l0, if_pos (by omega), if_pos (by omega), if_pos (by omega), rd38 hlt, if_neg hc, wrap_up (n := xs.length) (by omega) (by omega) hn]) ?_
      exact ih (i + 1) (by omega)
def born (o : Bool) (xs : List S38) (bs : List Int) (a b : Int) : Int :=
  if o = true then (match find xs a b with | some j => if j < bs.length then bs.getD j 0 else -1 | none => -1) else -1
theorem born_prog (o : Bool) (xs : List S38) (bs : List Int) (a b : Int) (hn : xs.length ≤ 9223372036854775000) : Ev (fun k => spread_View_born.f k o xs bs a b) (born o xs bs a b) := by
  have h := index_from xs a b hn xs.length 0 (by omega)
  rw [findFrom_zero] at h
  unfold spread_View_born.f api_Attr.f
  refine Ev.bind h ?_
  unfold born
  cases o with
  | false => simp only [Bool.false_eq_true, if_false]; exact Ev.now _
  | true =>
    simp only [if_true]
    cases find xs a b with
    | none => simp only []; rw [if_pos (by omega)]; exact Ev.now _
    | some j =>
      simp only []
      rw [if_neg (by omega)]
      by_cases hj : j < bs.length
      · rw [if_neg (by omega), if_pos (by omega), if_pos (by omega), if_pos hj]
        unfold rd
        rw [Int.toNat_natCast]
        exact Ev.now _
      · rw [if_pos (by omega), if_neg hj]; exact Ev.now _
theorem born_ref_from (o : Bool) (xs : List S38) (bs : List Int) (a b : Int) (hn : xs.length ≤ 9223372036854775000) (d : Nat) : ∀ i : Nat, i + d = xs.length →
    Ev (fun k => kissgateref17_Born.l0 k xs xs.length i o xs bs a b) (match findFrom xs a b i with | some j => if j < bs.length then bs.getD j 0 else -1 | none => -1) := by
  induction d with
  | zero =>
    intro i hi
    rw [findFrom_end xs a b i (by omega)]
    exact Ev.step (fun k => by rw [kissgateref17_Born.l0, if_neg (by omega)]) (Ev.now _)
  | succ d ih =>
    intro i hi
    rw [findFrom_step xs a b i (by omega)]
    have hlt : i < xs.length := by omega
    have hsym : (xs[i].f0 == a && xs[i].f1 == b) = (a == xs[i].f0 && b == xs[i].f1) := by
      rw [show (xs[i].f0 == a) = (a == xs[i].f0) from by rw [Bool.eq_iff_iff, beq_iff_eq, beq_iff_eq]; exact eq_comm, show (xs[i].f1 == b) = (b == xs[i].f1) from by rw [Bool.eq_iff_iff, beq_iff_eq, beq_iff_eq]; exact eq_comm]
    by_cases hc : (a == xs[i].f0 && b == xs[i].f1) = true
    · rw [if_pos hc]
      by_cases hj : i < bs.length
      · refine Ev.step (fun k => by rw [kissgateref17_Born.l0, if_pos (by omega), if_pos (by omega), if_pos (by omega), rd38 hlt, hsym, if_pos hc, if_pos (by omega)]) ?_
        simp only [if_pos hj]
        unfold rd
        rw [Int.toNat_natCast]
        exact Ev.now _
      · refine Ev.step (fun k => by rw [kissgateref17_Born.l0, if_pos (by omega), if_pos (by omega), if_pos (by omega), rd38 hlt, hsym, if_pos hc, if_neg (by omega)]) ?_
        simp only [if_neg hj]
        exact Ev.now _
    · rw [if_neg hc]
      refine Ev.step (fun k => by rw [kissgateref17_Born.l0, if_pos (by omega), if_pos (by omega), if_pos (by omega), rd38 hlt, hsym, if_neg hc, wrap_up (n := xs.length) (by omega) (by omega) hn]) ?_
      exact ih (i + 1) (by omega)
theorem born_ref (o : Bool) (xs : List S38) (bs : List Int) (a b : Int) (hn : xs.length ≤ 9223372036854775000) : Ev (fun k => kissgateref17_Born.f k o xs bs a b) (born o xs bs a b) := by
  unfold kissgateref17_Born.f born
  cases o with
  | false => simp only [Bool.false_eq_true, if_false]; exact Ev.now _
  | true =>
    simp only [if_true]
    have h := born_ref_from true xs bs a b hn xs.length 0 (by omega)
    rw [findFrom_zero] at h
    exact h
def latest (a b : Int) (i : Nat) : Nat → List S49 → Int → Int
  | _, [], acc => acc
  | j, v :: vs, acc => latest a b i (j + 1) vs (if j = i then acc else mx acc (born v.f0 v.f1 v.f2 a b))
def want (l : List S49) (a b own : Int) (i : Nat) : Int := if (rd_T49 l i).f0 = true then latest a b i 0 l (mx own (-1)) else -1
theorem rd49 {l : List S49} {i : Nat} (h : i < l.length) : rd_T49 l i = l[i] := by
  unfold rd_T49
  rw [Int.toNat_natCast, List.getD_eq_getElem?_getD, List.getElem?_eq_getElem h]; rfl
def Few (l : List S49) : Prop := l.length ≤ 20 ∧ ∀ v ∈ l, v.f1.length ≤ 40 ∧ v.f2.length ≤ 100
theorem inner (l : List S49) (a b own : Int) (hf : Few l) (r : List Int) (i : Nat) (hi : i < l.length) (d : Nat) : ∀ (j : Nat) (out : List Int), j + d = l.length → out.length = l.length →
    (∀ out' : List Int, out' = out.set i (latest a b i j (l.drop j) (out.getD i 0)) → Ev (fun k => spread_Wants.l0 k l own out' l l.length ((i : Int) + 1) a b) r) →
    Ev (fun k => spread_Wants.l1 k l own out i l l.length i l l.length j a b) r := by
  have h20 := hf.1
  induction d with
  | zero =>
    intro j out hj ho hk
    have hk := hk out (by rw [List.drop_of_length_le (by omega)]; simp only [latest]; rw [List.getD_eq_getElem?_getD, List.getElem?_eq_getElem (by omega), Option.getD_some, List.set_getElem_self])
    exact Ev.step (fun k => by rw [spread_Wants.l1, if_neg (by omega), wrap_up (n := l.length) (by omega) (by omega) (by omega)]) hk
  | succ d ih =>
    intro j out hj ho hk
    have hlt : j < l.length := by omega
    rw [List.drop_eq_getElem_cons hlt] at hk
    simp only [latest] at hk
    by_cases he : j = i
    · rw [if_pos he] at hk
      refine Ev.step (fun k => by rw [spread_Wants.l1, if_pos (by omega), if_pos (by omega), if_pos (by omega), if_pos (by omega), wrap_up (n := l.length) (by omega) (by omega) (by omega)]) ?_
      exact ih (j + 1) out (by omega) ho hk
    · rw [if_neg he] at hk
      refine Ev.step (fun k => by rw [spread_Wants.l1, if_pos (by omega), if_pos (by omega), if_pos (by omega), if_neg (by omega), if_pos (by omega), if_pos (by omega), wrap_up (n := l.length) (by omega) (by omega) (by omega), rd49 hlt]) ?_
      refine Ev.bind (born_prog _ _ _ a b (by have := (hf.2 l[j] (List.getElem_mem hlt)).1; omega)) ?_
      rw [Int.toNat_natCast]
      refine ih (j + 1) _ (by omega) (by simp [ho]) ?_
      intro out' ho'
      refine hk out' ?_
      rw [ho', List.set_set]
      congr 2
      rw [List.getD_eq_getElem?_getD, List.getElem?_set_self (by omega)]
      simp only [Option.getD_some]
      unfold rd
      rw [Int.toNat_natCast]
theorem outer (l : List S49) (a b own : Int) (hf : Few l) (d : Nat) : ∀ (i : Nat) (out : List Int), i + d = l.length → out.length = l.length →
    ∃ out' : List Int, Ev (fun k => spread_Wants.l0 k l own out l l.length i a b) out' ∧ out'.length = l.length ∧ ∀ j, j < l.length → out'.getD j 0 = if j < i then out.getD j 0 else want l a b own j := by
  have h20 := hf.1
  induction d with
  | zero =>
    intro i out hi ho
    refine ⟨out, Ev.step (fun k => by rw [spread_Wants.l0, if_neg (by omega)]) (Ev.now _), ho, fun j hj => ?_⟩
    rw [if_pos (by omega)]
  | succ d ih =>
    intro i out hi ho
    have hlt : i < l.length := by omega
    by_cases hop : (rd_T49 l i).f0 = true
    · obtain ⟨out', he, hl, hg⟩ := ih (i + 1) (out.set i (want l a b own i)) (by omega) (by simp [ho])
      refine ⟨out', ?_, hl, fun j hj => ?_⟩
      · refine Ev.step (fun k => by rw [spread_Wants.l0, if_pos (by omega), if_pos (by omega), if_pos (by omega), if_pos (by omega), Option.bind_some, if_pos hop]) ?_
        rw [Int.toNat_natCast, List.set_set]
        refine inner l a b own hf out' i hlt l.length 0 _ (by omega) (by simp [ho]) ?_
        intro o2 ho2
        rw [List.drop_zero, List.set_set, List.getD_eq_getElem?_getD, List.getElem?_set_self (by omega), Option.getD_some] at ho2
        rw [ho2]
        have : want l a b own i = latest a b i 0 l (mx own (-1)) := by unfold want; rw [if_pos hop]
        rw [← this]
        exact he
      · rw [hg j hj]
        by_cases h1 : j < i
        · rw [if_pos (by omega), if_pos h1, List.getD_eq_getElem?_getD, List.getElem?_set_ne (by omega), ← List.getD_eq_getElem?_getD]
        · by_cases h2 : j = i
          · subst h2
            rw [if_pos (by omega), if_neg (by omega), List.getD_eq_getElem?_getD, List.getElem?_set_self (by omega), Option.getD_some]
          · rw [if_neg (by omega), if_neg h1]
    · obtain ⟨out', he, hl, hg⟩ := ih (i + 1) (out.set i (-1)) (by omega) (by simp [ho])
      refine ⟨out', ?_, hl, fun j hj => ?_⟩
      · refine Ev.step (fun k => by rw [spread_Wants.l0, if_pos (by omega), if_pos (by omega), if_pos (by omega), if_pos (by omega), Option.bind_some, if_neg hop, wrap_up (n := l.length) (by omega) (by omega) (by omega), Int.toNat_natCast]) ?_
        exact he
      · have hw : want l a b own i = -1 := by unfold want; rw [if_neg hop]
        rw [hg j hj]
        by_cases h1 : j < i
        · rw [if_pos (by omega), if_pos h1, List.getD_eq_getElem?_getD, List.getElem?_set_ne (by omega), ← List.getD_eq_getElem?_getD]
        · by_cases h2 : j = i
          · subst h2
            rw [if_pos (by omega), if_neg (by omega), List.getD_eq_getElem?_getD, List.getElem?_set_self (by omega), Option.getD_some, hw]
          · rw [if_neg (by omega), if_neg h1]
def wants (l : List S49) (a b own : Int) : List Int := (List.range l.length).map (want l a b own)
theorem wants_prog (l : List S49) (a b own : Int) (hf : Few l) : Ev (fun k => spread_Wants.f k l a b own) (wants l a b own) := by
  have h20 := hf.1
  obtain ⟨out', he, hl, hg⟩ := outer l a b own hf l.length 0 (List.replicate l.length 0) (by omega) (by simp)
  have hw : out' = wants l a b own := by
    apply List.ext_getElem?
    intro j
    unfold wants
    by_cases hj : j < l.length
    · have h1 := hg j hj
      rw [if_neg (by omega), List.getD_eq_getElem?_getD, List.getElem?_eq_getElem (by omega), Option.getD_some] at h1
      rw [List.getElem?_eq_getElem (by omega), h1]
      simp [hj]
    · rw [List.getElem?_eq_none (by omega), List.getElem?_eq_none (by simp; omega)]
  rw [← hw]
  unfold spread_Wants.f
  refine Ev.congr (fun k => by rw [if_pos (by omega), if_pos (by omega), Int.toNat_natCast]; rfl) he
def conv (v : S49) : S47 := ⟨v.f0, v.f1, v.f2⟩
theorem plain_loop (l : List S49) (hl : l.length * 56 ≤ 140737488351232) (d : Nat) : ∀ (i : Nat), i + d = l.length →
    (∃ r, Ev (fun k => kissgatelaw17_plain.l0 k l ((l.take i).map conv) l l.length i) (r, false)) ∨
    (Ev (fun k => kissgatelaw17_plain.l0 k l ((l.take i).map conv) l l.length i) (l.map conv, decide ((l.length : Int) ≤ 20)) ∧ ∀ v ∈ l.drop i, v.f1.length ≤ 40 ∧ v.f2.length ≤ 100) := by
  induction d with
  | zero =>
    intro i hi
    refine .inr ⟨?_, by rw [List.drop_of_length_le (by omega)]; simp⟩
    rw [List.take_of_length_le (by omega)]
    exact Ev.step (fun k => by rw [kissgatelaw17_plain.l0, if_neg (by omega)]) (Ev.now _)
  | succ d ih =>
    intro i hi
    have hlt : i < l.length := by omega
    by_cases h1 : (l[i].f1.length : Int) > 40
    · exact .inl ⟨_, Ev.step (fun k => by rw [kissgatelaw17_plain.l0, if_pos (by omega), if_pos (by omega), if_pos (by omega), rd49 hlt, if_pos h1]) (Ev.now _)⟩
    · by_cases h2 : (l[i].f2.length : Int) > 100
      · exact .inl ⟨_, Ev.step (fun k => by rw [kissgatelaw17_plain.l0, if_pos (by omega), if_pos (by omega), if_pos (by omega), rd49 hlt, if_neg h1, if_pos h2]) (Ev.now _)⟩
      · have hstep : ∀ k, kissgatelaw17_plain.l0 (k + 1) l ((l.take i).map conv) l l.length i = kissgatelaw17_plain.l0 k l ((l.take (i + 1)).map conv) l l.length ((i + 1 : Nat) : Int) := by
          intro k
          rw [kissgatelaw17_plain.l0, if_pos (by omega), if_pos (by omega), if_pos (by omega), rd49 hlt, if_neg h1, if_neg h2, if_pos (by simp; omega), wrap_up (n := l.length) (by omega) (by omega) (by omega), List.take_succ_eq_append_getElem hlt, List.map_append]
          rfl
        rcases ih (i + 1) (by omega) with ⟨r, hr⟩ | ⟨hr, hv⟩
        · exact .inl ⟨r, Ev.step hstep hr⟩
        · refine .inr ⟨Ev.step hstep hr, ?_⟩
          rw [List.drop_eq_getElem_cons hlt]
          intro v hv'
          rcases List.mem_cons.1 hv' with rfl | hv'
          · exact ⟨by omega, by omega⟩
          · exact hv v hv'
theorem plain (l : List S49) (hl : l.length * 56 ≤ 140737488351232) : (∃ r, Ev (fun k => kissgatelaw17_plain.f k l) (r, false)) ∨ (Ev (fun k => kissgatelaw17_plain.f k l) (l.map conv, true) ∧ Few l) := by
  unfold kissgatelaw17_plain.f
  rcases plain_loop l hl l.length 0 (by omega) with ⟨r, h⟩ | ⟨h, hv⟩
  · exact .inl ⟨r, by simpa using h⟩
  · by_cases hn : l.length ≤ 20
    · refine .inr ⟨?_, hn, by simpa using hv⟩
      have : decide ((l.length : Int) ≤ 20) = true := decide_eq_true (by omega)
      rw [this] at h
      simpa using h
    · refine .inl ⟨l.map conv, ?_⟩
      have : decide ((l.length : Int) ≤ 20) = false := decide_eq_false (by omega)
      rw [this] at h
      simpa using h
theorem alive : Ev (fun k => kissgatelaw17_alive.f k) true := Ev.of kissgatelaw17_alive.mono (k := 60) (by decide +kernel)
end Go.Proofs.Ytbcngajkokjfjaa.Sps
namespace Go.Proofs.Ytbcngajkokjfjaa.Sps
open Go.RowKit Go.Proofs.YtbcngajkokjfjaaW.PrintWords Go.Proofs.YtbcngajkokjfjaaW.PrintLast Go.Proofs.YtbcngajkokjfjaaW.PrintMore Go.Proofs.Ytbcngajkokjfjaa.QSps
theorem wants_len (l : List S49) (a b own : Int) : (wants l a b own).length = l.length := by simp [wants]
theorem wants_at (l : List S49) (a b own : Int) (i : Nat) (hi : i < l.length) : (wants l a b own)[i]? = some (want l a b own i) := by
  unfold wants
  simp [hi]
theorem wants_get (l : List S49) (a b own : Int) (i : Nat) (hi : i < l.length) : rd (wants l a b own) i = want l a b own i := by
  unfold rd
  rw [Int.toNat_natCast, List.getD_eq_getElem?_getD, wants_at l a b own i hi]
  rfl
theorem mx_mono {x y x' y' : Int} (h : x ≤ x') (h' : y ≤ y') : mx x y ≤ mx x' y' := by unfold mx; repeat' split
                                                                                       all_goals omega
theorem latest_mono (a b : Int) (i : Nat) (vs : List S49) : ∀ (vs' : List S49) (j : Nat) (acc acc' : Int), vs.length = vs'.length → (∀ t v v', vs[t]? = some v → vs'[t]? = some v' → j + t ≠ i → born v.f0 v.f1 v.f2 a b ≤ born v'.f0 v'.f1 v'.f2 a b) → acc ≤ acc' → latest a b i j vs acc ≤ latest a b i j vs' acc' := by
  induction vs with
  | nil =>
    intro vs' j acc acc' hl _ h
    have : vs' = [] := List.eq_nil_of_length_eq_zero (by simpa using hl.symm)
    subst this
    exact h
  | cons v vs ih =>
    intro vs' j acc acc' hl hb h
    cases vs' with
    | nil => simp at hl
    | cons v' vs' =>
      simp only [latest]
      refine ih vs' (j + 1) _ _ (by simpa using hl) (fun t u u' hu hu' hne => hb (t + 1) u u' (by simpa using hu) (by simpa using hu') (by omega)) ?_
      by_cases hj : j = i
      · rw [if_pos hj, if_pos hj]; exact h
      · rw [if_neg hj, if_neg hj]
        exact mx_mono h (hb 0 v v' rfl rfl (by omega))
theorem latest_same (a b : Int) (i : Nat) (vs : List S49) : ∀ (vs' : List S49) (j : Nat) (acc : Int), vs.length = vs'.length → (∀ t v v', vs[t]? = some v → vs'[t]? = some v' → j + t ≠ i → v = v') → latest a b i j vs acc = latest a b i j vs' acc := by
  induction vs with
  | nil =>
    intro vs' j acc hl _
    have : vs' = [] := List.eq_nil_of_length_eq_zero (by simpa using hl.symm)
    subst this
    rfl
  | cons v vs ih =>
    intro vs' j acc hl hb
    cases vs' with
    | nil => simp at hl
    | cons v' vs' =>
      simp only [latest]
      have hc : (if j = i then acc else mx acc (born v.f0 v.f1 v.f2 a b)) = (if j = i then acc else mx acc (born v'.f0 v'.f1 v'.f2 a b)) := by
        by_cases hj : j = i
        · rw [if_pos hj, if_pos hj]
        · rw [if_neg hj, if_neg hj, hb 0 v v' rfl rfl (by omega)]
      rw [hc]
      exact ih vs' (j + 1) _ (by simpa using hl) (fun t u u' hu hu' hne => hb (t + 1) u u' (by simpa using hu) (by simpa using hu') (by omega))
end Go.Proofs.Ytbcngajkokjfjaa.Sps
namespace Go.Proofs.Ytbcngajkokjfjaa.spreadUp
open Go.RowKit Go.Proofs.YtbcngajkokjfjaaW.PrintWords Go.Proofs.YtbcngajkokjfjaaW.PrintLast Go.Proofs.YtbcngajkokjfjaaW.PrintMore Go.Proofs.Ytbcngajkokjfjaa.QSps Go.Proofs.Ytbcngajkokjfjaa.Sps
def later (v : S49) (a b bn : Int) : S49 := ⟨v.f0, [⟨a, b⟩], [mx bn (born true v.f1 v.f2 a b)]⟩
theorem later_born (v : S49) (a b bn : Int) : born v.f0 v.f1 v.f2 a b ≤ born (later v a b bn).f0 (later v a b bn).f1 (later v a b bn).f2 a b := by
  have hfind : find [(⟨a, b⟩ : S38)] a b = some 0 := by unfold find; simp
  unfold later
  simp only
  cases v.f0 with
  | false => unfold born; simp
  | true =>
    have : born true [(⟨a, b⟩ : S38)] [mx bn (born true v.f1 v.f2 a b)] a b = mx bn (born true v.f1 v.f2 a b) := by
      generalize mx bn (born true v.f1 v.f2 a b) = z
      unfold born
      rw [hfind]
      simp
    rw [this]
    generalize born true v.f1 v.f2 a b = z
    unfold mx
    split <;> omega
theorem want_up (l : List S49) (a b own bn : Int) (p : Nat) (hp : p < l.length) (i : Nat) (hi : i < l.length) :
    want l a b own i ≤ want (l.set p (later l[p] a b bn)) a b own i ∧ (i = p → want (l.set p (later l[p] a b bn)) a b own i = want l a b own i) := by
  have hlen : (l.set p (later l[p] a b bn)).length = l.length := List.length_set ..
  have hopen : (rd_T49 (l.set p (later l[p] a b bn)) i).f0 = (rd_T49 l i).f0 := by
    rw [rd49 (by omega), rd49 hi]
    by_cases he : p = i
    · subst he; rw [List.getElem_set_self]; rfl
    · rw [List.getElem_set_ne he]
  unfold want
  rw [hopen]
  by_cases ho : (rd_T49 l i).f0 = true
  · rw [if_pos ho, if_pos ho]
    refine ⟨latest_mono a b i l _ 0 _ _ hlen.symm (fun t v v' hv hv' _ => ?_) (Int.le_refl _), fun he => ?_⟩
    · by_cases ht : p = t
      · subst ht
        rw [List.getElem?_set_self hp] at hv'
        cases hv'
        rw [List.getElem?_eq_getElem hp] at hv
        cases hv
        exact later_born _ a b bn
      · rw [List.getElem?_set_ne ht, hv] at hv'
        cases hv'
        exact Int.le_refl _
    · subst he
      refine latest_same a b i _ l 0 _ hlen (fun t v v' hv hv' hne => ?_)
      rw [List.getElem?_set_ne (by omega), hv'] at hv
      cases hv
      rfl
  · rw [if_neg ho, if_neg ho]
    exact ⟨Int.le_refl _, fun _ => rfl⟩
theorem loop (l m : List S49) (a b own : Int) (p : Nat) (h20 : l.length ≤ 20) (hm : m.length = l.length) (h : ∀ i, i < l.length → want l a b own i ≤ want m a b own i ∧ (i = p → want m a b own i = want l a b own i)) (d : Nat) : ∀ i : Nat, i + d = l.length →
    Ev (fun k => kissgatelaw17_SpreadUp.l0 k p (wants l a b own) (wants m a b own) l.length i) true := by
  have hw1 := wants_len l a b own
  have hw2 := wants_len m a b own
  induction d with
  | zero =>
    intro i hi
    exact Ev.step (fun k => by rw [kissgatelaw17_SpreadUp.l0, if_neg (by omega)]) (Ev.now _)
  | succ d ih =>
    intro i hi
    have hlt : i < l.length := by omega
    have hw : wrap64 ((i : Int) + 1) = ((i + 1 : Nat) : Int) := by unfold wrap64; omega
    obtain ⟨g1, g2⟩ := h i hlt
    refine Ev.step (fun k => ?_) (ih (i + 1) (by omega))
    rw [kissgatelaw17_SpreadUp.l0, if_pos (by omega), if_pos (by omega), if_pos (by omega), if_pos (by omega), wants_get l a b own i hlt, wants_get m a b own i (by omega), if_neg (by omega), hw]
    by_cases he : (i : Int) = p
    · rw [if_pos he, if_pos (g2 (by omega))]
    · rw [if_neg he]
theorem main (l : List S49) (a b own bn : Int) (p : Nat) (hp : p < l.length) (hf : Few l) : Ev (fun k => kissgatelaw17_SpreadUp.j0 k l own p bn false a b) true := by
  have h20 := hf.1
  have hv := hf.2 l[p] (List.getElem_mem hp)
  have hlen : (l.set p (later l[p] a b bn)).length = l.length := List.length_set ..
  have hfew : Few (l.set p (later l[p] a b bn)) := by
    refine ⟨by omega, fun v hv' => ?_⟩
    rcases List.mem_or_eq_of_mem_set hv' with h | rfl
    · exact hf.2 v h
    · unfold later; simp
  refine Ev.step (fun k => by rw [kissgatelaw17_SpreadUp.j0, if_neg (by decide), Option.bind_some, if_pos (by simp; omega), Option.bind_some, if_pos (by omega), if_pos (by omega), rd49 hp, List.nil_append, Int.toNat_natCast]) ?_
  refine Ev.bind (born_ref true _ _ a b (by omega)) ?_
  refine Ev.congr (fun k => by rw [if_pos (by omega)]) ?_
  refine Ev.bind (wants_prog l a b own hf) ?_
  refine Ev.bind (wants_prog _ a b own hfew) ?_
  rw [wants_len]
  exact loop l _ a b own p h20 hlen (fun i hi => want_up l a b own bn p hp i hi) l.length 0 (by omega)
theorem pure : Pure := by
  intro l x own p bn hl hx ho hp hbn
  obtain ⟨hm, hb, hg⟩ := hl
  have jt : Ev (fun k => kissgatelaw17_SpreadUp.j0 k l own p bn true x.f0 x.f1) true := Ev.step (fun k => by rw [kissgatelaw17_SpreadUp.j0, if_pos rfl]) (Ev.now _)
  refine Ev.rounds ?_
  unfold kissgatelaw17_SpreadUp.f
  refine Ev.bind alive ?_
  simp only [if_true]
  rcases plain l hb with ⟨r, h⟩ | ⟨h, hf⟩
  · refine Ev.bind h ?_
    simp only [Bool.false_eq_true, if_false]
    exact jt
  · refine Ev.bind h ?_
    simp only [if_true]
    by_cases h1 : p < 0
    · simp only [if_pos h1]; exact jt
    · simp only [if_neg h1]
      by_cases h2 : p ≥ l.length
      · rw [decide_eq_true h2]; exact jt
      · rw [decide_eq_false h2]
        obtain ⟨p, rfl⟩ := Int.eq_ofNat_of_zero_le (show 0 ≤ p by omega)
        exact main l x.f0 x.f1 own bn p (by omega) hf
end Go.Proofs.Ytbcngajkokjfjaa.spreadUp

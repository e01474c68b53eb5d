/- Openers: what a value that can be read as data says in the words of the printed functions: whole numbers, truth values, texts, slices, structs, nested in one another. Its conditions: the type's own row of the program's table, which each use gives by closed facts. -/
import Derived.Test.YtjhkbmdblfdlnaaWWords
import Derived.Test.YtjhkbmdblfdlnaaWMore
import Derived.ChangeSlices
import Derived.WideShapes
import Derived.SizedLaws
import Derived.ChangeArms
namespace Go.Proofs.Ytjhkbmdblfdlnaa.Opn
open Go.ChangeShapes Go.WideShapes Go.Proofs.YtjhkbmdblfdlnaaW.PrintWords
variable {P : Program}

/-- A type reads as a kind: whatever was trodden, some value of the kind has those cells, and is good. -/
def Opens {α : Type} (P : Program) (t : TypeId) (d : Kd α) (good : α → Prop) : Prop :=
  ∀ (H : Type) (enc : TypeId × Value → H) (w : World) (fuel : Nat) (cs : List Value) (x : DataW H × List MemPlace),
    DataW.trod enc P w 0 (fun _ => true) true fuel t cs = some x → (∀ n ∈ x.1.weights P t, n ≤ reachBytes) → ∃ a : α, d.K w a cs ∧ good a

theorem opens_int {t : TypeId} {k : IntKind} (hu : P.underlying t = some (.int k)) : Opens P t (Kd.int k) (fun n => (Lit.int k n).wf = true) := by
  intro H enc w fuel cs x h _
  obtain ⟨n, rfl, _, hw⟩ := DataW.trod_int hu h
  exact ⟨n, rfl, hw⟩

theorem opens_bool {t : TypeId} (hu : P.underlying t = some .bool) : Opens P t Kd.bool (fun _ => True) := by
  intro H enc w fuel cs x h _
  obtain ⟨b, rfl, _⟩ := DataW.trod_bool hu h
  exact ⟨b, rfl, trivial⟩

theorem opens_string {t : TypeId} (hu : P.underlying t = some .string) : Opens P t Kd.string (fun s => s.size ≤ 140737488351232) := by
  intro H enc w fuel cs x h hz
  obtain ⟨s, rfl, rfl, hs⟩ := DataW.trod_string hu h
  refine ⟨s, rfl, ?_⟩
  have := hz s.data.toList.length (by simp [DataW.weights])
  simpa [reachBytes] using this

theorem weightsAll_mem {H : Type} {e : TypeId} : ∀ {l : List (DataW H)} {d : DataW H}, d ∈ l → ∀ n ∈ d.weights P e, n ∈ DataW.weightsAll P e l
  | [], d, h, _, _ => by simp at h
  | d0 :: l, d, h, n, hn => by
    simp only [DataW.weightsAll, List.mem_append]
    rcases List.mem_cons.1 h with rfl | h
    · exact Or.inl hn
    · exact Or.inr (weightsAll_mem h n hn)

theorem add_at_ (a : Addr) (i j : Nat) : (a.add i).add j = a.add (i + j) := by
  unfold Addr.add
  by_cases hi : i = 0
  · subst hi; simp
  · by_cases hj : j = 0
    · subst hj; simp
    · simp [hi, hj, Nat.add_assoc]

theorem choose_list {α : Type} {Q : Nat → α → Prop} : ∀ (n : Nat), (∀ i, i < n → ∃ a, Q i a) → ∃ l : List α, l.length = n ∧ ∀ i a, l[i]? = some a → Q i a
  | 0, _ => ⟨[], rfl, fun i a h => by simp at h⟩
  | n + 1, h => by
    obtain ⟨l, hl, hq⟩ := choose_list n (fun i hi => h i (by omega))
    obtain ⟨a, ha⟩ := h n (by omega)
    refine ⟨l ++ [a], by simp [hl], fun i b hb => ?_⟩
    rcases Nat.lt_or_ge i l.length with hi | hi
    · rw [List.getElem?_append_left hi] at hb
      exact hq i b hb
    · rw [List.getElem?_append_right hi] at hb
      have hlt := (List.getElem?_eq_some_iff.1 hb).1
      simp at hlt
      have e : i = n := by omega
      subst e
      rw [show i - l.length = 0 from by omega] at hb
      have hb' : a = b := by simpa using hb
      subst hb'
      exact ha

theorem opens_slice_row {α : Type} {t e : TypeId} {d : Kd α} {good : α → Prop} (hu : P.underlying t = some (.slice e)) (hC : P.cellsOf e = d.sz) {B : Nat} (hB : P.bytesOf e = B) (ho : Opens P e d good)
    (H : Type) (enc : TypeId × Value → H) (w : World) (fuel : Nat) (A : Option Addr) (len cap : Nat) (x : DataW H × List MemPlace)
    (h : DataW.trod enc P w 0 (fun _ => true) true fuel t [.slice A len cap] = some x) (hz : ∀ n ∈ x.1.weights P t, n ≤ reachBytes) :
    ∃ l : List α, l.length = len ∧ len ≤ cap ∧ d.C w A len l ∧ len ≤ maxLen ∧ len * B ≤ 140737488351232 ∧ ∀ a ∈ l, good a := by
  rcases DataW.trod_slice hu h with ⟨h0, _⟩ | ⟨a, len', cap', elems, rest, n, _, hcs, hx, _, hl, hm, hlen, hel, _, _⟩
  · simp only [List.cons.injEq, Value.slice.injEq, and_true] at h0
    obtain ⟨rfl, rfl, rfl⟩ := h0
    exact ⟨[], rfl, Nat.le_refl _, ⟨rfl, Nat.zero_le _, fun h => absurd h (by omega)⟩, Nat.zero_le _, by simp, fun a ha => by simp at ha⟩
  · simp only [List.cons.injEq, Value.slice.injEq, and_true] at hcs
    obtain ⟨rfl, rfl, rfl⟩ := hcs
    have each : ∀ i, i < len → ∃ b : α, (∃ c, c.length = d.sz ∧ d.K w b c ∧ ∀ j u, c[j]? = some u → w.cell? (a.add (i * d.sz + j)) = some u) ∧ good b := by
      intro i hi
      have h1 := hel i hi
      have hie : i < elems.length := by omega
      rw [List.getElem?_eq_getElem hie, Option.bind_eq_some_iff] at h1
      obtain ⟨cs', hc, ht'⟩ := h1
      have hw' : ∀ n ∈ (elems[i]).1.weights P e, n ≤ reachBytes := by
        intro m hm'
        refine hz m ?_
        rw [hx]
        simp only [DataW.weights, hu]
        refine List.mem_cons_of_mem _ (List.mem_append_left _ ?_)
        exact weightsAll_mem (List.mem_map.2 ⟨elems[i], List.getElem_mem hie, rfl⟩) m hm'
      obtain ⟨b, hb, hg⟩ := ho H enc w _ cs' _ ht' hw'
      obtain ⟨_, hcl, hat⟩ := World.cells?_some hc
      refine ⟨b, ⟨cs', by rw [hcl, hC], hb, fun j u hu' => ?_⟩, hg⟩
      have hj : j < P.cellsOf e := by
        have := (List.getElem?_eq_some_iff.1 hu').1
        omega
      have := hat j hj
      rw [hC] at this
      rw [← add_at_, this, hu']
    obtain ⟨l, hll, hq⟩ := choose_list len each
    refine ⟨l, hll, hl, ⟨hll, by simp only [maxLen] at hm; omega, fun _ => ⟨a, rfl, fun j p hj => (hq j p hj).1⟩⟩, by omega, ?_, fun b hb => ?_⟩
    · have h1 := hz ((elems.length + rest.length) * P.bytesOf e) (by rw [hx]; simp [DataW.weights, hu])
      rw [hB] at h1
      simp only [reachBytes] at h1
      refine Nat.le_trans (Nat.mul_le_mul_right _ ?_) h1
      omega
    · obtain ⟨i, hi⟩ := List.getElem?_of_mem hb
      exact (hq i b hi).2

theorem opens_slice {α : Type} {t e : TypeId} {d : Kd α} {good : α → Prop} (hu : P.underlying t = some (.slice e)) (hC : P.cellsOf e = d.sz) {B : Nat} (hB : P.bytesOf e = B) (ho : Opens P e d good) :
    Opens P t (Kd.slice e d) (fun l => l.length ≤ maxLen ∧ l.length * B ≤ 140737488351232 ∧ ∀ a ∈ l, good a) := by
  intro H enc w fuel cs x h hz
  have hform : ∃ A len cap, cs = [.slice A len cap] := by
    rcases DataW.trod_slice hu h with ⟨h0, _⟩ | ⟨a, len', cap', elems, rest, n, _, hcs, _⟩
    · exact ⟨_, _, _, h0⟩
    · exact ⟨_, _, _, hcs⟩
  obtain ⟨A, len, cap, rfl⟩ := hform
  obtain ⟨l, rfl, hlc, hC', hm, hb, hg⟩ := opens_slice_row hu hC hB ho H enc w fuel A len cap x h hz
  exact ⟨l, ⟨A, cap, rfl, hlc, hC'⟩, hm, hb, hg⟩

/-- Fields from a place on. -/
def OpensFs {α : Type} (P : Program) (off : Nat) (fs : List Field) (d : Kd α) (good : α → Prop) : Prop :=
  ∀ (H : Type) (enc : TypeId × Value → H) (w : World) (fuel : Nat) (cs : List Value) (ys : List (DataW H × List MemPlace)),
    cs.length = off + d.sz → ys.length = fs.length → (∀ (i : Nat) (f : Field), fs[i]? = some f → DataW.trod enc P w 0 (fun _ => true) true fuel f.type ((cs.drop f.offset).take (P.cellsOf f.type)) = ys[i]?) →
    (∀ n ∈ DataW.weightsEach P (fs.map (·.type)) (ys.map (·.1)), n ≤ reachBytes) → ∃ a : α, d.K w a (cs.drop off) ∧ good a

theorem opensFs_one {α : Type} {off : Nat} {f : Field} {d : Kd α} {good : α → Prop} (ho : f.offset = off) (hC : P.cellsOf f.type = d.sz) (h : Opens P f.type d good) : OpensFs P off [f] d good := by
  intro H enc w fuel cs ys hcs hy hf hz
  match ys, hy with
  | [y], _ =>
    have h1 := hf 0 f rfl
    rw [ho, hC, List.take_of_length_le (by simp [List.length_drop]; omega)] at h1
    exact h H enc w fuel _ y h1 (fun n hn => hz n (by simp only [List.map_cons, DataW.weightsEach, List.mem_append]; exact Or.inl hn))

theorem opensFs_cons {α β : Type} {off : Nat} {f : Field} {fs : List Field} {d : Kd α} {e : Kd β} {g1 : α → Prop} {g2 : β → Prop} (ho : f.offset = off) (hC : P.cellsOf f.type = d.sz) (h : Opens P f.type d g1) (hs : OpensFs P (off + d.sz) fs e g2) :
    OpensFs P off (f :: fs) (Kd.pair d e) (fun p => g1 p.1 ∧ g2 p.2) := by
  intro H enc w fuel cs ys hcs hy hf hz
  match ys, hy with
  | y :: ys, hy =>
    have hsz : (Kd.pair d e).sz = d.sz + e.sz := rfl
    rw [hsz] at hcs
    have h1 := hf 0 f rfl
    rw [ho, hC] at h1
    obtain ⟨a, ha, hga⟩ := h H enc w fuel _ y h1 (fun n hn => hz n (by simp only [List.map_cons, DataW.weightsEach, List.mem_append]; exact Or.inl hn))
    obtain ⟨b, hb, hgb⟩ := hs H enc w fuel cs ys (by omega) (by simpa using hy) (fun i f' hi => by simpa using hf (i + 1) f' (by simpa using hi)) (fun n hn => hz n (by simp only [List.map_cons, DataW.weightsEach, List.mem_append]; exact Or.inr hn))
    refine ⟨(a, b), ⟨(cs.drop off).take d.sz, cs.drop (off + d.sz), ?_, ha, hb⟩, hga, hgb⟩
    rw [← List.drop_drop, List.take_append_drop]

theorem opens_struct {α : Type} {t : TypeId} {fs : Array Field} {d : Kd α} {good : α → Prop} (hu : P.underlying t = some (.struct fs)) (hC : P.cellsOf t = d.sz) (h : OpensFs P 0 fs.toList d good) : Opens P t d good := by
  intro H enc w fuel cs x hx hz
  obtain ⟨ys, n, _, hxe, hlen, hyl, hf⟩ := DataW.trod_struct hu hx
  obtain ⟨a, ha, hg⟩ := h H enc w n cs ys (by omega) (by simpa using hyl) (fun i f hi => hf i f (by simpa using hi)) (fun m hm => hz m (by rw [hxe]; simp only [DataW.weights, hu]; exact hm))
  exact ⟨a, by simpa using ha, hg⟩

theorem opens_iso {α β : Type} {t : TypeId} {d : Kd α} {good : α → Prop} (f : β → α) (g : α → β) (hfg : ∀ a, f (g a) = a) (h : Opens P t d good) : Opens P t (Kd.iso d f) (fun b => good (f b)) := by
  intro H enc w fuel cs x hx hz
  obtain ⟨a, ha, hga⟩ := h H enc w fuel cs x hx hz
  refine ⟨g a, ?_, by show good (f (g a)); rw [hfg]; exact hga⟩
  show d.K w (f (g a)) cs
  rw [hfg]
  exact ha

theorem opens_imp {α : Type} {t : TypeId} {d : Kd α} {g1 g2 : α → Prop} (h : Opens P t d g1) (hg : ∀ a, g1 a → g2 a) : Opens P t d g2 := by
  intro H enc w fuel cs x hx hz
  obtain ⟨a, ha, hga⟩ := h H enc w fuel cs x hx hz
  exact ⟨a, ha, hg a hga⟩

/-- An argument's weights are among all. -/
theorem weights_of {H : Type} {ts : List TypeId} {ds : List (DataW H)} (h : (DataW.weightsEach P ts ds).all (· ≤ reachBytes) = true) {j : Nat} {t : TypeId} {d : DataW H} (ht : ts[j]? = some t) (hd : ds[j]? = some d) : ∀ n ∈ d.weights P t, n ≤ reachBytes := by
  intro n hn
  have := List.all_eq_true.1 h _ (DataW.weights_mem_each ht hd n hn)
  simpa using this

theorem arg_slice {α : Type} {t e : TypeId} {d : Kd α} {good : α → Prop} (hu : P.underlying t = some (.slice e)) (hC : P.cellsOf e = d.sz) {B : Nat} (hB : P.bytesOf e = B) (ho : Opens P e d good)
    {H : Type} {enc : TypeId × Value → H} {w : World} {r : Reach} {b0 : Nat} {v : Value} {x : DataW H} {ps : List MemPlace} (hv : Value.okWide P w r b0 t v)
    (h : DataW.Trod enc P w 0 (fun _ => true) true t v x ps) (hz : ∀ n ∈ x.weights P t, n ≤ reachBytes) :
    ∃ (A : Option Addr) (c : Nat) (l : List α), v = .slice A l.length c ∧ l.length ≤ c ∧ d.C w A l.length l ∧ l.length ≤ maxLen ∧ l.length * B ≤ 140737488351232 ∧ ∀ a ∈ l, good a := by
  obtain ⟨A, len, c, rfl⟩ := okWide_slice hu hv
  obtain ⟨fuel, hf⟩ := h
  have hf' : DataW.trod enc P w 0 (fun _ => true) true fuel t [.slice A len c] = some (x, ps) := by simpa [Value.cells] using hf
  obtain ⟨l, rfl, hlc, hC', hm, hb, hg⟩ := opens_slice_row hu hC hB ho H enc w fuel A len c _ hf' hz
  exact ⟨A, c, l, rfl, hlc, hC', hm, hb, hg⟩

theorem arg_struct {α : Type} {t : TypeId} {fs : Array Field} {d : Kd α} {good : α → Prop} (hu : P.underlying t = some (.struct fs)) (ho : Opens P t d good)
    {H : Type} {enc : TypeId × Value → H} {w : World} {r : Reach} {b0 : Nat} {v : Value} {x : DataW H} {ps : List MemPlace} (hv : Value.okWide P w r b0 t v)
    (h : DataW.Trod enc P w 0 (fun _ => true) true t v x ps) (hz : ∀ n ∈ x.weights P t, n ≤ reachBytes) :
    ∃ (a : α) (cs : List Value), v = .agg cs.toArray ∧ d.K w a cs ∧ good a := by
  obtain ⟨cs, rfl, _⟩ := okWide_struct hu hv
  obtain ⟨fuel, hf⟩ := h
  obtain ⟨a, ha, hg⟩ := ho H enc w fuel _ _ hf hz
  exact ⟨a, cs.toList, by simp, by simpa [Value.cells] using ha, hg⟩

theorem arg_int {t : TypeId} {k : IntKind} (hu : P.underlying t = some (.int k))
    {H : Type} {enc : TypeId × Value → H} {w : World} {r : Reach} {b0 : Nat} {v : Value} {x : DataW H} {ps : List MemPlace} (hv : Value.okWide P w r b0 t v)
    (h : DataW.Trod enc P w 0 (fun _ => true) true t v x ps) : ∃ n, v = .int k n ∧ (Lit.int k n).wf = true := by
  obtain ⟨n, rfl⟩ := okWide_int hu hv
  obtain ⟨fuel, hf⟩ := h
  obtain ⟨m, hcs, _, hw⟩ := DataW.trod_int hu hf
  simp only [Value.cells] at hcs
  have e : n = m := by simpa using hcs
  subst e
  exact ⟨n, rfl, hw⟩

theorem arg_bool {t : TypeId} (hu : P.underlying t = some .bool) {w : World} {r : Reach} {b0 : Nat} {v : Value} (hv : Value.okWide P w r b0 t v) : ∃ b, v = .bool b := okWide_bool hu hv

theorem arg_string {t : TypeId} (hu : P.underlying t = some .string)
    {H : Type} {enc : TypeId × Value → H} {w : World} {r : Reach} {b0 : Nat} {v : Value} {x : DataW H} {ps : List MemPlace} (hv : Value.okWide P w r b0 t v)
    (h : DataW.Trod enc P w 0 (fun _ => true) true t v x ps) (hz : ∀ n ∈ x.weights P t, n ≤ reachBytes) : ∃ s : ByteArray, v = .string s ∧ s.size ≤ 140737488351232 := by
  obtain ⟨s, rfl⟩ := okWide_string hu hv
  obtain ⟨fuel, hf⟩ := h
  obtain ⟨s', hcs, _, hs⟩ := opens_string hu H enc w fuel _ _ hf hz |> fun ⟨a, ha, hg⟩ => (⟨a, ha, trivial, hg⟩ : ∃ s', Kd.string.K w s' _ ∧ True ∧ s'.size ≤ _)
  have e : [Value.string s] = [Value.string s'] := hcs
  have e' : s = s' := by simpa using e
  subst e'
  exact ⟨s, rfl, hs⟩
end Go.Proofs.Ytjhkbmdblfdlnaa.Opn

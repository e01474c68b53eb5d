/- Functions of the program as plain Lean functions, what their calls do, and what follows of it. Conditions: each theorem's own. -/
import Derived.Test.YtjhkbmdblfdlnaaCRelayBoundsV
namespace Go.Proofs.Ytjhkbmdblfdlnaa.QRlb
open Go.RowKit Go.Proofs.YtjhkbmdblfdlnaaW.PrintWords Go.Proofs.YtjhkbmdblfdlnaaW.PrintLast Go.Proofs.YtjhkbmdblfdlnaaW.PrintMore
attribute [local go_sem] max2_int min2_int max_two min_two max_three min_three max_four min_four
set_option linter.unusedVariables false
set_option linter.unusedSimpArgs false
def errW : Option Int → Value
  | none => .nilIface
  | some c => .iface 0 (.int .i64 c)
theorem errW_none : errW none = .nilIface := rfl
theorem errW_some (c : Int) : errW (some c) = .iface 0 (.int .i64 c) := rfl
theorem info3 : (Try.prog.info? 3).map (fun i => (i.zero, i.size, i.bytes)) = some (some (.int .i64 0), 1, 8) := by kernel_rfl
theorem info63 : (Try.prog.info? 63).map (fun i => (i.zero, i.size, i.bytes)) = some (some (.agg #[(.int .i64 0), (.int .i64 0), (.int .i64 0), (.bool false), (.int .i64 0), (.int .i64 0), (.int .i64 0), (.string ⟨#[]⟩)]), 8, 72) := by kernel_rfl
theorem info64 : (Try.prog.info? 64).map (fun i => (i.zero, i.size, i.bytes)) = some (some (.agg #[(.int .i64 0), (.int .i64 0), (.bool false), (.slice none 0 0)]), 4, 48) := by kernel_rfl
structure S54 where
  f0 : Int
  f1 : Int
  f2 : Bool
  f3 : (List Int)
def z54 : S54 := ⟨(0 : Int), (0 : Int), false, ([] : List Int)⟩
def k54 : Kd S54 := Kd.iso (Kd.pair (Kd.int .i64) (Kd.pair (Kd.int .i64) (Kd.pair Kd.bool (Kd.slice 3 (Kd.int .i64))))) (fun x : S54 => (x.f0, x.f1, x.f2, x.f3))
theorem k54_heap : Kd.Heap k54 := Kd.heap_iso _ (Kd.heap_pair (Kd.heap_int .i64) (Kd.heap_pair (Kd.heap_int .i64) (Kd.heap_pair Kd.heap_bool (Kd.heap_slice 3 (Kd.heap_int .i64)))))
theorem k54_open {w : World} {x : S54} {cs : List Value} (h : k54.K w x cs) : ∃ A3 c3, cs = [.int .i64 x.f0, .int .i64 x.f1, .bool x.f2, .slice A3 x.f3.length c3] ∧ x.f3.length ≤ c3 ∧ (Kd.int .i64).C w A3 x.f3.length x.f3 := by
  obtain ⟨_, _, rfl, rfl, ⟨_, _, rfl, rfl, ⟨_, _, rfl, rfl, ⟨A3, c3, rfl, l3, g3⟩⟩⟩⟩ := h
  exact ⟨A3, c3, rfl, l3, g3⟩
theorem k54_mk (w : World) (x : S54) {A3 : Option Addr} {c3 : Nat} (l3 : x.f3.length ≤ c3) (g3 : (Kd.int .i64).C w A3 x.f3.length x.f3) : k54.K w x [.int .i64 x.f0, .int .i64 x.f1, .bool x.f2, .slice A3 x.f3.length c3] := ⟨[.int .i64 x.f0], [.int .i64 x.f1, .bool x.f2, .slice A3 x.f3.length c3], rfl, rfl, ⟨[.int .i64 x.f1], [.bool x.f2, .slice A3 x.f3.length c3], rfl, rfl, ⟨[.bool x.f2], [.slice A3 x.f3.length c3], rfl, rfl, ⟨A3, c3, rfl, l3, g3⟩⟩⟩⟩
theorem k54_openF {W : World} {ok : Nat → Prop} {x : S54} {cs : List Value} (h : Kd.FK k54 W ok x cs) : ∃ A3 c3, cs = [.int .i64 x.f0, .int .i64 x.f1, .bool x.f2, .slice A3 x.f3.length c3] ∧ x.f3.length ≤ c3 ∧ Kd.F (Kd.int .i64) W ok A3 x.f3.length x.f3 := by
  obtain ⟨A3, c3, rfl, l3, _⟩ := k54_open (Kd.FK_now h)
  exact ⟨A3, c3, rfl, l3, (fun W' hW => by obtain ⟨A3_, c3_, he, l3_, g3_⟩ := k54_open (h W' hW); injection (Option.some.inj (show some (Value.slice A3 x.f3.length c3) = some (Value.slice A3_ x.f3.length c3_) from congrArg (fun l => l[3]?) he)) with ha_ _ _; rw [ha_]; exact g3_)⟩
theorem k54_mkF (W : World) (ok : Nat → Prop) (x : S54) {A3 : Option Addr} {c3 : Nat} (l3 : x.f3.length ≤ c3) (g3 : Kd.F (Kd.int .i64) W ok A3 x.f3.length x.f3) : Kd.FK k54 W ok x [.int .i64 x.f0, .int .i64 x.f1, .bool x.f2, .slice A3 x.f3.length c3] := fun W2 hW => k54_mk W2 x l3 (g3 W2 hW)
def rd_T54 (xs : List S54) (i : Int) : S54 := xs.getD i.toNat z54
theorem at_T54 {w : World} {A : Option Addr} {n : Nat} {xs : List S54} (h : Kd.C k54 w A n xs) (i : Int) (h0 : 0 ≤ i) (h1 : i < n) : ∃ ad A3 c3, A = some ad ∧ w.cell? (ad.add (i.toNat * 4)) = some (.int .i64 (rd_T54 xs i).f0) ∧ w.cell? ⟨(ad.add (i.toNat * 4)).block, (ad.add (i.toNat * 4)).off + 1, none⟩ = some (.int .i64 (rd_T54 xs i).f1) ∧ w.cell? ⟨(ad.add (i.toNat * 4)).block, (ad.add (i.toNat * 4)).off + 2, none⟩ = some (.bool (rd_T54 xs i).f2) ∧ w.cell? ⟨(ad.add (i.toNat * 4)).block, (ad.add (i.toNat * 4)).off + 3, none⟩ = some (.slice A3 (rd_T54 xs i).f3.length c3) ∧ (rd_T54 xs i).f3.length ≤ c3 ∧ (Kd.int .i64).C w A3 (rd_T54 xs i).f3.length (rd_T54 xs i).f3 := by
  obtain ⟨ad, c, e, _, hK, hc0⟩ := Kd.C_get h z54 i h0 h1
  have hc : ∀ j u, c[j]? = some u → w.cell? (ad.add (i.toNat * 4 + j)) = some u := hc0
  obtain ⟨A3, c3, rfl, l3, g3⟩ := k54_open hK
  exact ⟨ad, A3, c3, e, hc 0 _ rfl, by rw [← add_field _ _ 1 (by omega)]; exact hc 1 _ rfl, by rw [← add_field _ _ 2 (by omega)]; exact hc 2 _ rfl, by rw [← add_field _ _ 3 (by omega)]; exact hc 3 _ rfl, l3, g3⟩
structure S84 where
  f0 : Int
  f1 : Int
  f2 : Int
  f3 : Int
  f4 : Bool
def z84 : S84 := ⟨(0 : Int), (0 : Int), (0 : Int), (0 : Int), false⟩
def k84 : Kd S84 := Kd.iso (Kd.pair (Kd.int .i64) (Kd.pair (Kd.int .i64) (Kd.pair (Kd.int .i64) (Kd.pair (Kd.int .i64) Kd.bool)))) (fun x : S84 => (x.f0, x.f1, x.f2, x.f3, x.f4))
theorem k84_open {w : World} {x : S84} {cs : List Value} (h : k84.K w x cs) : cs = [.int .i64 x.f0, .int .i64 x.f1, .int .i64 x.f2, .int .i64 x.f3, .bool x.f4] := by
  obtain ⟨_, _, rfl, rfl, ⟨_, _, rfl, rfl, ⟨_, _, rfl, rfl, ⟨_, _, rfl, rfl, rfl⟩⟩⟩⟩ := h
  exact rfl
theorem k84_openM {w : World} {base : Nat} {ok : Nat → Prop} {x : S84} {cs : List Value} (h : k84.M w base ok x cs) : cs = [.int .i64 x.f0, .int .i64 x.f1, .int .i64 x.f2, .int .i64 x.f3, .bool x.f4] := by
  obtain ⟨_, _, rfl, rfl, ⟨_, _, rfl, rfl, ⟨_, _, rfl, rfl, ⟨_, _, rfl, rfl, rfl⟩⟩⟩⟩ := h
  exact rfl
theorem k84_mkM (w : World) (base : Nat) (ok : Nat → Prop) (x : S84)  : k84.M w base ok x [.int .i64 x.f0, .int .i64 x.f1, .int .i64 x.f2, .int .i64 x.f3, .bool x.f4] := ⟨[.int .i64 x.f0], [.int .i64 x.f1, .int .i64 x.f2, .int .i64 x.f3, .bool x.f4], rfl, rfl, ⟨[.int .i64 x.f1], [.int .i64 x.f2, .int .i64 x.f3, .bool x.f4], rfl, rfl, ⟨[.int .i64 x.f2], [.int .i64 x.f3, .bool x.f4], rfl, rfl, ⟨[.int .i64 x.f3], [.bool x.f4], rfl, rfl, rfl⟩⟩⟩⟩
structure S49 where
  f0 : Int
  f1 : Int
  f2 : Bool
  f3 : Int
  f4 : Int
  f5 : Int
  f6 : ByteArray
def z49 : S49 := ⟨(0 : Int), (0 : Int), false, (0 : Int), (0 : Int), (0 : Int), (⟨#[]⟩ : ByteArray)⟩
def k49 : Kd S49 := Kd.iso (Kd.pair (Kd.int .i64) (Kd.pair (Kd.int .i64) (Kd.pair Kd.bool (Kd.pair (Kd.int .i64) (Kd.pair (Kd.int .i64) (Kd.pair (Kd.int .i64) Kd.string)))))) (fun x : S49 => (x.f0, x.f1, x.f2, x.f3, x.f4, x.f5, x.f6))
theorem k49_open {w : World} {x : S49} {cs : List Value} (h : k49.K w x cs) : cs = [.int .i64 x.f0, .int .i64 x.f1, .bool x.f2, .int .i64 x.f3, .int .i64 x.f4, .int .i64 x.f5, .string x.f6] := by
  obtain ⟨_, _, rfl, rfl, ⟨_, _, rfl, rfl, ⟨_, _, rfl, rfl, ⟨_, _, rfl, rfl, ⟨_, _, rfl, rfl, ⟨_, _, rfl, rfl, rfl⟩⟩⟩⟩⟩⟩ := h
  exact rfl
theorem k49_mkM (w : World) (base : Nat) (ok : Nat → Prop) (x : S49)  : k49.M w base ok x [.int .i64 x.f0, .int .i64 x.f1, .bool x.f2, .int .i64 x.f3, .int .i64 x.f4, .int .i64 x.f5, .string x.f6] := ⟨[.int .i64 x.f0], [.int .i64 x.f1, .bool x.f2, .int .i64 x.f3, .int .i64 x.f4, .int .i64 x.f5, .string x.f6], rfl, rfl, ⟨[.int .i64 x.f1], [.bool x.f2, .int .i64 x.f3, .int .i64 x.f4, .int .i64 x.f5, .string x.f6], rfl, rfl, ⟨[.bool x.f2], [.int .i64 x.f3, .int .i64 x.f4, .int .i64 x.f5, .string x.f6], rfl, rfl, ⟨[.int .i64 x.f3], [.int .i64 x.f4, .int .i64 x.f5, .string x.f6], rfl, rfl, ⟨[.int .i64 x.f4], [.int .i64 x.f5, .string x.f6], rfl, rfl, ⟨[.int .i64 x.f5], [.string x.f6], rfl, rfl, rfl⟩⟩⟩⟩⟩⟩
structure S63 where
  f0 : Int
  f1 : S49
def z63 : S63 := ⟨(0 : Int), z49⟩
def k63 : Kd S63 := Kd.iso (Kd.pair (Kd.int .i64) k49) (fun x : S63 => (x.f0, x.f1))
theorem k63_open {w : World} {x : S63} {cs : List Value} (h : k63.K w x cs) : cs = [.int .i64 x.f0, .int .i64 x.f1.f0, .int .i64 x.f1.f1, .bool x.f1.f2, .int .i64 x.f1.f3, .int .i64 x.f1.f4, .int .i64 x.f1.f5, .string x.f1.f6] := by
  obtain ⟨_, _, rfl, rfl, s1⟩ := h
  obtain rfl := k49_open s1
  exact rfl
theorem k63_mkM (w : World) (base : Nat) (ok : Nat → Prop) (x : S63)  : k63.M w base ok x [.int .i64 x.f0, .int .i64 x.f1.f0, .int .i64 x.f1.f1, .bool x.f1.f2, .int .i64 x.f1.f3, .int .i64 x.f1.f4, .int .i64 x.f1.f5, .string x.f1.f6] := ⟨[.int .i64 x.f0], [.int .i64 x.f1.f0, .int .i64 x.f1.f1, .bool x.f1.f2, .int .i64 x.f1.f3, .int .i64 x.f1.f4, .int .i64 x.f1.f5, .string x.f1.f6], rfl, rfl, (k49_mkM w base ok x.f1 )⟩
def rd_T63 (xs : List S63) (i : Int) : S63 := xs.getD i.toNat z63
theorem at_T63 {w : World} {A : Option Addr} {n : Nat} {xs : List S63} (h : Kd.C k63 w A n xs) (i : Int) (h0 : 0 ≤ i) (h1 : i < n) : ∃ ad , A = some ad ∧ w.cell? (ad.add (i.toNat * 8)) = some (.int .i64 (rd_T63 xs i).f0) ∧ w.cell? ⟨(ad.add (i.toNat * 8)).block, (ad.add (i.toNat * 8)).off + 1, none⟩ = some (.int .i64 (rd_T63 xs i).f1.f0) ∧ w.cell? ⟨(ad.add (i.toNat * 8)).block, (ad.add (i.toNat * 8)).off + 2, none⟩ = some (.int .i64 (rd_T63 xs i).f1.f1) ∧ w.cell? ⟨(ad.add (i.toNat * 8)).block, (ad.add (i.toNat * 8)).off + 3, none⟩ = some (.bool (rd_T63 xs i).f1.f2) ∧ w.cell? ⟨(ad.add (i.toNat * 8)).block, (ad.add (i.toNat * 8)).off + 4, none⟩ = some (.int .i64 (rd_T63 xs i).f1.f3) ∧ w.cell? ⟨(ad.add (i.toNat * 8)).block, (ad.add (i.toNat * 8)).off + 5, none⟩ = some (.int .i64 (rd_T63 xs i).f1.f4) ∧ w.cell? ⟨(ad.add (i.toNat * 8)).block, (ad.add (i.toNat * 8)).off + 6, none⟩ = some (.int .i64 (rd_T63 xs i).f1.f5) ∧ w.cell? ⟨(ad.add (i.toNat * 8)).block, (ad.add (i.toNat * 8)).off + 7, none⟩ = some (.string (rd_T63 xs i).f1.f6) := by
  obtain ⟨ad, c, e, _, hK, hc0⟩ := Kd.C_get h z63 i h0 h1
  have hc : ∀ j u, c[j]? = some u → w.cell? (ad.add (i.toNat * 8 + j)) = some u := hc0
  obtain rfl := k63_open hK
  exact ⟨ad, e, hc 0 _ rfl, by rw [← add_field _ _ 1 (by omega)]; exact hc 1 _ rfl, by rw [← add_field _ _ 2 (by omega)]; exact hc 2 _ rfl, by rw [← add_field _ _ 3 (by omega)]; exact hc 3 _ rfl, by rw [← add_field _ _ 4 (by omega)]; exact hc 4 _ rfl, by rw [← add_field _ _ 5 (by omega)]; exact hc 5 _ rfl, by rw [← add_field _ _ 6 (by omega)]; exact hc 6 _ rfl, by rw [← add_field _ _ 7 (by omega)]; exact hc 7 _ rfl⟩
structure S64 where
  f0 : Int
  f1 : Int
  f2 : Bool
  f3 : (List Int)
def z64 : S64 := ⟨(0 : Int), (0 : Int), false, ([] : List Int)⟩
def k64 : Kd S64 := Kd.iso (Kd.pair (Kd.int .i64) (Kd.pair (Kd.int .i64) (Kd.pair Kd.bool (Kd.slice 3 (Kd.int .i64))))) (fun x : S64 => (x.f0, x.f1, x.f2, x.f3))
theorem k64_open {w : World} {x : S64} {cs : List Value} (h : k64.K w x cs) : ∃ A3 c3, cs = [.int .i64 x.f0, .int .i64 x.f1, .bool x.f2, .slice A3 x.f3.length c3] ∧ x.f3.length ≤ c3 ∧ (Kd.int .i64).C w A3 x.f3.length x.f3 := by
  obtain ⟨_, _, rfl, rfl, ⟨_, _, rfl, rfl, ⟨_, _, rfl, rfl, ⟨A3, c3, rfl, l3, g3⟩⟩⟩⟩ := h
  exact ⟨A3, c3, rfl, l3, g3⟩
theorem k64_mk (w : World) (x : S64) {A3 : Option Addr} {c3 : Nat} (l3 : x.f3.length ≤ c3) (g3 : (Kd.int .i64).C w A3 x.f3.length x.f3) : k64.K w x [.int .i64 x.f0, .int .i64 x.f1, .bool x.f2, .slice A3 x.f3.length c3] := ⟨[.int .i64 x.f0], [.int .i64 x.f1, .bool x.f2, .slice A3 x.f3.length c3], rfl, rfl, ⟨[.int .i64 x.f1], [.bool x.f2, .slice A3 x.f3.length c3], rfl, rfl, ⟨[.bool x.f2], [.slice A3 x.f3.length c3], rfl, rfl, ⟨A3, c3, rfl, l3, g3⟩⟩⟩⟩
theorem k64_openF {W : World} {ok : Nat → Prop} {x : S64} {cs : List Value} (h : Kd.FK k64 W ok x cs) : ∃ A3 c3, cs = [.int .i64 x.f0, .int .i64 x.f1, .bool x.f2, .slice A3 x.f3.length c3] ∧ x.f3.length ≤ c3 ∧ Kd.F (Kd.int .i64) W ok A3 x.f3.length x.f3 := by
  obtain ⟨A3, c3, rfl, l3, _⟩ := k64_open (Kd.FK_now h)
  exact ⟨A3, c3, rfl, l3, (fun W' hW => by obtain ⟨A3_, c3_, he, l3_, g3_⟩ := k64_open (h W' hW); injection (Option.some.inj (show some (Value.slice A3 x.f3.length c3) = some (Value.slice A3_ x.f3.length c3_) from congrArg (fun l => l[3]?) he)) with ha_ _ _; rw [ha_]; exact g3_)⟩
theorem k64_mkF (W : World) (ok : Nat → Prop) (x : S64) {A3 : Option Addr} {c3 : Nat} (l3 : x.f3.length ≤ c3) (g3 : Kd.F (Kd.int .i64) W ok A3 x.f3.length x.f3) : Kd.FK k64 W ok x [.int .i64 x.f0, .int .i64 x.f1, .bool x.f2, .slice A3 x.f3.length c3] := fun W2 hW => k64_mk W2 x l3 (g3 W2 hW)
def rd_T64 (xs : List S64) (i : Int) : S64 := xs.getD i.toNat z64
theorem at_T64 {w : World} {A : Option Addr} {n : Nat} {xs : List S64} (h : Kd.C k64 w A n xs) (i : Int) (h0 : 0 ≤ i) (h1 : i < n) : ∃ ad A3 c3, A = some ad ∧ w.cell? (ad.add (i.toNat * 4)) = some (.int .i64 (rd_T64 xs i).f0) ∧ w.cell? ⟨(ad.add (i.toNat * 4)).block, (ad.add (i.toNat * 4)).off + 1, none⟩ = some (.int .i64 (rd_T64 xs i).f1) ∧ w.cell? ⟨(ad.add (i.toNat * 4)).block, (ad.add (i.toNat * 4)).off + 2, none⟩ = some (.bool (rd_T64 xs i).f2) ∧ w.cell? ⟨(ad.add (i.toNat * 4)).block, (ad.add (i.toNat * 4)).off + 3, none⟩ = some (.slice A3 (rd_T64 xs i).f3.length c3) ∧ (rd_T64 xs i).f3.length ≤ c3 ∧ (Kd.int .i64).C w A3 (rd_T64 xs i).f3.length (rd_T64 xs i).f3 := by
  obtain ⟨ad, c, e, _, hK, hc0⟩ := Kd.C_get h z64 i h0 h1
  have hc : ∀ j u, c[j]? = some u → w.cell? (ad.add (i.toNat * 4 + j)) = some u := hc0
  obtain ⟨A3, c3, rfl, l3, g3⟩ := k64_open hK
  exact ⟨ad, A3, c3, e, hc 0 _ rfl, by rw [← add_field _ _ 1 (by omega)]; exact hc 1 _ rfl, by rw [← add_field _ _ 2 (by omega)]; exact hc 2 _ rfl, by rw [← add_field _ _ 3 (by omega)]; exact hc 3 _ rfl, l3, g3⟩
end Go.Proofs.Ytjhkbmdblfdlnaa.QRlb
namespace Go.Proofs.Ytjhkbmdblfdlnaa.QRlb
open Go.RowKit Go.Proofs.YtjhkbmdblfdlnaaW.PrintWords Go.Proofs.YtjhkbmdblfdlnaaW.PrintLast Go.Proofs.YtjhkbmdblfdlnaaW.PrintMore
set_option linter.unusedVariables false
set_option linter.unusedSimpArgs false
structure At (w : World) (b q : Nat) (x : S84) : Prop where
  c0 : w.cell? ⟨b, q, none⟩ = some (.int .i64 x.f0)
  c1 : w.cell? ⟨b, q + 1, none⟩ = some (.int .i64 x.f1)
  c2 : w.cell? ⟨b, q + 2, none⟩ = some (.int .i64 x.f2)
  c3 : w.cell? ⟨b, q + 3, none⟩ = some (.int .i64 x.f3)
  c4 : w.cell? ⟨b, q + 4, none⟩ = some (.bool x.f4)
theorem atN_T84 {w : World} {A : Option Addr} {n : Nat} {xs : List S84} (h : Kd.C k84 w A n xs) (i : Nat) (h1 : i < xs.length) : ∃ ad , A = some ad ∧ w.cell? (ad.add (i * 5)) = some (.int .i64 xs[i].f0) ∧ w.cell? ⟨(ad.add (i * 5)).block, (ad.add (i * 5)).off + 1, none⟩ = some (.int .i64 xs[i].f1) ∧ w.cell? ⟨(ad.add (i * 5)).block, (ad.add (i * 5)).off + 2, none⟩ = some (.int .i64 xs[i].f2) ∧ w.cell? ⟨(ad.add (i * 5)).block, (ad.add (i * 5)).off + 3, none⟩ = some (.int .i64 xs[i].f3) ∧ w.cell? ⟨(ad.add (i * 5)).block, (ad.add (i * 5)).off + 4, none⟩ = some (.bool xs[i].f4) := by
  have hn := h.1
  obtain ⟨ad, c, e, _, hK, hc0⟩ := Kd.C_get h z84 (i : Int) (by omega) (by omega)
  rw [Int.toNat_natCast] at hc0
  have hc : ∀ j u, c[j]? = some u → w.cell? (ad.add (i * 5 + j)) = some u := hc0
  obtain rfl := k84_open hK
  have ex : xs.getD (i : Int).toNat z84 = xs[i] := by rw [Int.toNat_natCast, List.getD_eq_getElem?_getD, List.getElem?_eq_getElem h1]; rfl
  rw [ex] at hc
  exact ⟨ad, e, hc 0 _ rfl, by rw [← add_field _ _ 1 (by omega)]; exact hc 1 _ rfl, by rw [← add_field _ _ 2 (by omega)]; exact hc 2 _ rfl, by rw [← add_field _ _ 3 (by omega)]; exact hc 3 _ rfl, by rw [← add_field _ _ 4 (by omega)]; exact hc 4 _ rfl⟩
end Go.Proofs.Ytjhkbmdblfdlnaa.QRlb
namespace Go.Proofs.Ytjhkbmdblfdlnaa.SrtK
open Go.RowKit Go.Proofs.YtjhkbmdblfdlnaaW.PrintWords Go.Proofs.YtjhkbmdblfdlnaaW.PrintLast Go.Proofs.YtjhkbmdblfdlnaaW.PrintMore
open Go.Sort (flatK HoldsK putRowK)
set_option linter.unusedVariables false
section
variable {α : Type} [Inhabited α] {enc : α → List Value} {k : Nat}
theorem flat_get (hk : ∀ x, (enc x).length = k) (h0 : 0 < k) (xs : List α) (j i : Nat) (p : α) (hj : xs[j]? = some p) (hi : i < k) : (flatK enc k xs.toArray)[j * k + i]? = (enc p)[i]? := by
  have hl : j < xs.length := (List.getElem?_eq_some_iff.1 hj).1
  have hlt : j * k + i < xs.toArray.size * k := by
    have : (j + 1) * k ≤ xs.length * k := Nat.mul_le_mul_right _ hl
    rw [Nat.add_mul, Nat.one_mul] at this
    simp only [List.size_toArray]; omega
  have h1 : (j * k + i) / k = j := by rw [Nat.mul_comm, Nat.mul_add_div h0, Nat.div_eq_of_lt hi, Nat.add_zero]
  have h2 : (j * k + i) % k = i := by rw [Nat.mul_comm, Nat.mul_add_mod, Nat.mod_eq_of_lt hi]
  have hp : xs.toArray[j]! = p := by
    rw [getElem!_pos _ j (by simpa using hl)]
    obtain ⟨_, e⟩ := List.getElem?_eq_some_iff.1 hj
    simpa using e
  unfold flatK
  rw [Array.getElem?_map, Array.getElem?_range, if_pos hlt, Option.map_some, h1, h2, hp]
  have hi' : i < (enc p).length := by rw [hk]; exact hi
  rw [getElem!_pos _ i hi', List.getElem?_eq_getElem hi']
theorem reps_flat {R : α → List Value → Prop} (hk : ∀ x, (enc x).length = k) (h0 : 0 < k) (hR : ∀ x, R x (enc x)) (xs : List α) : Reps R k xs (flatK enc k xs.toArray).toList := by
  refine ⟨by simp, fun j p hj => ?_⟩
  have : ((flatK enc k xs.toArray).toList.drop (j * k)).take k = enc p := by
    apply List.ext_getElem?
    intro i
    by_cases hi : i < k
    · rw [List.getElem?_take_of_lt hi, List.getElem?_drop, Array.getElem?_toList]
      exact flat_get hk h0 xs j i p hj hi
    · rw [List.getElem?_take_eq_none (by omega), List.getElem?_eq_none (by rw [hk]; omega)]
  rw [this]; exact hR p
theorem flat_of_reps {R : α → List Value → Prop} (hk : ∀ x, (enc x).length = k) (h0 : 0 < k) (hR : ∀ x cs, R x cs → cs = enc x) (xs : List α) (inner : List Value) (h : Reps R k xs inner) : inner = (flatK enc k xs.toArray).toList := by
  apply List.ext_getElem?
  intro q
  by_cases hq : q < xs.length * k
  · have hj : q / k < xs.length := by rw [Nat.div_lt_iff_lt_mul h0]; exact hq
    have hi : q % k < k := Nat.mod_lt _ h0
    have e : q = q / k * k + q % k := by have := Nat.div_add_mod q k; rw [Nat.mul_comm] at this; omega
    have hp := List.getElem?_eq_getElem hj
    have h1 := hR _ _ (h.2 _ _ hp)
    have e5 : (flatK enc k xs.toArray).toList[q / k * k + q % k]? = (enc xs[q / k])[q % k]? := by rw [Array.getElem?_toList]; exact flat_get hk h0 xs _ _ _ hp hi
    rw [e, e5, ← h1, List.getElem?_take_of_lt hi, List.getElem?_drop]
  · rw [List.getElem?_eq_none (by rw [h.1]; omega), List.getElem?_eq_none (by simp; omega)]
variable {d : Kd α}
theorem R_parts {w : World} {base : Nat} {e : TypeId} {xs : List α} {ok : Nat → Prop} {v : Value} (hk : ∀ x, (enc x).length = k) (h0 : 0 < k) (hsz : d.sz = k) (hM : ∀ w base ok x cs, d.M w base ok x cs → cs = enc x) (h : d.R e w base ok v xs) :
    (v = .slice none 0 0 ∧ xs = []) ∨ ∃ g cap cur, v = .slice (some ⟨g, 0, none⟩) xs.length cap ∧ ok g ∧ base ≤ g ∧ w.heap[g]? = some (.cells cur e (0, 0)) ∧ xs.length ≤ cap ∧ cap ≤ maxLen ∧ cur.size = cap * k ∧ cur.toList.take (xs.length * k) = (flatK enc k xs.toArray).toList := by
  obtain ⟨hok, inner, ho, hr⟩ := h
  rw [hsz] at ho hr
  have hi := flat_of_reps (R := d.M w base fun k => ok k ∧ some k ≠ v.ownBlock) hk h0 (fun x cs => hM _ _ _ x cs) xs inner hr
  rcases ho.2 with ⟨e1, e2⟩ | ⟨g, cap, cur, hv, hg, hb, h1, h2, h3, h4⟩
  · exact .inl ⟨e1, List.length_eq_zero_iff.1 e2⟩
  · exact .inr ⟨g, cap, cur, hv, hok g (by rw [hv]; rfl), hg, hb, h1, h2, h3, by rw [h4, hi]⟩
end
end Go.Proofs.Ytjhkbmdblfdlnaa.SrtK
namespace Go.Proofs.Ytjhkbmdblfdlnaa.QRlb
open Go.RowKit Go.Proofs.YtjhkbmdblfdlnaaW.PrintWords Go.Proofs.YtjhkbmdblfdlnaaW.PrintLast Go.Proofs.YtjhkbmdblfdlnaaW.PrintMore
open Go.Sort (flatK HoldsK)
set_option linter.unusedVariables false
set_option linter.unusedSimpArgs false
instance : Inhabited S84 := ⟨z84⟩
theorem S84.ext' {x y : S84} (h0 : x.f0 = y.f0) (h1 : x.f1 = y.f1) (h2 : x.f2 = y.f2) (h3 : x.f3 = y.f3) (h4 : x.f4 = y.f4) : x = y := by cases x; cases y; simp_all
instance : DecidableEq S84 := fun x y => decidable_of_iff (x.f0 = y.f0 ∧ x.f1 = y.f1 ∧ x.f2 = y.f2 ∧ x.f3 = y.f3 ∧ x.f4 = y.f4) ⟨fun h => S84.ext' h.1 h.2.1 h.2.2.1 h.2.2.2.1 h.2.2.2.2, fun h => by rw [h]; exact ⟨rfl, rfl, rfl, rfl, rfl⟩⟩
def enc84 (x : S84) : List Value := [.int .i64 x.f0, .int .i64 x.f1, .int .i64 x.f2, .int .i64 x.f3, .bool x.f4]
theorem enc84_one (x : S84) : ∀ v ∈ enc84 x, v.oneCell' = true := by intro v hv; simp [enc84] at hv; rcases hv with rfl | rfl | rfl | rfl | rfl <;> rfl
def flat84 (xs : List S84) : List Value := xs.flatMap enc84
@[simp] theorem flat_len (xs : List S84) : (flat84 xs).length = xs.length * 5 := by
  induction xs with
  | nil => rfl
  | cons x r ih => unfold flat84 at *; rw [List.flatMap_cons, List.length_append, ih]; simp [enc84]; omega
theorem flat_cons (x : S84) (r : List S84) : flat84 (x :: r) = .int .i64 x.f0 :: .int .i64 x.f1 :: .int .i64 x.f2 :: .int .i64 x.f3 :: .bool x.f4 :: flat84 r := rfl
theorem flat_append (xs ys : List S84) : flat84 (xs ++ ys) = flat84 xs ++ flat84 ys := List.flatMap_append
theorem flat_get (xs : List S84) : ∀ j : Nat, (flat84 xs)[j]? = (xs[j / 5]?).bind fun x => (enc84 x)[j % 5]? := by
  induction xs with
  | nil => intro j; simp [flat84]
  | cons x r ih =>
    intro j
    rw [flat_cons]
    match j with
    | 0 => rfl
    | 1 => rfl
    | 2 => rfl
    | 3 => rfl
    | 4 => rfl
    | j + 5 =>
      rw [List.getElem?_cons_succ, List.getElem?_cons_succ, List.getElem?_cons_succ, List.getElem?_cons_succ, List.getElem?_cons_succ, ih, show (j + 5) / 5 = j / 5 + 1 by omega, show (j + 5) % 5 = j % 5 by omega, List.getElem?_cons_succ]
theorem flat_one (xs : List S84) : ∀ v ∈ flat84 xs, v.oneCell' = true := by
  intro v hv
  unfold flat84 at hv
  obtain ⟨x, _, hx⟩ := List.mem_flatMap.1 hv
  exact enc84_one x v hx
theorem flatK_eq (xs : List S84) : (flatK enc84 5 xs.toArray).toList = flat84 xs := by
  apply List.ext_getElem?
  intro q
  by_cases hq : q < xs.length * 5
  · have hj : q / 5 < xs.length := by omega
    have hp := List.getElem?_eq_getElem hj
    rw [flat_get, hp, Option.bind_some]
    have := SrtK.flat_get (enc := enc84) (k := 5) (fun _ => rfl) (by decide) xs (q / 5) (q % 5) _ hp (by omega)
    rw [show q / 5 * 5 + q % 5 = q by omega] at this
    rw [Array.getElem?_toList]; exact this
  · rw [List.getElem?_eq_none (by simp; omega), List.getElem?_eq_none (by simp; omega)]
structure Row (w : World) (blk cap : Nat) (xs : List S84) (W : World) : Prop where
  grown : w.grownBy W (some blk)
  cells : ∃ cur : Array Value, W.heap[blk]? = some (.cells cur 84 (0, 0)) ∧ cur.size = cap * 5 ∧ cur.toList.take (xs.length * 5) = flat84 xs
  fits : xs.length ≤ cap
theorem grownBy_trans {w W W2 : World} {r : Option Nat} (h : w.grownBy W r) (k : W.grownBy W2 r) : w.grownBy W2 r :=
  ⟨k.os.trans h.os, k.tape.trans h.tape, k.output.trans h.output, Nat.le_trans h.size k.size, fun q hq hne => (k.block q (Nat.lt_of_lt_of_le hq h.size) hne).trans (h.block q hq hne)⟩
theorem grownBy_below {W W2 : World} {r : Option Nat} (h : Below W.heap.size W W2) : W.grownBy W2 r := ⟨h.os, h.tape, h.output, h.size, fun q hq _ => h.block q hq⟩
theorem grownBy_set (W : World) (b j : Nat) (v : Value) : W.grownBy (W.setCell ⟨b, j, none⟩ v) (some b) := ⟨rfl, rfl, rfl, by simp [World.setCell], fun q _ hne => Below.heap_setCell W _ v q (fun e => hne (by rw [e]))⟩
theorem grownBy_sets (b : Nat) : ∀ (vs : List Value) (o : Nat) (W : World), W.grownBy (W.setCells b o vs) (some b)
  | [], _, W => World.grownBy.refl W _
  | v :: r, o, W => grownBy_trans (grownBy_set W b o v) (grownBy_sets b r (o + 1) _)
theorem sets_blk (b : Nat) {t : TypeId} : ∀ (vs : List Value) (o : Nat) (W : World) (cur : Array Value), W.heap[b]? = some (.cells cur t (0, 0)) → o + vs.length ≤ cur.size →
    ∃ cur' : Array Value, (W.setCells b o vs).heap[b]? = some (.cells cur' t (0, 0)) ∧ cur'.size = cur.size ∧ ∀ j, cur'[j]? = if o ≤ j ∧ j < o + vs.length then vs[j - o]? else cur[j]?
  | [], o, W, cur, h, _ => ⟨cur, h, rfl, fun j => by rw [if_neg (by simp only [List.length_nil]; omega)]⟩
  | v :: r, o, W, cur, h, hl => by
    have hl' : o + 1 + r.length ≤ cur.size := by simp at hl; omega
    obtain ⟨cur', h1, h2, h3⟩ := sets_blk b r (o + 1) (W.setCell ⟨b, o, none⟩ v) (cur.setIfInBounds o v) (blk_put h o v rfl) (by simpa using hl')
    refine ⟨cur', h1, by rw [h2]; simp, fun j => ?_⟩
    rw [h3 j]
    simp only [List.length_cons]
    by_cases e : j = o
    · subst e
      rw [if_neg (by omega), if_pos (by omega), Nat.sub_self, Array.getElem?_setIfInBounds, if_pos rfl, if_pos (by omega)]
      rfl
    · by_cases c : o + 1 ≤ j ∧ j < o + 1 + r.length
      · rw [if_pos c, if_pos (by omega)]
        obtain ⟨q, rfl⟩ : ∃ q, j = o + 1 + q := ⟨j - (o + 1), by omega⟩
        rw [show o + 1 + q - (o + 1) = q by omega, show o + 1 + q - o = q + 1 by omega]
        simp
      · rw [if_neg c, if_neg (by omega), Array.getElem?_setIfInBounds, if_neg (by omega)]
namespace Row
variable {w W W2 : World} {blk cap : Nat} {xs : List S84}
theorem at_ (h : Row w blk cap xs W) (i : Nat) (hi : i < xs.length) : At W blk (i * 5) xs[i] := by
  obtain ⟨cur, hb, hs, ht⟩ := h.cells
  have key : ∀ q, q < xs.length * 5 → W.cell? ⟨blk, q, none⟩ = (xs[q / 5]?).bind fun x => (enc84 x)[q % 5]? := fun q hq => by
    rw [blk_cell hb, ← flat_get, ← ht, List.getElem?_take_of_lt hq, Array.getElem?_toList]
  have h0 := key (i * 5) (by omega)
  have h1 := key (i * 5 + 1) (by omega)
  have h2 := key (i * 5 + 2) (by omega)
  have h3 := key (i * 5 + 3) (by omega)
  have h4 := key (i * 5 + 4) (by omega)
  rw [show i * 5 / 5 = i by omega, show i * 5 % 5 = 0 by omega, List.getElem?_eq_getElem hi] at h0
  rw [show (i * 5 + 1) / 5 = i by omega, show (i * 5 + 1) % 5 = 1 by omega, List.getElem?_eq_getElem hi] at h1
  rw [show (i * 5 + 2) / 5 = i by omega, show (i * 5 + 2) % 5 = 2 by omega, List.getElem?_eq_getElem hi] at h2
  rw [show (i * 5 + 3) / 5 = i by omega, show (i * 5 + 3) % 5 = 3 by omega, List.getElem?_eq_getElem hi] at h3
  rw [show (i * 5 + 4) / 5 = i by omega, show (i * 5 + 4) % 5 = 4 by omega, List.getElem?_eq_getElem hi] at h4
  exact ⟨h0, h1, h2, h3, h4⟩
theorem fz (h : Row w blk cap xs W) (q : Nat) : W.frozen? ⟨blk, q, none⟩ = false := by
  obtain ⟨cur, hb, hs, ht⟩ := h.cells
  exact blk_frozen hb _
theorem spare (h : Row w blk cap xs W) (q : Nat) (hq : q < cap * 5) : (W.cell? ⟨blk, q, none⟩).isSome = true ∧ W.frozen? ⟨blk, q, none⟩ = false := by
  obtain ⟨cur, hb, hs, ht⟩ := h.cells
  rw [blk_cell hb, Array.getElem?_eq_getElem (by omega)]
  exact ⟨rfl, blk_frozen hb _⟩
theorem cell (h : Row w blk cap xs W) (q : Nat) (v : Value) (hq : (flat84 xs)[q]? = some v) : W.cell? ⟨blk, q, none⟩ = some v := by
  obtain ⟨cur, hb, hs, ht⟩ := h.cells
  have hlt : q < xs.length * 5 := by have := (List.getElem?_eq_some_iff.1 hq).1; simpa using this
  rw [blk_cell hb, ← hq, ← ht, List.getElem?_take_of_lt hlt, Array.getElem?_toList]
theorem lt (h : Row w blk cap xs W) : blk < W.heap.size := by obtain ⟨cur, hb, _⟩ := h.cells; exact blk_lt hb
theorem below (h : Row w blk cap xs W) (hb : Below W.heap.size W W2) : Row w blk cap xs W2 := by
  obtain ⟨cur, hc, hs, ht⟩ := h.cells
  exact ⟨grownBy_trans h.grown (grownBy_below hb), ⟨cur, blk_below hc hb, hs, ht⟩, h.fits⟩
theorem drew (h : Row w blk cap xs W) : Row w blk cap xs W.drew := h.below (below_drew1 (Below.refl _ _))
theorem drewN (h : Row w blk cap xs W) (m : Nat) : Row w blk cap xs (W.drewN m) := h.below (pw_below_drewN (Below.refl _ _) m)
theorem alloc (h : Row w blk cap xs W) (o : Obj) : Row w blk cap xs (W.alloc o) := h.below (below_alloc (Below.refl _ _) o)
theorem far (h : Row w blk cap xs W) {g : Nat} (hne : blk ≠ g) (hg : w.heap.size ≤ g) (j : Nat) (v : Value) : Row w blk cap xs (W.setCell ⟨g, j, none⟩ v) := by
  obtain ⟨cur, hb, hs, ht⟩ := h.cells
  have h2 := h.grown
  exact ⟨⟨h2.os, h2.tape, h2.output, by simpa [World.setCell] using h2.size, fun q hq hn => (Below.heap_setCell W ⟨g, j, none⟩ v q (fun e => by simp only at e; omega)).trans (h2.block q hq hn)⟩, ⟨cur, blk_far hb hne v, hs, ht⟩, h.fits⟩
theorem start {cur : Array Value} (hb : w.heap[blk]? = some (.cells cur 84 (0, 0))) (hs : cur.size = cap * 5) (hf : xs.length ≤ cap) (ht : cur.toList.take (xs.length * 5) = (flatK enc84 5 xs.toArray).toList) : Row w blk cap xs w :=
  ⟨World.grownBy.refl _ _, ⟨cur, hb, hs, by rw [ht, flatK_eq]⟩, hf⟩
theorem take (h : Row w blk cap xs W) (m : Nat) : Row w blk cap (xs.take m) W := by
  obtain ⟨cur, hc, hs, ht⟩ := h.cells
  refine ⟨h.grown, ⟨cur, hc, hs, ?_⟩, by have := h.fits; rw [List.length_take]; omega⟩
  by_cases hm : m ≤ xs.length
  · rw [List.length_take, Nat.min_eq_left hm]
    have e : flat84 xs = flat84 (xs.take m) ++ flat84 (xs.drop m) := by rw [← flat_append, List.take_append_drop]
    have h2 : cur.toList.take (m * 5) = (cur.toList.take (xs.length * 5)).take (m * 5) := by rw [List.take_take, Nat.min_eq_left (by omega)]
    rw [h2, ht, e]
    have h3 : (flat84 (xs.take m)).length = m * 5 := by rw [flat_len, List.length_take, Nat.min_eq_left hm]
    rw [← h3, List.take_left']
    rfl
  · have e : xs.take m = xs := List.take_of_length_le (by omega)
    rw [e]; exact ht
theorem write (h : Row w blk cap xs W) (s : Nat) (ys : List S84) (hs : s ≤ xs.length) (hc : s + ys.length ≤ cap) : Row w blk cap (xs.take s ++ ys ++ xs.drop (s + ys.length)) (W.setCells blk (s * 5) (flat84 ys)) := by
  obtain ⟨cur, hb, hz, ht⟩ := h.cells
  have hf := h.fits
  obtain ⟨cur', h1, h2, h3⟩ := sets_blk blk (flat84 ys) (s * 5) W cur hb (by rw [flat_len]; omega)
  have hl : (xs.take s ++ ys ++ xs.drop (s + ys.length)).length ≤ cap := by simp; omega
  refine ⟨grownBy_trans h.grown (grownBy_sets blk _ _ W), ⟨cur', h1, by omega, ?_⟩, hl⟩
  apply List.ext_getElem?
  intro q
  by_cases hq : q < (xs.take s ++ ys ++ xs.drop (s + ys.length)).length * 5
  · rw [List.getElem?_take_of_lt hq, Array.getElem?_toList, h3 q, flat_get (xs.take s ++ ys ++ xs.drop (s + ys.length)) q]
    have hq2 : q / 5 < (xs.take s ++ ys ++ xs.drop (s + ys.length)).length := by omega
    simp only [flat_len]
    have hlt : (xs.take s).length = s := by rw [List.length_take]; omega
    by_cases c : s * 5 ≤ q ∧ q < s * 5 + ys.length * 5
    · rw [if_pos c, flat_get ys, List.append_assoc, List.getElem?_append_right (by omega), hlt, List.getElem?_append_left (by omega)]
      rw [show (q - s * 5) / 5 = q / 5 - s by omega, show (q - s * 5) % 5 = q % 5 by omega]
    · rw [if_neg c]
      have old : ∀ q, q < xs.length * 5 → cur[q]? = (xs[q / 5]?).bind fun x => (enc84 x)[q % 5]? := fun q hq => by
        rw [← flat_get, ← ht, List.getElem?_take_of_lt hq, Array.getElem?_toList]
      by_cases c2 : q < s * 5
      · rw [old q (by omega), List.append_assoc, List.getElem?_append_left (by omega), List.getElem?_take_of_lt (by omega)]
      · rw [List.getElem?_append_right (by simp; omega), List.length_append, hlt, List.getElem?_drop, show s + ys.length + (q / 5 - (s + ys.length)) = q / 5 by omega]
        have : q / 5 < xs.length := by simp at hq2; omega
        rw [old q (by omega)]
  · rw [List.getElem?_eq_none (by rw [List.length_take]; omega), List.getElem?_eq_none (by rw [flat_len]; omega)]
theorem set (h : Row w blk cap xs W) (i : Nat) (hi : i < xs.length) (x : S84) : Row w blk cap (xs.set i x) (((((W.setCell ⟨blk, i * 5, none⟩ (.int .i64 x.f0)).setCell ⟨blk, i * 5 + 1, none⟩ (.int .i64 x.f1)).setCell ⟨blk, i * 5 + 2, none⟩ (.int .i64 x.f2)).setCell ⟨blk, i * 5 + 3, none⟩ (.int .i64 x.f3)).setCell ⟨blk, i * 5 + 4, none⟩ (.bool x.f4)) := by
  have := h.write i [x] (by omega) (by have := h.fits; simp; omega)
  have e : xs.take i ++ [x] ++ xs.drop (i + [x].length) = xs.set i x := by
    rw [List.set_eq_take_append_cons_drop, if_pos hi]; simp
  rw [e] at this
  exact this
theorem toR (h : Row w blk cap xs W) {base : Nat} {ok : Nat → Prop} (hbase : base ≤ blk) (hok : ok blk) (hm : cap ≤ maxLen) : Kd.R k84 84 W base ok (.slice (some ⟨blk, 0, none⟩) xs.length cap) xs := by
  obtain ⟨cur, hb, hz, ht⟩ := h.cells
  refine ⟨fun q hq => by cases hq; exact hok, (flatK enc84 5 xs.toArray).toList, ⟨by simp [show k84.sz = 5 from rfl], .inr ⟨blk, cap, cur, rfl, hbase, hb, h.fits, hm, by rw [hz]; rfl, ?_⟩⟩, SrtK.reps_flat (enc := enc84) (k := 5) (fun _ => rfl) (by decide) (fun x => k84_mkM _ _ _ x) xs⟩
  rw [flatK_eq]; exact ht
end Row
theorem Row.ofR {w : World} {base : Nat} {ok : Nat → Prop} {u : Value} {xs : List S84} (h : Kd.R k84 84 w base ok u xs) : (u = .slice none 0 0 ∧ xs = []) ∨ ∃ g cap, u = .slice (some ⟨g, 0, none⟩) xs.length cap ∧ ok g ∧ base ≤ g ∧ cap ≤ maxLen ∧ Row w g cap xs w := by
  rcases SrtK.R_parts (enc := enc84) (k := 5) (fun _ => rfl) (by decide) rfl (fun w base ok x cs h => k84_openM h) h with h | ⟨g, cap, cur, rfl, hokg, hgb, hb, h2, h3, h4, h5⟩
  · exact .inl h
  · exact .inr ⟨g, cap, rfl, hokg, hgb, h3, Row.start hb h4 h2 h5⟩
theorem zeros84 (n : Nat) : (Builtin.zeroCells (Value.agg #[.int .i64 0, .int .i64 0, .int .i64 0, .int .i64 0, .bool false]).cells n).toList = flat84 (List.replicate n z84) := by
  apply List.ext_getElem?
  intro i
  rw [flat_get]
  by_cases h : i < n * 5
  · have h3 : i % 5 = 0 ∨ i % 5 = 1 ∨ i % 5 = 2 ∨ i % 5 = 3 ∨ i % 5 = 4 := by omega
    rw [List.getElem?_replicate, if_pos (by omega)]
    rcases h3 with h3 | h3 | h3 | h3 | h3 <;> simp [Builtin.zeroCells, Value.cells, h3, h, enc84, z84]
  · rw [List.getElem?_eq_none (by simp [Builtin.zeroCells, Value.cells]; omega), List.getElem?_replicate, if_neg (by omega)]; rfl
theorem clear84 {w W : World} {blk cap : Nat} {xs : List S84} (h : Row w blk cap xs W) (i c : Nat) (hi : i < xs.length) (ty : TypeId) :
    (Builtin.clear_ #[60] ty #[.slice (some ⟨blk, i * 5, none⟩) (xs.length - i) c]).run Try.prog W = .ok (.tuple #[]) (W.setCells blk (i * 5) (flat84 (List.replicate (xs.length - i) z84))) := by
  have hf := h.fits
  have hst := run_storeCells_cells (P := Try.prog) blk (i * 5) (flat84 (List.replicate (xs.length - i) z84)) 0 W (fun j hj => (h.spare _ (by simp at hj; omega)).1) (fun j hj => (h.spare _ (by simp at hj; omega)).2) (flat_one _)
  rw [Nat.add_zero] at hst
  obtain ⟨m, hm⟩ : ∃ m, xs.length - i = m + 1 := ⟨xs.length - i - 1, by omega⟩
  rw [hm] at hst ⊢
  simp [Builtin.clear_, run_underlying Try.underlying60, Try.zeroValue84, zeros84, hst]
end Go.Proofs.Ytjhkbmdblfdlnaa.QRlb
namespace Go.Proofs.Ytjhkbmdblfdlnaa.QRlb
open Go.RowKit Go.Proofs.YtjhkbmdblfdlnaaW.PrintWords Go.Proofs.YtjhkbmdblfdlnaaW.PrintLast Go.Proofs.YtjhkbmdblfdlnaaW.PrintMore
set_option linter.unusedVariables false
set_option linter.unusedSimpArgs false
def lay5 (W : World) (gb : Nat) (x : S84) : World := ((((W.setCell ⟨gb, 0, none⟩ (.int .i64 x.f0)).setCell ⟨gb, 1, none⟩ (.int .i64 x.f1)).setCell ⟨gb, 2, none⟩ (.int .i64 x.f2)).setCell ⟨gb, 3, none⟩ (.int .i64 x.f3)).setCell ⟨gb, 4, none⟩ (.bool x.f4)
theorem lay5_below {w W : World} {gb : Nat} (h : Below w.heap.size w W) (hg : w.heap.size ≤ gb) (x : S84) : Below w.heap.size w (lay5 W gb x) := below_set (below_set (below_set (below_set (below_set h hg) hg) hg) hg) hg
theorem lay5_blk {W : World} {gb : Nat} (h : W.heap[gb]? = some (.cells #[.int .i64 0, .int .i64 0, .int .i64 0, .int .i64 0, .bool false] 84 (0, 0))) (x : S84) : (lay5 W gb x).heap[gb]? = some (.cells #[.int .i64 x.f0, .int .i64 x.f1, .int .i64 x.f2, .int .i64 x.f3, .bool x.f4] 84 (0, 0)) :=
  blk_put (blk_put (blk_put (blk_put (blk_put h 0 _ rfl) 1 _ rfl) 2 _ rfl) 3 _ rfl) 4 _ rfl
end Go.Proofs.Ytjhkbmdblfdlnaa.QRlb
namespace Go.Proofs.Ytjhkbmdblfdlnaa.QRlb
open Go.RowKit Go.Proofs.YtjhkbmdblfdlnaaW.PrintWords Go.Proofs.YtjhkbmdblfdlnaaW.PrintLast Go.Proofs.YtjhkbmdblfdlnaaW.PrintMore
attribute [local go_sem] max2_int min2_int max_two min_two max_three min_three max_four min_four
set_option linter.unusedVariables false
set_option linter.unusedSimpArgs false
def addr_Good.f (a0 : Int) : Option (Bool) := if a0 ≥ 0 then (some (decide (a0 ≤ 281474976710655))) else (some false)
set_option maxHeartbeats 8000000 in
set_option maxRecDepth 100000 in
theorem addr_Good.calls (a0 : Int) (r : Bool) (w : World) (h : addr_Good.f a0 = some r) :
    Calls Try.prog 49 #[.int .i64 a0] w fun e w' => e = .returned (.bool r) ∧ Drawn0 w w' := by
  have H : (if a0 ≥ 0 then (some (decide (a0 ≤ 281474976710655))) else (some false)) = some r := h
  clear h
  by_cases c2 : a0 ≥ 0
  · rw [if_pos c2] at H
    have c2b0 : decide (0 ≤ a0) = true := decide_eq_true c2
    clear c2
    obtain rfl := Option.some.inj H
    go_enter Try.func49, Try.ntmps49
    go_wp2
    go_ret
    exact ⟨by first | rfl | (simp; done) | (simp [*]; done), by repeat (first | exact Drawn0.refl _ | apply Drawn0.step)⟩
  · rw [if_neg c2] at H
    have c2b0 : decide (0 ≤ a0) = false := decide_eq_false c2
    clear c2
    obtain rfl := Option.some.inj H
    go_enter Try.func49, Try.ntmps49
    go_wp2
    go_ret
    exact ⟨by first | rfl | (simp; done) | (simp [*]; done), by repeat (first | exact Drawn0.refl _ | apply Drawn0.step)⟩
def addr_Kept.f (a0 : Int) : Option (Bool) := (addr_Good.f a0).bind fun t101 => (if t101 = true then (if (a0 / 16) = 103282638848 then (some true) else (if a0 = 1652522221601 then (some true) else (some (a0 == 1652522221600)))) else (some false))
set_option maxHeartbeats 8000000 in
set_option maxRecDepth 100000 in
theorem addr_Kept.calls (a0 : Int) (r : Bool) (w : World) (h : addr_Kept.f a0 = some r) :
    Calls Try.prog 37 #[.int .i64 a0] w fun e w' => e = .returned (.bool r) ∧ Drawn0 w w' := by
  have H : ((addr_Good.f a0).bind fun t101 => (if t101 = true then (if (a0 / 16) = 103282638848 then (some true) else (if a0 = 1652522221601 then (some true) else (some (a0 == 1652522221600)))) else (some false))) = some r := h
  clear h
  replace H := Option.bind_eq_some_iff.mp H
  obtain ⟨t101, A20, H⟩ := H
  replace H : (if t101 = true then (if (a0 / 16) = 103282638848 then (some true) else (if a0 = 1652522221601 then (some true) else (some (a0 == 1652522221600)))) else (some false)) = some r := H
  have A2 := Aside0.mk A20
  clear A20
  by_cases c3 : t101 = true
  · subst c3
    have H1 : (if (a0 / 16) = 103282638848 then (some true) else (if a0 = 1652522221601 then (some true) else (some (a0 == 1652522221600)))) = some r := by rw [if_pos rfl] at H; exact H
    clear H
    have H := H1
    clear H1
    by_cases c4 : (a0 / 16) = 103282638848
    · rw [if_pos c4] at H
      have c4b0 : ((a0 / 16) == 103282638848) = true := beq_iff_eq.mpr c4
      have c4b1 : ((a0 / 16) != 103282638848) = false := bne_eq_false_iff_eq.mpr c4
      clear c4
      obtain rfl := Option.some.inj H
      go_enter Try.func37, Try.ntmps37
      go_wp2_with (first | ((with_reducible refine gate_callee (f := 49) rfl ?_); refine goesL_ (some 4) rfl rfl Try.func49 (by kernel_rfl) rfl #[.int .i64 a0] rfl (by (try simp only [List.map_toArray, List.map_cons, List.map_nil]); first | done | rfl | (simp only [List.length_drop, List.length_take]; rfl)) ?_; (with_reducible refine (addr_Good.calls a0 true _ A2.out).mono ?_); rintro e w' ⟨rfl, ⟨nd, rfl⟩⟩; refine ⟨_, rfl, ?_⟩))
      go_ret
      exact ⟨by first | rfl | (simp; done) | (simp [*]; done), by repeat (first | exact Drawn0.refl _ | apply Drawn0.step)⟩
    · rw [if_neg c4] at H
      have c4b0 : ((a0 / 16) == 103282638848) = false := beq_eq_false_iff_ne.mpr c4
      have c4b1 : ((a0 / 16) != 103282638848) = true := bne_iff_ne.mpr c4
      by_cases c5 : a0 = 1652522221601
      · rw [if_pos c5] at H
        have c5b0 : (a0 == 1652522221601) = true := beq_iff_eq.mpr c5
        have c5b1 : (a0 != 1652522221601) = false := bne_eq_false_iff_eq.mpr c5
        clear c5
        obtain rfl := Option.some.inj H
        go_enter Try.func37, Try.ntmps37
        go_wp2_with (first | ((with_reducible refine gate_callee (f := 49) rfl ?_); refine goesL_ (some 4) rfl rfl Try.func49 (by kernel_rfl) rfl #[.int .i64 a0] rfl (by (try simp only [List.map_toArray, List.map_cons, List.map_nil]); first | done | rfl | (simp only [List.length_drop, List.length_take]; rfl)) ?_; (with_reducible refine (addr_Good.calls a0 true _ A2.out).mono ?_); rintro e w' ⟨rfl, ⟨nd, rfl⟩⟩; refine ⟨_, rfl, ?_⟩))
        go_ret
        exact ⟨by first | rfl | (simp; done) | (simp [*]; done), by repeat (first | exact Drawn0.refl _ | apply Drawn0.step)⟩
      · rw [if_neg c5] at H
        have c5b0 : (a0 == 1652522221601) = false := beq_eq_false_iff_ne.mpr c5
        have c5b1 : (a0 != 1652522221601) = true := bne_iff_ne.mpr c5
        obtain rfl := Option.some.inj H
        go_enter Try.func37, Try.ntmps37
        go_wp2_with (first | ((with_reducible refine gate_callee (f := 49) rfl ?_); refine goesL_ (some 4) rfl rfl Try.func49 (by kernel_rfl) rfl #[.int .i64 a0] rfl (by (try simp only [List.map_toArray, List.map_cons, List.map_nil]); first | done | rfl | (simp only [List.length_drop, List.length_take]; rfl)) ?_; (with_reducible refine (addr_Good.calls a0 true _ A2.out).mono ?_); rintro e w' ⟨rfl, ⟨nd, rfl⟩⟩; refine ⟨_, rfl, ?_⟩))
        go_ret
        exact ⟨by first | rfl | (simp; done) | (simp [*]; done), by repeat (first | exact Drawn0.refl _ | apply Drawn0.step)⟩
  · replace c3 := Bool.eq_false_iff.mpr c3
    subst c3
    have H1 : (some false) = some r := by rw [if_neg (show ¬ (false = true) by decide)] at H; exact H
    clear H
    have H := H1
    clear H1
    obtain rfl := Option.some.inj H
    go_enter Try.func37, Try.ntmps37
    go_wp2_with (first | ((with_reducible refine gate_callee (f := 49) rfl ?_); refine goesL_ (some 4) rfl rfl Try.func49 (by kernel_rfl) rfl #[.int .i64 a0] rfl (by (try simp only [List.map_toArray, List.map_cons, List.map_nil]); first | done | rfl | (simp only [List.length_drop, List.length_take]; rfl)) ?_; (with_reducible refine (addr_Good.calls a0 false _ A2.out).mono ?_); rintro e w' ⟨rfl, ⟨nd, rfl⟩⟩; refine ⟨_, rfl, ?_⟩))
    go_ret
    exact ⟨by first | rfl | (simp; done) | (simp [*]; done), by repeat (first | exact Drawn0.refl _ | apply Drawn0.step)⟩
def addr_Many.f (a0 : Int) : Option (Bool) := (addr_Good.f a0).bind fun t102 => (if t102 = true then (some ((Go.bits .and .i64 (a0 / 1099511627776) 1) == 1)) else (some false))
set_option maxHeartbeats 8000000 in
set_option maxRecDepth 100000 in
theorem addr_Many.calls (a0 : Int) (r : Bool) (w : World) (h : addr_Many.f a0 = some r) :
    Calls Try.prog 50 #[.int .i64 a0] w fun e w' => e = .returned (.bool r) ∧ Drawn0 w w' := by
  have H : ((addr_Good.f a0).bind fun t102 => (if t102 = true then (some ((Go.bits .and .i64 (a0 / 1099511627776) 1) == 1)) else (some false))) = some r := h
  clear h
  replace H := Option.bind_eq_some_iff.mp H
  obtain ⟨t102, A20, H⟩ := H
  replace H : (if t102 = true then (some ((Go.bits .and .i64 (a0 / 1099511627776) 1) == 1)) else (some false)) = some r := H
  have A2 := Aside0.mk A20
  clear A20
  by_cases c3 : t102 = true
  · subst c3
    have H1 : (some ((Go.bits .and .i64 (a0 / 1099511627776) 1) == 1)) = some r := by rw [if_pos rfl] at H; exact H
    clear H
    have H := H1
    clear H1
    obtain rfl := Option.some.inj H
    go_enter Try.func50, Try.ntmps50
    go_wp2_with (first | ((with_reducible refine gate_callee (f := 49) rfl ?_); refine goesL_ (some 4) rfl rfl Try.func49 (by kernel_rfl) rfl #[.int .i64 a0] rfl (by (try simp only [List.map_toArray, List.map_cons, List.map_nil]); first | done | rfl | (simp only [List.length_drop, List.length_take]; rfl)) ?_; (with_reducible refine (addr_Good.calls a0 true _ A2.out).mono ?_); rintro e w' ⟨rfl, ⟨nd, rfl⟩⟩; refine ⟨_, rfl, ?_⟩))
    go_ret
    exact ⟨by first | rfl | (simp; done) | (simp [*]; done), by repeat (first | exact Drawn0.refl _ | apply Drawn0.step)⟩
  · replace c3 := Bool.eq_false_iff.mpr c3
    subst c3
    have H1 : (some false) = some r := by rw [if_neg (show ¬ (false = true) by decide)] at H; exact H
    clear H
    have H := H1
    clear H1
    obtain rfl := Option.some.inj H
    go_enter Try.func50, Try.ntmps50
    go_wp2_with (first | ((with_reducible refine gate_callee (f := 49) rfl ?_); refine goesL_ (some 4) rfl rfl Try.func49 (by kernel_rfl) rfl #[.int .i64 a0] rfl (by (try simp only [List.map_toArray, List.map_cons, List.map_nil]); first | done | rfl | (simp only [List.length_drop, List.length_take]; rfl)) ?_; (with_reducible refine (addr_Good.calls a0 false _ A2.out).mono ?_); rintro e w' ⟨rfl, ⟨nd, rfl⟩⟩; refine ⟨_, rfl, ?_⟩))
    go_ret
    exact ⟨by first | rfl | (simp; done) | (simp [*]; done), by repeat (first | exact Drawn0.refl _ | apply Drawn0.step)⟩
def addr_Type.f (a0 : Int) : Option (Bool) := if a0 ≥ 1536 then (some (decide (a0 ≤ 65535))) else (some false)
set_option maxHeartbeats 8000000 in
set_option maxRecDepth 100000 in
theorem addr_Type.calls (a0 : Int) (r : Bool) (w : World) (h : addr_Type.f a0 = some r) :
    Calls Try.prog 51 #[.int .i64 a0] w fun e w' => e = .returned (.bool r) ∧ Drawn0 w w' := by
  have H : (if a0 ≥ 1536 then (some (decide (a0 ≤ 65535))) else (some false)) = some r := h
  clear h
  by_cases c2 : a0 ≥ 1536
  · rw [if_pos c2] at H
    have c2b0 : decide (1536 ≤ a0) = true := decide_eq_true c2
    clear c2
    obtain rfl := Option.some.inj H
    go_enter Try.func51, Try.ntmps51
    go_wp2
    go_ret
    exact ⟨by first | rfl | (simp; done) | (simp [*]; done), by repeat (first | exact Drawn0.refl _ | apply Drawn0.step)⟩
  · rw [if_neg c2] at H
    have c2b0 : decide (1536 ≤ a0) = false := decide_eq_false c2
    clear c2
    obtain rfl := Option.some.inj H
    go_enter Try.func51, Try.ntmps51
    go_wp2
    go_ret
    exact ⟨by first | rfl | (simp; done) | (simp [*]; done), by repeat (first | exact Drawn0.refl _ | apply Drawn0.step)⟩
end Go.Proofs.Ytjhkbmdblfdlnaa.QRlb
namespace Go.Proofs.Ytjhkbmdblfdlnaa.QRlb
open Go.RowKit Go.Proofs.YtjhkbmdblfdlnaaW.PrintWords Go.Proofs.YtjhkbmdblfdlnaaW.PrintLast Go.Proofs.YtjhkbmdblfdlnaaW.PrintMore
attribute [local go_sem] max2_int min2_int max_two min_two max_three min_three max_four min_four
set_option linter.unusedVariables false
set_option linter.unusedSimpArgs false
mutual
def frame_Good.j0 : Nat → Bool → Int → Int → Bool → Int → Int → Int → ByteArray → Option (Bool)
  | 0, _, _, _, _, _, _, _, _ => none
  | k + 1, x3, x104000, x104001, x104002, x104003, x104004, x104005, x104006 => if x3 = true then (some false) else (if x104002 = true then (if x104003 < 0 then (frame_Good.j1 k true x104000 x104001 x104002 x104003 x104004 x104005 x104006) else (if x104003 > 4094 then (frame_Good.j1 k true x104000 x104001 x104002 x104003 x104004 x104005 x104006) else (if x104004 < 0 then (frame_Good.j1 k true x104000 x104001 x104002 x104003 x104004 x104005 x104006) else (frame_Good.j1 k (decide (x104004 > 7)) x104000 x104001 x104002 x104003 x104004 x104005 x104006)))) else (frame_Good.j1 k false x104000 x104001 x104002 x104003 x104004 x104005 x104006))
def frame_Good.j1 : Nat → Bool → Int → Int → Bool → Int → Int → Int → ByteArray → Option (Bool)
  | 0, _, _, _, _, _, _, _, _ => none
  | k + 1, x25, x104000, x104001, x104002, x104003, x104004, x104005, x104006 => if x25 = true then (some false) else (if x104002 = true then (if x104005 = 0 then (some true) else ((addr_Type.f x104005).bind fun t107 => (if t107 = true then (some (x104005 != 33024)) else (some false)))) else (if x104003 = 0 then (if x104004 = 0 then (if x104005 = 0 then (some true) else ((addr_Type.f x104005).bind fun t108 => (if t108 = true then (some (x104005 != 33024)) else (some false)))) else (some false)) else (some false)))
end
def frame_Good.f (k : Nat) (a0_0 : Int) (a0_1 : Int) (a0_2 : Bool) (a0_3 : Int) (a0_4 : Int) (a0_5 : Int) (a0_6 : ByteArray) : Option (Bool) := (addr_Good.f a0_0).bind fun t104 => (if t104 = true then ((addr_Good.f a0_1).bind fun t105 => (if t105 = true then ((addr_Many.f a0_1).bind fun t106 => (if t106 = true then (frame_Good.j0 k true a0_0 a0_1 a0_2 a0_3 a0_4 a0_5 a0_6) else (frame_Good.j0 k (decide ((a0_6.size : Int) > 400)) a0_0 a0_1 a0_2 a0_3 a0_4 a0_5 a0_6))) else (frame_Good.j0 k true a0_0 a0_1 a0_2 a0_3 a0_4 a0_5 a0_6))) else (frame_Good.j0 k true a0_0 a0_1 a0_2 a0_3 a0_4 a0_5 a0_6))
theorem frame_Good.mono_l : ∀ k, (∀ y0 y1 y2 y3 y4 y5 y6 y7, LeO (frame_Good.j0 k y0 y1 y2 y3 y4 y5 y6 y7) (frame_Good.j0 (k + 1) y0 y1 y2 y3 y4 y5 y6 y7)) ∧ (∀ y0 y1 y2 y3 y4 y5 y6 y7, LeO (frame_Good.j1 k y0 y1 y2 y3 y4 y5 y6 y7) (frame_Good.j1 (k + 1) y0 y1 y2 y3 y4 y5 y6 y7))
  | 0 => ⟨fun _ _ _ _ _ _ _ _ r h => by simp [frame_Good.j0] at h, fun _ _ _ _ _ _ _ _ r h => by simp [frame_Good.j1] at h⟩
  | k + 1 => by
    obtain ⟨ih0, ih1⟩ := frame_Good.mono_l k
    refine ⟨?_, ?_⟩
    · intro y0 y1 y2 y3 y4 y5 y6 y7
      unfold frame_Good.j0
      repeat' first
      | (with_reducible exact ih0 _ _ _ _ _ _ _ _)
      | (with_reducible exact ih1 _ _ _ _ _ _ _ _)
      | (with_reducible exact LeO.refl _)
      | (with_reducible exact LeO.none _)
      | (with_reducible refine LeO.ite ?_ ?_)
      | (with_reducible refine LeO.bind ?_ (fun _ => ?_))
      | exact ih0 _ _ _ _ _ _ _ _
      | exact ih1 _ _ _ _ _ _ _ _
      | exact LeO.none _
      | refine LeO.ite ?_ ?_
      | refine LeO.bind ?_ (fun _ => ?_)
    · intro y0 y1 y2 y3 y4 y5 y6 y7
      unfold frame_Good.j1
      repeat' first
      | (with_reducible exact ih0 _ _ _ _ _ _ _ _)
      | (with_reducible exact ih1 _ _ _ _ _ _ _ _)
      | (with_reducible exact LeO.refl _)
      | (with_reducible exact LeO.none _)
      | (with_reducible refine LeO.ite ?_ ?_)
      | (with_reducible refine LeO.bind ?_ (fun _ => ?_))
      | exact ih0 _ _ _ _ _ _ _ _
      | exact ih1 _ _ _ _ _ _ _ _
      | exact LeO.none _
      | refine LeO.ite ?_ ?_
      | refine LeO.bind ?_ (fun _ => ?_)
theorem frame_Good.mono : ∀ a0 a1 a2 a3 a4 a5 a6 k, LeO (frame_Good.f k a0 a1 a2 a3 a4 a5 a6) (frame_Good.f (k + 1) a0 a1 a2 a3 a4 a5 a6) := by
  intro a0 a1 a2 a3 a4 a5 a6 k
  obtain ⟨ih0, ih1⟩ := frame_Good.mono_l k
  unfold frame_Good.f
  repeat' first
      | (with_reducible exact ih0 _ _ _ _ _ _ _ _)
      | (with_reducible exact ih1 _ _ _ _ _ _ _ _)
      | (with_reducible exact LeO.refl _)
      | (with_reducible exact LeO.none _)
      | (with_reducible refine LeO.ite ?_ ?_)
      | (with_reducible refine LeO.bind ?_ (fun _ => ?_))
      | exact ih0 _ _ _ _ _ _ _ _
      | exact ih1 _ _ _ _ _ _ _ _
      | exact LeO.none _
      | refine LeO.ite ?_ ?_
      | refine LeO.bind ?_ (fun _ => ?_)
set_option maxHeartbeats 8000000 in
set_option maxRecDepth 100000 in
theorem frame_Good.calls (k : Nat) (a0_0 : Int) (a0_1 : Int) (a0_2 : Bool) (a0_3 : Int) (a0_4 : Int) (a0_5 : Int) (a0_6 : ByteArray) (r : Bool) (w : World) (h : frame_Good.f k a0_0 a0_1 a0_2 a0_3 a0_4 a0_5 a0_6 = some r) :
    Calls Try.prog 38 #[.agg #[.int .i64 a0_0, .int .i64 a0_1, .bool a0_2, .int .i64 a0_3, .int .i64 a0_4, .int .i64 a0_5, .string a0_6]] w fun e w' => e = .returned (.bool r) ∧ Below w.heap.size w w' := by
  have hu49 := Try.underlying49
  have HB := Aside0.mk (Below.refl w.heap.size w)
  have H : ((addr_Good.f a0_0).bind fun t104 => (if t104 = true then ((addr_Good.f a0_1).bind fun t105 => (if t105 = true then ((addr_Many.f a0_1).bind fun t106 => (if t106 = true then (frame_Good.j0 k true a0_0 a0_1 a0_2 a0_3 a0_4 a0_5 a0_6) else (frame_Good.j0 k (decide ((a0_6.size : Int) > 400)) a0_0 a0_1 a0_2 a0_3 a0_4 a0_5 a0_6))) else (frame_Good.j0 k true a0_0 a0_1 a0_2 a0_3 a0_4 a0_5 a0_6))) else (frame_Good.j0 k true a0_0 a0_1 a0_2 a0_3 a0_4 a0_5 a0_6))) = some r := h
  clear h
  have HC2 := Aside0.mk H
  clear H
  go_enter Try.func38, Try.ntmps38
  go_upto_region 1 with (first | ((with_reducible refine gate_dst (N := 1) rfl ?_); (try (refine gate_guard (by rfl) ?_; dsimp only)); refine box_event ?hg (N := 1) ?hd (cs := #[.int .i64 a0_0, .int .i64 a0_1, .bool a0_2, .int .i64 a0_3, .int .i64 a0_4, .int .i64 a0_5, .string a0_6]) (t := 49) ?hr ?_; (case hd => rfl); (case hg => rfl); (case hr => first | (go_simp; done) | (go_simp; rfl)); intro gb103 hg w3 hbox hb; have n0_ := Aside0.mk (below_step (by repeat (first | (with_reducible first | exact HB.out | apply below_alloc | apply pw_below_drewN | apply below_drew1) | exact HB.out)) hb); have n1_ := Aside0.mk (hbox); have n2_ := Aside0.mk ((by rw [hg]; exact (below_size (by repeat (first | (with_reducible first | exact HB.out | apply below_alloc | apply pw_below_drewN | apply below_drew1) | exact HB.out))) : w.heap.size ≤ gb103)); have n3_ := Aside0.mk ((by rw [hg]; exact (below_size (by repeat (first | (with_reducible first | exact HB.out | apply below_alloc | apply pw_below_drewN | apply below_drew1) | exact HB.out))) : w.heap.size ≤ gb103)); clear HB; have HB := n0_; have BK103 := n1_; have GW103 := n2_; have GE103 := n3_; clear n0_ n1_ n2_ n3_; clear hb hbox hg))
  (try simp only [Act.put, List.setIfInBounds_toArray, List.set_cons_zero, List.set_cons_succ])
  go_cut [3] (fun v3 wc => ∃ (kq : Nat) (x3_1 : Bool), v3 = .bool x3_1 ∧ Aside0 (frame_Good.j0 kq x3_1 a0_0 a0_1 a0_2 a0_3 a0_4 a0_5 a0_6 = some r) ∧ Aside0 (kq ≤ k) ∧ Aside0 (wc.heap[gb103]? = some (.cells #[.int .i64 a0_0, .int .i64 a0_1, .bool a0_2, .int .i64 a0_3, .int .i64 a0_4, .int .i64 a0_5, .string a0_6] 49 (0, 0))) ∧ Aside0 (Below w.heap.size w wc))
  case first =>
    have H := HC2.out
    clear HC2
    replace H := Option.bind_eq_some_iff.mp H
    obtain ⟨t104, A40, H⟩ := H
    replace H : (if t104 = true then ((addr_Good.f a0_1).bind fun t105 => (if t105 = true then ((addr_Many.f a0_1).bind fun t106 => (if t106 = true then (frame_Good.j0 k true a0_0 a0_1 a0_2 a0_3 a0_4 a0_5 a0_6) else (frame_Good.j0 k (decide ((a0_6.size : Int) > 400)) a0_0 a0_1 a0_2 a0_3 a0_4 a0_5 a0_6))) else (frame_Good.j0 k true a0_0 a0_1 a0_2 a0_3 a0_4 a0_5 a0_6))) else (frame_Good.j0 k true a0_0 a0_1 a0_2 a0_3 a0_4 a0_5 a0_6)) = some r := H
    have A4 := Aside0.mk A40
    clear A40
    by_cases c5 : t104 = true
    · subst c5
      have H1 : ((addr_Good.f a0_1).bind fun t105 => (if t105 = true then ((addr_Many.f a0_1).bind fun t106 => (if t106 = true then (frame_Good.j0 k true a0_0 a0_1 a0_2 a0_3 a0_4 a0_5 a0_6) else (frame_Good.j0 k (decide ((a0_6.size : Int) > 400)) a0_0 a0_1 a0_2 a0_3 a0_4 a0_5 a0_6))) else (frame_Good.j0 k true a0_0 a0_1 a0_2 a0_3 a0_4 a0_5 a0_6))) = some r := by rw [if_pos rfl] at H; exact H
      clear H
      have H := H1
      clear H1
      replace H := Option.bind_eq_some_iff.mp H
      obtain ⟨t105, A60, H⟩ := H
      replace H : (if t105 = true then ((addr_Many.f a0_1).bind fun t106 => (if t106 = true then (frame_Good.j0 k true a0_0 a0_1 a0_2 a0_3 a0_4 a0_5 a0_6) else (frame_Good.j0 k (decide ((a0_6.size : Int) > 400)) a0_0 a0_1 a0_2 a0_3 a0_4 a0_5 a0_6))) else (frame_Good.j0 k true a0_0 a0_1 a0_2 a0_3 a0_4 a0_5 a0_6)) = some r := H
      have A6 := Aside0.mk A60
      clear A60
      by_cases c7 : t105 = true
      · subst c7
        have H1 : ((addr_Many.f a0_1).bind fun t106 => (if t106 = true then (frame_Good.j0 k true a0_0 a0_1 a0_2 a0_3 a0_4 a0_5 a0_6) else (frame_Good.j0 k (decide ((a0_6.size : Int) > 400)) a0_0 a0_1 a0_2 a0_3 a0_4 a0_5 a0_6))) = some r := by rw [if_pos rfl] at H; exact H
        clear H
        have H := H1
        clear H1
        replace H := Option.bind_eq_some_iff.mp H
        obtain ⟨t106, A80, H⟩ := H
        replace H : (if t106 = true then (frame_Good.j0 k true a0_0 a0_1 a0_2 a0_3 a0_4 a0_5 a0_6) else (frame_Good.j0 k (decide ((a0_6.size : Int) > 400)) a0_0 a0_1 a0_2 a0_3 a0_4 a0_5 a0_6)) = some r := H
        have A8 := Aside0.mk A80
        clear A80
        by_cases c9 : t106 = true
        · subst c9
          have H1 : (frame_Good.j0 k true a0_0 a0_1 a0_2 a0_3 a0_4 a0_5 a0_6) = some r := by rw [if_pos rfl] at H; exact H
          clear H
          have H := H1
          clear H1
          have H' := Aside0.mk H
          clear H
          have hcz10_0 : w3.cell? ⟨gb103, 0, none⟩ = some (.int .i64 a0_0) := (blk_cell BK103.out 0).trans rfl
          have hcz10_1 : w3.cell? ⟨gb103, 1, none⟩ = some (.int .i64 a0_1) := (blk_cell BK103.out 1).trans rfl
          have hcz10_2 : w3.cell? ⟨gb103, 2, none⟩ = some (.bool a0_2) := (blk_cell BK103.out 2).trans rfl
          have hcz10_3 : w3.cell? ⟨gb103, 3, none⟩ = some (.int .i64 a0_3) := (blk_cell BK103.out 3).trans rfl
          have hcz10_4 : w3.cell? ⟨gb103, 4, none⟩ = some (.int .i64 a0_4) := (blk_cell BK103.out 4).trans rfl
          have hcz10_5 : w3.cell? ⟨gb103, 5, none⟩ = some (.int .i64 a0_5) := (blk_cell BK103.out 5).trans rfl
          have hcz10_6 : w3.cell? ⟨gb103, 6, none⟩ = some (.string a0_6) := (blk_cell BK103.out 6).trans rfl
          have hfz10_0 := blk_frozen BK103.out 0
          have hfz10_1 := blk_frozen BK103.out 1
          have hfz10_2 := blk_frozen BK103.out 2
          have hfz10_3 := blk_frozen BK103.out 3
          have hfz10_4 := blk_frozen BK103.out 4
          have hfz10_5 := blk_frozen BK103.out 5
          have hfz10_6 := blk_frozen BK103.out 6
          go_wp2_with (first | ((with_reducible refine gate_callee (f := 49) rfl ?_); refine goesL_ (some 6) rfl rfl Try.func49 (by kernel_rfl) rfl #[.int .i64 a0_0] rfl (by (try simp only [List.map_toArray, List.map_cons, List.map_nil]); first | done | rfl | (simp only [List.length_drop, List.length_take]; rfl)) ?_; (with_reducible refine (addr_Good.calls a0_0 true _ A4.out).mono ?_); rintro e w' ⟨rfl, ⟨nd, rfl⟩⟩; refine ⟨_, rfl, ?_⟩) | (go_at_call 49; (with_reducible refine (addr_Good.calls a0_1 true _ A6.out).mono ?_); rintro e w' ⟨rfl, ⟨nd, rfl⟩⟩) | (go_at_call 50; (with_reducible refine (addr_Many.calls a0_1 true _ A8.out).mono ?_); rintro e w' ⟨rfl, ⟨nd, rfl⟩⟩))
          go_meet
          case rel => exact ⟨_, (true), (by first | rfl | (simp; done) | (simp [*]; done)), H', ⟨by first | omega | exact Nat.le_refl _⟩, ⟨by (with_reducible repeat (first | refine blk_drewN ?_ _ | refine blk_drew ?_ | refine blk_alloc ?_ _)); exact BK103.out⟩, ⟨by repeat (first | (with_reducible first | exact HB.out | apply below_alloc | apply pw_below_drewN | apply below_drew1 | refine below_set ?_ GE103.out) | exact HB.out)⟩⟩
        · replace c9 := Bool.eq_false_iff.mpr c9
          subst c9
          have H1 : (frame_Good.j0 k (decide ((a0_6.size : Int) > 400)) a0_0 a0_1 a0_2 a0_3 a0_4 a0_5 a0_6) = some r := by rw [if_neg (show ¬ (false = true) by decide)] at H; exact H
          clear H
          have H := H1
          clear H1
          have H' := Aside0.mk H
          clear H
          have hcz11_0 : w3.cell? ⟨gb103, 0, none⟩ = some (.int .i64 a0_0) := (blk_cell BK103.out 0).trans rfl
          have hcz11_1 : w3.cell? ⟨gb103, 1, none⟩ = some (.int .i64 a0_1) := (blk_cell BK103.out 1).trans rfl
          have hcz11_2 : w3.cell? ⟨gb103, 2, none⟩ = some (.bool a0_2) := (blk_cell BK103.out 2).trans rfl
          have hcz11_3 : w3.cell? ⟨gb103, 3, none⟩ = some (.int .i64 a0_3) := (blk_cell BK103.out 3).trans rfl
          have hcz11_4 : w3.cell? ⟨gb103, 4, none⟩ = some (.int .i64 a0_4) := (blk_cell BK103.out 4).trans rfl
          have hcz11_5 : w3.cell? ⟨gb103, 5, none⟩ = some (.int .i64 a0_5) := (blk_cell BK103.out 5).trans rfl
          have hcz11_6 : w3.cell? ⟨gb103, 6, none⟩ = some (.string a0_6) := (blk_cell BK103.out 6).trans rfl
          have hfz11_0 := blk_frozen BK103.out 0
          have hfz11_1 := blk_frozen BK103.out 1
          have hfz11_2 := blk_frozen BK103.out 2
          have hfz11_3 := blk_frozen BK103.out 3
          have hfz11_4 := blk_frozen BK103.out 4
          have hfz11_5 := blk_frozen BK103.out 5
          have hfz11_6 := blk_frozen BK103.out 6
          go_wp2_with (first | ((with_reducible refine gate_callee (f := 49) rfl ?_); refine goesL_ (some 6) rfl rfl Try.func49 (by kernel_rfl) rfl #[.int .i64 a0_0] rfl (by (try simp only [List.map_toArray, List.map_cons, List.map_nil]); first | done | rfl | (simp only [List.length_drop, List.length_take]; rfl)) ?_; (with_reducible refine (addr_Good.calls a0_0 true _ A4.out).mono ?_); rintro e w' ⟨rfl, ⟨nd, rfl⟩⟩; refine ⟨_, rfl, ?_⟩) | (go_at_call 49; (with_reducible refine (addr_Good.calls a0_1 true _ A6.out).mono ?_); rintro e w' ⟨rfl, ⟨nd, rfl⟩⟩) | (go_at_call 50; (with_reducible refine (addr_Many.calls a0_1 false _ A8.out).mono ?_); rintro e w' ⟨rfl, ⟨nd, rfl⟩⟩))
          go_meet
          case rel => exact ⟨_, (decide ((a0_6.size : Int) > 400)), (by first | rfl | (simp; done) | (simp [*]; done)), H', ⟨by first | omega | exact Nat.le_refl _⟩, ⟨by (with_reducible repeat (first | refine blk_drewN ?_ _ | refine blk_drew ?_ | refine blk_alloc ?_ _)); exact BK103.out⟩, ⟨by repeat (first | (with_reducible first | exact HB.out | apply below_alloc | apply pw_below_drewN | apply below_drew1 | refine below_set ?_ GE103.out) | exact HB.out)⟩⟩
      · replace c7 := Bool.eq_false_iff.mpr c7
        subst c7
        have H1 : (frame_Good.j0 k true a0_0 a0_1 a0_2 a0_3 a0_4 a0_5 a0_6) = some r := by rw [if_neg (show ¬ (false = true) by decide)] at H; exact H
        clear H
        have H := H1
        clear H1
        have H' := Aside0.mk H
        clear H
        have hcz12_0 : w3.cell? ⟨gb103, 0, none⟩ = some (.int .i64 a0_0) := (blk_cell BK103.out 0).trans rfl
        have hcz12_1 : w3.cell? ⟨gb103, 1, none⟩ = some (.int .i64 a0_1) := (blk_cell BK103.out 1).trans rfl
        have hcz12_2 : w3.cell? ⟨gb103, 2, none⟩ = some (.bool a0_2) := (blk_cell BK103.out 2).trans rfl
        have hcz12_3 : w3.cell? ⟨gb103, 3, none⟩ = some (.int .i64 a0_3) := (blk_cell BK103.out 3).trans rfl
        have hcz12_4 : w3.cell? ⟨gb103, 4, none⟩ = some (.int .i64 a0_4) := (blk_cell BK103.out 4).trans rfl
        have hcz12_5 : w3.cell? ⟨gb103, 5, none⟩ = some (.int .i64 a0_5) := (blk_cell BK103.out 5).trans rfl
        have hcz12_6 : w3.cell? ⟨gb103, 6, none⟩ = some (.string a0_6) := (blk_cell BK103.out 6).trans rfl
        have hfz12_0 := blk_frozen BK103.out 0
        have hfz12_1 := blk_frozen BK103.out 1
        have hfz12_2 := blk_frozen BK103.out 2
        have hfz12_3 := blk_frozen BK103.out 3
        have hfz12_4 := blk_frozen BK103.out 4
        have hfz12_5 := blk_frozen BK103.out 5
        have hfz12_6 := blk_frozen BK103.out 6
        go_wp2_with (first | ((with_reducible refine gate_callee (f := 49) rfl ?_); refine goesL_ (some 6) rfl rfl Try.func49 (by kernel_rfl) rfl #[.int .i64 a0_0] rfl (by (try simp only [List.map_toArray, List.map_cons, List.map_nil]); first | done | rfl | (simp only [List.length_drop, List.length_take]; rfl)) ?_; (with_reducible refine (addr_Good.calls a0_0 true _ A4.out).mono ?_); rintro e w' ⟨rfl, ⟨nd, rfl⟩⟩; refine ⟨_, rfl, ?_⟩) | (go_at_call 49; (with_reducible refine (addr_Good.calls a0_1 false _ A6.out).mono ?_); rintro e w' ⟨rfl, ⟨nd, rfl⟩⟩))
        go_meet
        case rel => exact ⟨_, (true), (by first | rfl | (simp; done) | (simp [*]; done)), H', ⟨by first | omega | exact Nat.le_refl _⟩, ⟨by (with_reducible repeat (first | refine blk_drewN ?_ _ | refine blk_drew ?_ | refine blk_alloc ?_ _)); exact BK103.out⟩, ⟨by repeat (first | (with_reducible first | exact HB.out | apply below_alloc | apply pw_below_drewN | apply below_drew1 | refine below_set ?_ GE103.out) | exact HB.out)⟩⟩
    · replace c5 := Bool.eq_false_iff.mpr c5
      subst c5
      have H1 : (frame_Good.j0 k true a0_0 a0_1 a0_2 a0_3 a0_4 a0_5 a0_6) = some r := by rw [if_neg (show ¬ (false = true) by decide)] at H; exact H
      clear H
      have H := H1
      clear H1
      have H' := Aside0.mk H
      clear H
      have hcz13_0 : w3.cell? ⟨gb103, 0, none⟩ = some (.int .i64 a0_0) := (blk_cell BK103.out 0).trans rfl
      have hcz13_1 : w3.cell? ⟨gb103, 1, none⟩ = some (.int .i64 a0_1) := (blk_cell BK103.out 1).trans rfl
      have hcz13_2 : w3.cell? ⟨gb103, 2, none⟩ = some (.bool a0_2) := (blk_cell BK103.out 2).trans rfl
      have hcz13_3 : w3.cell? ⟨gb103, 3, none⟩ = some (.int .i64 a0_3) := (blk_cell BK103.out 3).trans rfl
      have hcz13_4 : w3.cell? ⟨gb103, 4, none⟩ = some (.int .i64 a0_4) := (blk_cell BK103.out 4).trans rfl
      have hcz13_5 : w3.cell? ⟨gb103, 5, none⟩ = some (.int .i64 a0_5) := (blk_cell BK103.out 5).trans rfl
      have hcz13_6 : w3.cell? ⟨gb103, 6, none⟩ = some (.string a0_6) := (blk_cell BK103.out 6).trans rfl
      have hfz13_0 := blk_frozen BK103.out 0
      have hfz13_1 := blk_frozen BK103.out 1
      have hfz13_2 := blk_frozen BK103.out 2
      have hfz13_3 := blk_frozen BK103.out 3
      have hfz13_4 := blk_frozen BK103.out 4
      have hfz13_5 := blk_frozen BK103.out 5
      have hfz13_6 := blk_frozen BK103.out 6
      go_wp2_with (first | ((with_reducible refine gate_callee (f := 49) rfl ?_); refine goesL_ (some 6) rfl rfl Try.func49 (by kernel_rfl) rfl #[.int .i64 a0_0] rfl (by (try simp only [List.map_toArray, List.map_cons, List.map_nil]); first | done | rfl | (simp only [List.length_drop, List.length_take]; rfl)) ?_; (with_reducible refine (addr_Good.calls a0_0 false _ A4.out).mono ?_); rintro e w' ⟨rfl, ⟨nd, rfl⟩⟩; refine ⟨_, rfl, ?_⟩))
      go_meet
      case rel => exact ⟨_, (true), (by first | rfl | (simp; done) | (simp [*]; done)), H', ⟨by first | omega | exact Nat.le_refl _⟩, ⟨by (with_reducible repeat (first | refine blk_drewN ?_ _ | refine blk_drew ?_ | refine blk_alloc ?_ _)); exact BK103.out⟩, ⟨by repeat (first | (with_reducible first | exact HB.out | apply below_alloc | apply pw_below_drewN | apply below_drew1 | refine below_set ?_ GE103.out) | exact HB.out)⟩⟩
  case rest =>
    clear HC2
    try clear p2
    try clear c3
    try clear c4
    try clear c5
    try clear c7
    try clear c9
    try clear hcz10_0
    try clear hcz10_1
    try clear hcz10_2
    try clear hcz10_3
    try clear hcz10_4
    try clear hcz10_5
    try clear hcz10_6
    try clear hcz11_0
    try clear hcz11_1
    try clear hcz11_2
    try clear hcz11_3
    try clear hcz11_4
    try clear hcz11_5
    try clear hcz11_6
    try clear hcz12_0
    try clear hcz12_1
    try clear hcz12_2
    try clear hcz12_3
    try clear hcz12_4
    try clear hcz12_5
    try clear hcz12_6
    try clear hcz13_0
    try clear hcz13_1
    try clear hcz13_2
    try clear hcz13_3
    try clear hcz13_4
    try clear hcz13_5
    try clear hcz13_6
    try clear hfz10_0
    try clear hfz10_1
    try clear hfz10_2
    try clear hfz10_3
    try clear hfz10_4
    try clear hfz10_5
    try clear hfz10_6
    try clear hfz11_0
    try clear hfz11_1
    try clear hfz11_2
    try clear hfz11_3
    try clear hfz11_4
    try clear hfz11_5
    try clear hfz11_6
    try clear hfz12_0
    try clear hfz12_1
    try clear hfz12_2
    try clear hfz12_3
    try clear hfz12_4
    try clear hfz12_5
    try clear hfz12_6
    try clear hfz13_0
    try clear hfz13_1
    try clear hfz13_2
    try clear hfz13_3
    try clear hfz13_4
    try clear hfz13_5
    try clear hfz13_6
    obtain ⟨kq, x3_1, rfl, HA, HJ1, BK103, HB⟩ := hcut
    cases kq with
    | zero => exact absurd HA.out (by simp [frame_Good.j0])
    | succ kj1 =>
      have H := HA.out
      clear HA
      simp only [frame_Good.j0] at H
      by_cases c14 : x3_1 = true
      · subst c14
        have H1 : (some false) = some r := by rw [if_pos rfl] at H; exact H
        clear H
        have H := H1
        clear H1
        obtain rfl := Option.some.inj H
        go_wp2
        go_ret
        exact ⟨by first | rfl | (simp [errW_none, errW_some] <;> rfl) | (simp [*, errW_none, errW_some] <;> rfl), by repeat (first | (with_reducible first | exact HB.out | apply below_alloc | apply pw_below_drewN | apply below_drew1 | refine below_set ?_ GE103.out) | exact HB.out)⟩
      · replace c14 := Bool.eq_false_iff.mpr c14
        subst c14
        have H1 : (if a0_2 = true then (if a0_3 < 0 then (frame_Good.j1 kj1 true a0_0 a0_1 a0_2 a0_3 a0_4 a0_5 a0_6) else (if a0_3 > 4094 then (frame_Good.j1 kj1 true a0_0 a0_1 a0_2 a0_3 a0_4 a0_5 a0_6) else (if a0_4 < 0 then (frame_Good.j1 kj1 true a0_0 a0_1 a0_2 a0_3 a0_4 a0_5 a0_6) else (frame_Good.j1 kj1 (decide (a0_4 > 7)) a0_0 a0_1 a0_2 a0_3 a0_4 a0_5 a0_6)))) else (frame_Good.j1 kj1 false a0_0 a0_1 a0_2 a0_3 a0_4 a0_5 a0_6)) = some r := by rw [if_neg (show ¬ (false = true) by decide)] at H; exact H
        clear H
        have H := H1
        clear H1
        have HC15 := Aside0.mk H
        clear H
        go_upto_region 3 with (fail)
        go_cut [25] (fun v25 wc => ∃ (kq : Nat) (x25_14 : Bool), v25 = .bool x25_14 ∧ Aside0 (frame_Good.j1 kq x25_14 a0_0 a0_1 a0_2 a0_3 a0_4 a0_5 a0_6 = some r) ∧ Aside0 (kq ≤ kj1) ∧ Aside0 (wc.heap[gb103]? = some (.cells #[.int .i64 a0_0, .int .i64 a0_1, .bool a0_2, .int .i64 a0_3, .int .i64 a0_4, .int .i64 a0_5, .string a0_6] 49 (0, 0))) ∧ Aside0 (Below w.heap.size w wc))
        case first =>
          have H := HC15.out
          clear HC15
          by_cases c16 : a0_2 = true
          · subst c16
            have H1 : (if a0_3 < 0 then (frame_Good.j1 kj1 true a0_0 a0_1 true a0_3 a0_4 a0_5 a0_6) else (if a0_3 > 4094 then (frame_Good.j1 kj1 true a0_0 a0_1 true a0_3 a0_4 a0_5 a0_6) else (if a0_4 < 0 then (frame_Good.j1 kj1 true a0_0 a0_1 true a0_3 a0_4 a0_5 a0_6) else (frame_Good.j1 kj1 (decide (a0_4 > 7)) a0_0 a0_1 true a0_3 a0_4 a0_5 a0_6)))) = some r := by rw [if_pos rfl] at H; exact H
            clear H
            have H := H1
            clear H1
            by_cases c17 : a0_3 < 0
            · rw [if_pos c17] at H
              have c17b0 : decide (a0_3 < 0) = true := decide_eq_true c17
              clear c17
              (first | rw [c17b0] | (simp only [i64_w, i32_w]; rw [c17b0]) | skip)
              have H' := Aside0.mk H
              clear H
              have hcz18_0 : wc.cell? ⟨gb103, 0, none⟩ = some (.int .i64 a0_0) := (blk_cell BK103.out 0).trans rfl
              have hcz18_1 : wc.cell? ⟨gb103, 1, none⟩ = some (.int .i64 a0_1) := (blk_cell BK103.out 1).trans rfl
              have hcz18_2 : wc.cell? ⟨gb103, 2, none⟩ = some (.bool true) := (blk_cell BK103.out 2).trans rfl
              have hcz18_3 : wc.cell? ⟨gb103, 3, none⟩ = some (.int .i64 a0_3) := (blk_cell BK103.out 3).trans rfl
              have hcz18_4 : wc.cell? ⟨gb103, 4, none⟩ = some (.int .i64 a0_4) := (blk_cell BK103.out 4).trans rfl
              have hcz18_5 : wc.cell? ⟨gb103, 5, none⟩ = some (.int .i64 a0_5) := (blk_cell BK103.out 5).trans rfl
              have hcz18_6 : wc.cell? ⟨gb103, 6, none⟩ = some (.string a0_6) := (blk_cell BK103.out 6).trans rfl
              have hfz18_0 := blk_frozen BK103.out 0
              have hfz18_1 := blk_frozen BK103.out 1
              have hfz18_2 := blk_frozen BK103.out 2
              have hfz18_3 := blk_frozen BK103.out 3
              have hfz18_4 := blk_frozen BK103.out 4
              have hfz18_5 := blk_frozen BK103.out 5
              have hfz18_6 := blk_frozen BK103.out 6
              go_wp2
              go_meet
              case rel => exact ⟨_, (true), (by first | rfl | (simp; done) | (simp [*]; done)), H', ⟨by have := HJ1.out; first | omega | exact Nat.le_refl _⟩, ⟨by (with_reducible repeat (first | refine blk_drewN ?_ _ | refine blk_drew ?_ | refine blk_alloc ?_ _)); exact BK103.out⟩, ⟨by repeat (first | (with_reducible first | exact HB.out | apply below_alloc | apply pw_below_drewN | apply below_drew1 | refine below_set ?_ GE103.out) | exact HB.out)⟩⟩
            · rw [if_neg c17] at H
              have c17b0 : decide (a0_3 < 0) = false := decide_eq_false c17
              clear c17
              (first | rw [c17b0] | (simp only [i64_w, i32_w]; rw [c17b0]) | skip)
              by_cases c19 : a0_3 > 4094
              · rw [if_pos c19] at H
                have c19b0 : decide (4094 < a0_3) = true := decide_eq_true c19
                clear c19
                have H' := Aside0.mk H
                clear H
                have hcz20_0 : wc.cell? ⟨gb103, 0, none⟩ = some (.int .i64 a0_0) := (blk_cell BK103.out 0).trans rfl
                have hcz20_1 : wc.cell? ⟨gb103, 1, none⟩ = some (.int .i64 a0_1) := (blk_cell BK103.out 1).trans rfl
                have hcz20_2 : wc.cell? ⟨gb103, 2, none⟩ = some (.bool true) := (blk_cell BK103.out 2).trans rfl
                have hcz20_3 : wc.cell? ⟨gb103, 3, none⟩ = some (.int .i64 a0_3) := (blk_cell BK103.out 3).trans rfl
                have hcz20_4 : wc.cell? ⟨gb103, 4, none⟩ = some (.int .i64 a0_4) := (blk_cell BK103.out 4).trans rfl
                have hcz20_5 : wc.cell? ⟨gb103, 5, none⟩ = some (.int .i64 a0_5) := (blk_cell BK103.out 5).trans rfl
                have hcz20_6 : wc.cell? ⟨gb103, 6, none⟩ = some (.string a0_6) := (blk_cell BK103.out 6).trans rfl
                have hfz20_0 := blk_frozen BK103.out 0
                have hfz20_1 := blk_frozen BK103.out 1
                have hfz20_2 := blk_frozen BK103.out 2
                have hfz20_3 := blk_frozen BK103.out 3
                have hfz20_4 := blk_frozen BK103.out 4
                have hfz20_5 := blk_frozen BK103.out 5
                have hfz20_6 := blk_frozen BK103.out 6
                go_wp2
                go_meet
                case rel => exact ⟨_, (true), (by first | rfl | (simp; done) | (simp [*]; done)), H', ⟨by have := HJ1.out; first | omega | exact Nat.le_refl _⟩, ⟨by (with_reducible repeat (first | refine blk_drewN ?_ _ | refine blk_drew ?_ | refine blk_alloc ?_ _)); exact BK103.out⟩, ⟨by repeat (first | (with_reducible first | exact HB.out | apply below_alloc | apply pw_below_drewN | apply below_drew1 | refine below_set ?_ GE103.out) | exact HB.out)⟩⟩
              · rw [if_neg c19] at H
                have c19b0 : decide (4094 < a0_3) = false := decide_eq_false c19
                clear c19
                by_cases c21 : a0_4 < 0
                · rw [if_pos c21] at H
                  have c21b0 : decide (a0_4 < 0) = true := decide_eq_true c21
                  clear c21
                  have H' := Aside0.mk H
                  clear H
                  have hcz22_0 : wc.cell? ⟨gb103, 0, none⟩ = some (.int .i64 a0_0) := (blk_cell BK103.out 0).trans rfl
                  have hcz22_1 : wc.cell? ⟨gb103, 1, none⟩ = some (.int .i64 a0_1) := (blk_cell BK103.out 1).trans rfl
                  have hcz22_2 : wc.cell? ⟨gb103, 2, none⟩ = some (.bool true) := (blk_cell BK103.out 2).trans rfl
                  have hcz22_3 : wc.cell? ⟨gb103, 3, none⟩ = some (.int .i64 a0_3) := (blk_cell BK103.out 3).trans rfl
                  have hcz22_4 : wc.cell? ⟨gb103, 4, none⟩ = some (.int .i64 a0_4) := (blk_cell BK103.out 4).trans rfl
                  have hcz22_5 : wc.cell? ⟨gb103, 5, none⟩ = some (.int .i64 a0_5) := (blk_cell BK103.out 5).trans rfl
                  have hcz22_6 : wc.cell? ⟨gb103, 6, none⟩ = some (.string a0_6) := (blk_cell BK103.out 6).trans rfl
                  have hfz22_0 := blk_frozen BK103.out 0
                  have hfz22_1 := blk_frozen BK103.out 1
                  have hfz22_2 := blk_frozen BK103.out 2
                  have hfz22_3 := blk_frozen BK103.out 3
                  have hfz22_4 := blk_frozen BK103.out 4
                  have hfz22_5 := blk_frozen BK103.out 5
                  have hfz22_6 := blk_frozen BK103.out 6
                  go_wp2
                  go_meet
                  case rel => exact ⟨_, (true), (by first | rfl | (simp; done) | (simp [*]; done)), H', ⟨by have := HJ1.out; first | omega | exact Nat.le_refl _⟩, ⟨by (with_reducible repeat (first | refine blk_drewN ?_ _ | refine blk_drew ?_ | refine blk_alloc ?_ _)); exact BK103.out⟩, ⟨by repeat (first | (with_reducible first | exact HB.out | apply below_alloc | apply pw_below_drewN | apply below_drew1 | refine below_set ?_ GE103.out) | exact HB.out)⟩⟩
                · rw [if_neg c21] at H
                  have c21b0 : decide (a0_4 < 0) = false := decide_eq_false c21
                  clear c21
                  have H' := Aside0.mk H
                  clear H
                  have hcz23_0 : wc.cell? ⟨gb103, 0, none⟩ = some (.int .i64 a0_0) := (blk_cell BK103.out 0).trans rfl
                  have hcz23_1 : wc.cell? ⟨gb103, 1, none⟩ = some (.int .i64 a0_1) := (blk_cell BK103.out 1).trans rfl
                  have hcz23_2 : wc.cell? ⟨gb103, 2, none⟩ = some (.bool true) := (blk_cell BK103.out 2).trans rfl
                  have hcz23_3 : wc.cell? ⟨gb103, 3, none⟩ = some (.int .i64 a0_3) := (blk_cell BK103.out 3).trans rfl
                  have hcz23_4 : wc.cell? ⟨gb103, 4, none⟩ = some (.int .i64 a0_4) := (blk_cell BK103.out 4).trans rfl
                  have hcz23_5 : wc.cell? ⟨gb103, 5, none⟩ = some (.int .i64 a0_5) := (blk_cell BK103.out 5).trans rfl
                  have hcz23_6 : wc.cell? ⟨gb103, 6, none⟩ = some (.string a0_6) := (blk_cell BK103.out 6).trans rfl
                  have hfz23_0 := blk_frozen BK103.out 0
                  have hfz23_1 := blk_frozen BK103.out 1
                  have hfz23_2 := blk_frozen BK103.out 2
                  have hfz23_3 := blk_frozen BK103.out 3
                  have hfz23_4 := blk_frozen BK103.out 4
                  have hfz23_5 := blk_frozen BK103.out 5
                  have hfz23_6 := blk_frozen BK103.out 6
                  go_wp2
                  go_meet
                  case rel => exact ⟨_, (decide (a0_4 > 7)), (by first | rfl | (simp; done) | (simp [*]; done)), H', ⟨by have := HJ1.out; first | omega | exact Nat.le_refl _⟩, ⟨by (with_reducible repeat (first | refine blk_drewN ?_ _ | refine blk_drew ?_ | refine blk_alloc ?_ _)); exact BK103.out⟩, ⟨by repeat (first | (with_reducible first | exact HB.out | apply below_alloc | apply pw_below_drewN | apply below_drew1 | refine below_set ?_ GE103.out) | exact HB.out)⟩⟩
          · replace c16 := Bool.eq_false_iff.mpr c16
            subst c16
            have H1 : (frame_Good.j1 kj1 false a0_0 a0_1 false a0_3 a0_4 a0_5 a0_6) = some r := by rw [if_neg (show ¬ (false = true) by decide)] at H; exact H
            clear H
            have H := H1
            clear H1
            have H' := Aside0.mk H
            clear H
            have hcz24_0 : wc.cell? ⟨gb103, 0, none⟩ = some (.int .i64 a0_0) := (blk_cell BK103.out 0).trans rfl
            have hcz24_1 : wc.cell? ⟨gb103, 1, none⟩ = some (.int .i64 a0_1) := (blk_cell BK103.out 1).trans rfl
            have hcz24_2 : wc.cell? ⟨gb103, 2, none⟩ = some (.bool false) := (blk_cell BK103.out 2).trans rfl
            have hcz24_3 : wc.cell? ⟨gb103, 3, none⟩ = some (.int .i64 a0_3) := (blk_cell BK103.out 3).trans rfl
            have hcz24_4 : wc.cell? ⟨gb103, 4, none⟩ = some (.int .i64 a0_4) := (blk_cell BK103.out 4).trans rfl
            have hcz24_5 : wc.cell? ⟨gb103, 5, none⟩ = some (.int .i64 a0_5) := (blk_cell BK103.out 5).trans rfl
            have hcz24_6 : wc.cell? ⟨gb103, 6, none⟩ = some (.string a0_6) := (blk_cell BK103.out 6).trans rfl
            have hfz24_0 := blk_frozen BK103.out 0
            have hfz24_1 := blk_frozen BK103.out 1
            have hfz24_2 := blk_frozen BK103.out 2
            have hfz24_3 := blk_frozen BK103.out 3
            have hfz24_4 := blk_frozen BK103.out 4
            have hfz24_5 := blk_frozen BK103.out 5
            have hfz24_6 := blk_frozen BK103.out 6
            go_wp2
            go_meet
            case rel => exact ⟨_, (false), (by first | rfl | (simp; done) | (simp [*]; done)), H', ⟨by have := HJ1.out; first | omega | exact Nat.le_refl _⟩, ⟨by (with_reducible repeat (first | refine blk_drewN ?_ _ | refine blk_drew ?_ | refine blk_alloc ?_ _)); exact BK103.out⟩, ⟨by repeat (first | (with_reducible first | exact HB.out | apply below_alloc | apply pw_below_drewN | apply below_drew1 | refine below_set ?_ GE103.out) | exact HB.out)⟩⟩
        case rest =>
          clear HC15
          try clear c1
          try clear c2
          try clear p2
          try clear c3
          try clear c4
          try clear c5
          try clear c7
          try clear c9
          try clear c14
          try clear c16
          try clear c17
          try clear c17b0
          try clear c19
          try clear c19b0
          try clear c21
          try clear c21b0
          try clear hcz10_0
          try clear hcz10_1
          try clear hcz10_2
          try clear hcz10_3
          try clear hcz10_4
          try clear hcz10_5
          try clear hcz10_6
          try clear hcz11_0
          try clear hcz11_1
          try clear hcz11_2
          try clear hcz11_3
          try clear hcz11_4
          try clear hcz11_5
          try clear hcz11_6
          try clear hcz12_0
          try clear hcz12_1
          try clear hcz12_2
          try clear hcz12_3
          try clear hcz12_4
          try clear hcz12_5
          try clear hcz12_6
          try clear hcz13_0
          try clear hcz13_1
          try clear hcz13_2
          try clear hcz13_3
          try clear hcz13_4
          try clear hcz13_5
          try clear hcz13_6
          try clear hcz18_0
          try clear hcz18_1
          try clear hcz18_2
          try clear hcz18_3
          try clear hcz18_4
          try clear hcz18_5
          try clear hcz18_6
          try clear hcz20_0
          try clear hcz20_1
          try clear hcz20_2
          try clear hcz20_3
          try clear hcz20_4
          try clear hcz20_5
          try clear hcz20_6
          try clear hcz22_0
          try clear hcz22_1
          try clear hcz22_2
          try clear hcz22_3
          try clear hcz22_4
          try clear hcz22_5
          try clear hcz22_6
          try clear hcz23_0
          try clear hcz23_1
          try clear hcz23_2
          try clear hcz23_3
          try clear hcz23_4
          try clear hcz23_5
          try clear hcz23_6
          try clear hcz24_0
          try clear hcz24_1
          try clear hcz24_2
          try clear hcz24_3
          try clear hcz24_4
          try clear hcz24_5
          try clear hcz24_6
          try clear hfz10_0
          try clear hfz10_1
          try clear hfz10_2
          try clear hfz10_3
          try clear hfz10_4
          try clear hfz10_5
          try clear hfz10_6
          try clear hfz11_0
          try clear hfz11_1
          try clear hfz11_2
          try clear hfz11_3
          try clear hfz11_4
          try clear hfz11_5
          try clear hfz11_6
          try clear hfz12_0
          try clear hfz12_1
          try clear hfz12_2
          try clear hfz12_3
          try clear hfz12_4
          try clear hfz12_5
          try clear hfz12_6
          try clear hfz13_0
          try clear hfz13_1
          try clear hfz13_2
          try clear hfz13_3
          try clear hfz13_4
          try clear hfz13_5
          try clear hfz13_6
          try clear hfz18_0
          try clear hfz18_1
          try clear hfz18_2
          try clear hfz18_3
          try clear hfz18_4
          try clear hfz18_5
          try clear hfz18_6
          try clear hfz20_0
          try clear hfz20_1
          try clear hfz20_2
          try clear hfz20_3
          try clear hfz20_4
          try clear hfz20_5
          try clear hfz20_6
          try clear hfz22_0
          try clear hfz22_1
          try clear hfz22_2
          try clear hfz22_3
          try clear hfz22_4
          try clear hfz22_5
          try clear hfz22_6
          try clear hfz23_0
          try clear hfz23_1
          try clear hfz23_2
          try clear hfz23_3
          try clear hfz23_4
          try clear hfz23_5
          try clear hfz23_6
          try clear hfz24_0
          try clear hfz24_1
          try clear hfz24_2
          try clear hfz24_3
          try clear hfz24_4
          try clear hfz24_5
          try clear hfz24_6
          try clear p2
          obtain ⟨kq, x25_14, rfl, HA, HJ14, BK103, HB⟩ := hcut
          cases kq with
          | zero => exact absurd HA.out (by simp [frame_Good.j1])
          | succ kj14 =>
            have H := HA.out
            clear HA
            simp only [frame_Good.j1] at H
            by_cases c25 : x25_14 = true
            · subst c25
              have H1 : (some false) = some r := by rw [if_pos rfl] at H; exact H
              clear H
              have H := H1
              clear H1
              obtain rfl := Option.some.inj H
              go_wp2
              go_ret
              exact ⟨by first | rfl | (simp [errW_none, errW_some] <;> rfl) | (simp [*, errW_none, errW_some] <;> rfl), by repeat (first | (with_reducible first | exact HB.out | apply below_alloc | apply pw_below_drewN | apply below_drew1 | refine below_set ?_ GE103.out) | exact HB.out)⟩
            · replace c25 := Bool.eq_false_iff.mpr c25
              subst c25
              have H1 : (if a0_2 = true then (if a0_5 = 0 then (some true) else ((addr_Type.f a0_5).bind fun t107 => (if t107 = true then (some (a0_5 != 33024)) else (some false)))) else (if a0_3 = 0 then (if a0_4 = 0 then (if a0_5 = 0 then (some true) else ((addr_Type.f a0_5).bind fun t108 => (if t108 = true then (some (a0_5 != 33024)) else (some false)))) else (some false)) else (some false))) = some r := by rw [if_neg (show ¬ (false = true) by decide)] at H; exact H
              clear H
              have H := H1
              clear H1
              by_cases c26 : a0_2 = true
              · subst c26
                have H1 : (if a0_5 = 0 then (some true) else ((addr_Type.f a0_5).bind fun t107 => (if t107 = true then (some (a0_5 != 33024)) else (some false)))) = some r := by rw [if_pos rfl] at H; exact H
                clear H
                have H := H1
                clear H1
                by_cases c27 : a0_5 = 0
                · rw [if_pos c27] at H
                  have c27b0 : (a0_5 == 0) = true := beq_iff_eq.mpr c27
                  have c27b1 : (a0_5 != 0) = false := bne_eq_false_iff_eq.mpr c27
                  clear c27
                  obtain rfl := Option.some.inj H
                  have hcz28_0 : wc.cell? ⟨gb103, 0, none⟩ = some (.int .i64 a0_0) := (blk_cell BK103.out 0).trans rfl
                  have hcz28_1 : wc.cell? ⟨gb103, 1, none⟩ = some (.int .i64 a0_1) := (blk_cell BK103.out 1).trans rfl
                  have hcz28_2 : wc.cell? ⟨gb103, 2, none⟩ = some (.bool true) := (blk_cell BK103.out 2).trans rfl
                  have hcz28_3 : wc.cell? ⟨gb103, 3, none⟩ = some (.int .i64 a0_3) := (blk_cell BK103.out 3).trans rfl
                  have hcz28_4 : wc.cell? ⟨gb103, 4, none⟩ = some (.int .i64 a0_4) := (blk_cell BK103.out 4).trans rfl
                  have hcz28_5 : wc.cell? ⟨gb103, 5, none⟩ = some (.int .i64 a0_5) := (blk_cell BK103.out 5).trans rfl
                  have hcz28_6 : wc.cell? ⟨gb103, 6, none⟩ = some (.string a0_6) := (blk_cell BK103.out 6).trans rfl
                  have hfz28_0 := blk_frozen BK103.out 0
                  have hfz28_1 := blk_frozen BK103.out 1
                  have hfz28_2 := blk_frozen BK103.out 2
                  have hfz28_3 := blk_frozen BK103.out 3
                  have hfz28_4 := blk_frozen BK103.out 4
                  have hfz28_5 := blk_frozen BK103.out 5
                  have hfz28_6 := blk_frozen BK103.out 6
                  go_wp2
                  go_ret
                  exact ⟨by first | rfl | (simp [errW_none, errW_some] <;> rfl) | (simp [*, errW_none, errW_some] <;> rfl), by repeat (first | (with_reducible first | exact HB.out | apply below_alloc | apply pw_below_drewN | apply below_drew1 | refine below_set ?_ GE103.out) | exact HB.out)⟩
                · rw [if_neg c27] at H
                  have c27b0 : (a0_5 == 0) = false := beq_eq_false_iff_ne.mpr c27
                  have c27b1 : (a0_5 != 0) = true := bne_iff_ne.mpr c27
                  replace H := Option.bind_eq_some_iff.mp H
                  obtain ⟨t107, A290, H⟩ := H
                  replace H : (if t107 = true then (some (a0_5 != 33024)) else (some false)) = some r := H
                  have A29 := Aside0.mk A290
                  clear A290
                  by_cases c30 : t107 = true
                  · subst c30
                    have H1 : (some (a0_5 != 33024)) = some r := by rw [if_pos rfl] at H; exact H
                    clear H
                    have H := H1
                    clear H1
                    obtain rfl := Option.some.inj H
                    have hcz31_0 : wc.cell? ⟨gb103, 0, none⟩ = some (.int .i64 a0_0) := (blk_cell BK103.out 0).trans rfl
                    have hcz31_1 : wc.cell? ⟨gb103, 1, none⟩ = some (.int .i64 a0_1) := (blk_cell BK103.out 1).trans rfl
                    have hcz31_2 : wc.cell? ⟨gb103, 2, none⟩ = some (.bool true) := (blk_cell BK103.out 2).trans rfl
                    have hcz31_3 : wc.cell? ⟨gb103, 3, none⟩ = some (.int .i64 a0_3) := (blk_cell BK103.out 3).trans rfl
                    have hcz31_4 : wc.cell? ⟨gb103, 4, none⟩ = some (.int .i64 a0_4) := (blk_cell BK103.out 4).trans rfl
                    have hcz31_5 : wc.cell? ⟨gb103, 5, none⟩ = some (.int .i64 a0_5) := (blk_cell BK103.out 5).trans rfl
                    have hcz31_6 : wc.cell? ⟨gb103, 6, none⟩ = some (.string a0_6) := (blk_cell BK103.out 6).trans rfl
                    have hfz31_0 := blk_frozen BK103.out 0
                    have hfz31_1 := blk_frozen BK103.out 1
                    have hfz31_2 := blk_frozen BK103.out 2
                    have hfz31_3 := blk_frozen BK103.out 3
                    have hfz31_4 := blk_frozen BK103.out 4
                    have hfz31_5 := blk_frozen BK103.out 5
                    have hfz31_6 := blk_frozen BK103.out 6
                    go_wp2_with (first | (go_at_call 51; (with_reducible refine (addr_Type.calls a0_5 true _ A29.out).mono ?_); rintro e w' ⟨rfl, ⟨nd, rfl⟩⟩))
                    go_ret
                    exact ⟨by first | rfl | (simp [errW_none, errW_some] <;> rfl) | (simp [*, errW_none, errW_some] <;> rfl), by repeat (first | (with_reducible first | exact HB.out | apply below_alloc | apply pw_below_drewN | apply below_drew1 | refine below_set ?_ GE103.out) | exact HB.out)⟩
                  · replace c30 := Bool.eq_false_iff.mpr c30
                    subst c30
                    have H1 : (some false) = some r := by rw [if_neg (show ¬ (false = true) by decide)] at H; exact H
                    clear H
                    have H := H1
                    clear H1
                    obtain rfl := Option.some.inj H
                    have hcz32_0 : wc.cell? ⟨gb103, 0, none⟩ = some (.int .i64 a0_0) := (blk_cell BK103.out 0).trans rfl
                    have hcz32_1 : wc.cell? ⟨gb103, 1, none⟩ = some (.int .i64 a0_1) := (blk_cell BK103.out 1).trans rfl
                    have hcz32_2 : wc.cell? ⟨gb103, 2, none⟩ = some (.bool true) := (blk_cell BK103.out 2).trans rfl
                    have hcz32_3 : wc.cell? ⟨gb103, 3, none⟩ = some (.int .i64 a0_3) := (blk_cell BK103.out 3).trans rfl
                    have hcz32_4 : wc.cell? ⟨gb103, 4, none⟩ = some (.int .i64 a0_4) := (blk_cell BK103.out 4).trans rfl
                    have hcz32_5 : wc.cell? ⟨gb103, 5, none⟩ = some (.int .i64 a0_5) := (blk_cell BK103.out 5).trans rfl
                    have hcz32_6 : wc.cell? ⟨gb103, 6, none⟩ = some (.string a0_6) := (blk_cell BK103.out 6).trans rfl
                    have hfz32_0 := blk_frozen BK103.out 0
                    have hfz32_1 := blk_frozen BK103.out 1
                    have hfz32_2 := blk_frozen BK103.out 2
                    have hfz32_3 := blk_frozen BK103.out 3
                    have hfz32_4 := blk_frozen BK103.out 4
                    have hfz32_5 := blk_frozen BK103.out 5
                    have hfz32_6 := blk_frozen BK103.out 6
                    go_wp2_with (first | (go_at_call 51; (with_reducible refine (addr_Type.calls a0_5 false _ A29.out).mono ?_); rintro e w' ⟨rfl, ⟨nd, rfl⟩⟩))
                    go_ret
                    exact ⟨by first | rfl | (simp [errW_none, errW_some] <;> rfl) | (simp [*, errW_none, errW_some] <;> rfl), by repeat (first | (with_reducible first | exact HB.out | apply below_alloc | apply pw_below_drewN | apply below_drew1 | refine below_set ?_ GE103.out) | exact HB.out)⟩
              · replace c26 := Bool.eq_false_iff.mpr c26
                subst c26
                have H1 : (if a0_3 = 0 then (if a0_4 = 0 then (if a0_5 = 0 then (some true) else ((addr_Type.f a0_5).bind fun t108 => (if t108 = true then (some (a0_5 != 33024)) else (some false)))) else (some false)) else (some false)) = some r := by rw [if_neg (show ¬ (false = true) by decide)] at H; exact H
                clear H
                have H := H1
                clear H1
                by_cases c33 : a0_3 = 0
                · rw [if_pos c33] at H
                  have c33b0 : (a0_3 == 0) = true := beq_iff_eq.mpr c33
                  have c33b1 : (a0_3 != 0) = false := bne_eq_false_iff_eq.mpr c33
                  clear c33
                  by_cases c34 : a0_4 = 0
                  · rw [if_pos c34] at H
                    have c34b0 : (a0_4 == 0) = true := beq_iff_eq.mpr c34
                    have c34b1 : (a0_4 != 0) = false := bne_eq_false_iff_eq.mpr c34
                    clear c34
                    by_cases c35 : a0_5 = 0
                    · rw [if_pos c35] at H
                      have c35b0 : (a0_5 == 0) = true := beq_iff_eq.mpr c35
                      have c35b1 : (a0_5 != 0) = false := bne_eq_false_iff_eq.mpr c35
                      clear c35
                      obtain rfl := Option.some.inj H
                      have hcz36_0 : wc.cell? ⟨gb103, 0, none⟩ = some (.int .i64 a0_0) := (blk_cell BK103.out 0).trans rfl
                      have hcz36_1 : wc.cell? ⟨gb103, 1, none⟩ = some (.int .i64 a0_1) := (blk_cell BK103.out 1).trans rfl
                      have hcz36_2 : wc.cell? ⟨gb103, 2, none⟩ = some (.bool false) := (blk_cell BK103.out 2).trans rfl
                      have hcz36_3 : wc.cell? ⟨gb103, 3, none⟩ = some (.int .i64 a0_3) := (blk_cell BK103.out 3).trans rfl
                      have hcz36_4 : wc.cell? ⟨gb103, 4, none⟩ = some (.int .i64 a0_4) := (blk_cell BK103.out 4).trans rfl
                      have hcz36_5 : wc.cell? ⟨gb103, 5, none⟩ = some (.int .i64 a0_5) := (blk_cell BK103.out 5).trans rfl
                      have hcz36_6 : wc.cell? ⟨gb103, 6, none⟩ = some (.string a0_6) := (blk_cell BK103.out 6).trans rfl
                      have hfz36_0 := blk_frozen BK103.out 0
                      have hfz36_1 := blk_frozen BK103.out 1
                      have hfz36_2 := blk_frozen BK103.out 2
                      have hfz36_3 := blk_frozen BK103.out 3
                      have hfz36_4 := blk_frozen BK103.out 4
                      have hfz36_5 := blk_frozen BK103.out 5
                      have hfz36_6 := blk_frozen BK103.out 6
                      go_wp2
                      go_ret
                      exact ⟨by first | rfl | (simp [errW_none, errW_some] <;> rfl) | (simp [*, errW_none, errW_some] <;> rfl), by repeat (first | (with_reducible first | exact HB.out | apply below_alloc | apply pw_below_drewN | apply below_drew1 | refine below_set ?_ GE103.out) | exact HB.out)⟩
                    · rw [if_neg c35] at H
                      have c35b0 : (a0_5 == 0) = false := beq_eq_false_iff_ne.mpr c35
                      have c35b1 : (a0_5 != 0) = true := bne_iff_ne.mpr c35
                      replace H := Option.bind_eq_some_iff.mp H
                      obtain ⟨t108, A370, H⟩ := H
                      replace H : (if t108 = true then (some (a0_5 != 33024)) else (some false)) = some r := H
                      have A37 := Aside0.mk A370
                      clear A370
                      by_cases c38 : t108 = true
                      · subst c38
                        have H1 : (some (a0_5 != 33024)) = some r := by rw [if_pos rfl] at H; exact H
                        clear H
                        have H := H1
                        clear H1
                        obtain rfl := Option.some.inj H
                        have hcz39_0 : wc.cell? ⟨gb103, 0, none⟩ = some (.int .i64 a0_0) := (blk_cell BK103.out 0).trans rfl
                        have hcz39_1 : wc.cell? ⟨gb103, 1, none⟩ = some (.int .i64 a0_1) := (blk_cell BK103.out 1).trans rfl
                        have hcz39_2 : wc.cell? ⟨gb103, 2, none⟩ = some (.bool false) := (blk_cell BK103.out 2).trans rfl
                        have hcz39_3 : wc.cell? ⟨gb103, 3, none⟩ = some (.int .i64 a0_3) := (blk_cell BK103.out 3).trans rfl
                        have hcz39_4 : wc.cell? ⟨gb103, 4, none⟩ = some (.int .i64 a0_4) := (blk_cell BK103.out 4).trans rfl
                        have hcz39_5 : wc.cell? ⟨gb103, 5, none⟩ = some (.int .i64 a0_5) := (blk_cell BK103.out 5).trans rfl
                        have hcz39_6 : wc.cell? ⟨gb103, 6, none⟩ = some (.string a0_6) := (blk_cell BK103.out 6).trans rfl
                        have hfz39_0 := blk_frozen BK103.out 0
                        have hfz39_1 := blk_frozen BK103.out 1
                        have hfz39_2 := blk_frozen BK103.out 2
                        have hfz39_3 := blk_frozen BK103.out 3
                        have hfz39_4 := blk_frozen BK103.out 4
                        have hfz39_5 := blk_frozen BK103.out 5
                        have hfz39_6 := blk_frozen BK103.out 6
                        go_wp2_with (first | (go_at_call 51; (with_reducible refine (addr_Type.calls a0_5 true _ A37.out).mono ?_); rintro e w' ⟨rfl, ⟨nd, rfl⟩⟩))
                        go_ret
                        exact ⟨by first | rfl | (simp [errW_none, errW_some] <;> rfl) | (simp [*, errW_none, errW_some] <;> rfl), by repeat (first | (with_reducible first | exact HB.out | apply below_alloc | apply pw_below_drewN | apply below_drew1 | refine below_set ?_ GE103.out) | exact HB.out)⟩
                      · replace c38 := Bool.eq_false_iff.mpr c38
                        subst c38
                        have H1 : (some false) = some r := by rw [if_neg (show ¬ (false = true) by decide)] at H; exact H
                        clear H
                        have H := H1
                        clear H1
                        obtain rfl := Option.some.inj H
                        have hcz40_0 : wc.cell? ⟨gb103, 0, none⟩ = some (.int .i64 a0_0) := (blk_cell BK103.out 0).trans rfl
                        have hcz40_1 : wc.cell? ⟨gb103, 1, none⟩ = some (.int .i64 a0_1) := (blk_cell BK103.out 1).trans rfl
                        have hcz40_2 : wc.cell? ⟨gb103, 2, none⟩ = some (.bool false) := (blk_cell BK103.out 2).trans rfl
                        have hcz40_3 : wc.cell? ⟨gb103, 3, none⟩ = some (.int .i64 a0_3) := (blk_cell BK103.out 3).trans rfl
                        have hcz40_4 : wc.cell? ⟨gb103, 4, none⟩ = some (.int .i64 a0_4) := (blk_cell BK103.out 4).trans rfl
                        have hcz40_5 : wc.cell? ⟨gb103, 5, none⟩ = some (.int .i64 a0_5) := (blk_cell BK103.out 5).trans rfl
                        have hcz40_6 : wc.cell? ⟨gb103, 6, none⟩ = some (.string a0_6) := (blk_cell BK103.out 6).trans rfl
                        have hfz40_0 := blk_frozen BK103.out 0
                        have hfz40_1 := blk_frozen BK103.out 1
                        have hfz40_2 := blk_frozen BK103.out 2
                        have hfz40_3 := blk_frozen BK103.out 3
                        have hfz40_4 := blk_frozen BK103.out 4
                        have hfz40_5 := blk_frozen BK103.out 5
                        have hfz40_6 := blk_frozen BK103.out 6
                        go_wp2_with (first | (go_at_call 51; (with_reducible refine (addr_Type.calls a0_5 false _ A37.out).mono ?_); rintro e w' ⟨rfl, ⟨nd, rfl⟩⟩))
                        go_ret
                        exact ⟨by first | rfl | (simp [errW_none, errW_some] <;> rfl) | (simp [*, errW_none, errW_some] <;> rfl), by repeat (first | (with_reducible first | exact HB.out | apply below_alloc | apply pw_below_drewN | apply below_drew1 | refine below_set ?_ GE103.out) | exact HB.out)⟩
                  · rw [if_neg c34] at H
                    have c34b0 : (a0_4 == 0) = false := beq_eq_false_iff_ne.mpr c34
                    have c34b1 : (a0_4 != 0) = true := bne_iff_ne.mpr c34
                    obtain rfl := Option.some.inj H
                    have hcz41_0 : wc.cell? ⟨gb103, 0, none⟩ = some (.int .i64 a0_0) := (blk_cell BK103.out 0).trans rfl
                    have hcz41_1 : wc.cell? ⟨gb103, 1, none⟩ = some (.int .i64 a0_1) := (blk_cell BK103.out 1).trans rfl
                    have hcz41_2 : wc.cell? ⟨gb103, 2, none⟩ = some (.bool false) := (blk_cell BK103.out 2).trans rfl
                    have hcz41_3 : wc.cell? ⟨gb103, 3, none⟩ = some (.int .i64 a0_3) := (blk_cell BK103.out 3).trans rfl
                    have hcz41_4 : wc.cell? ⟨gb103, 4, none⟩ = some (.int .i64 a0_4) := (blk_cell BK103.out 4).trans rfl
                    have hcz41_5 : wc.cell? ⟨gb103, 5, none⟩ = some (.int .i64 a0_5) := (blk_cell BK103.out 5).trans rfl
                    have hcz41_6 : wc.cell? ⟨gb103, 6, none⟩ = some (.string a0_6) := (blk_cell BK103.out 6).trans rfl
                    have hfz41_0 := blk_frozen BK103.out 0
                    have hfz41_1 := blk_frozen BK103.out 1
                    have hfz41_2 := blk_frozen BK103.out 2
                    have hfz41_3 := blk_frozen BK103.out 3
                    have hfz41_4 := blk_frozen BK103.out 4
                    have hfz41_5 := blk_frozen BK103.out 5
                    have hfz41_6 := blk_frozen BK103.out 6
                    go_wp2
                    go_ret
                    exact ⟨by first | rfl | (simp [errW_none, errW_some] <;> rfl) | (simp [*, errW_none, errW_some] <;> rfl), by repeat (first | (with_reducible first | exact HB.out | apply below_alloc | apply pw_below_drewN | apply below_drew1 | refine below_set ?_ GE103.out) | exact HB.out)⟩
                · rw [if_neg c33] at H
                  have c33b0 : (a0_3 == 0) = false := beq_eq_false_iff_ne.mpr c33
                  have c33b1 : (a0_3 != 0) = true := bne_iff_ne.mpr c33
                  obtain rfl := Option.some.inj H
                  have hcz42_0 : wc.cell? ⟨gb103, 0, none⟩ = some (.int .i64 a0_0) := (blk_cell BK103.out 0).trans rfl
                  have hcz42_1 : wc.cell? ⟨gb103, 1, none⟩ = some (.int .i64 a0_1) := (blk_cell BK103.out 1).trans rfl
                  have hcz42_2 : wc.cell? ⟨gb103, 2, none⟩ = some (.bool false) := (blk_cell BK103.out 2).trans rfl
                  have hcz42_3 : wc.cell? ⟨gb103, 3, none⟩ = some (.int .i64 a0_3) := (blk_cell BK103.out 3).trans rfl
                  have hcz42_4 : wc.cell? ⟨gb103, 4, none⟩ = some (.int .i64 a0_4) := (blk_cell BK103.out 4).trans rfl
                  have hcz42_5 : wc.cell? ⟨gb103, 5, none⟩ = some (.int .i64 a0_5) := (blk_cell BK103.out 5).trans rfl
                  have hcz42_6 : wc.cell? ⟨gb103, 6, none⟩ = some (.string a0_6) := (blk_cell BK103.out 6).trans rfl
                  have hfz42_0 := blk_frozen BK103.out 0
                  have hfz42_1 := blk_frozen BK103.out 1
                  have hfz42_2 := blk_frozen BK103.out 2
                  have hfz42_3 := blk_frozen BK103.out 3
                  have hfz42_4 := blk_frozen BK103.out 4
                  have hfz42_5 := blk_frozen BK103.out 5
                  have hfz42_6 := blk_frozen BK103.out 6
                  go_wp2
                  go_ret
                  exact ⟨by first | rfl | (simp [errW_none, errW_some] <;> rfl) | (simp [*, errW_none, errW_some] <;> rfl), by repeat (first | (with_reducible first | exact HB.out | apply below_alloc | apply pw_below_drewN | apply below_drew1 | refine below_set ?_ GE103.out) | exact HB.out)⟩
def addr_Vid.f (a0 : Int) : Option (Bool) := if a0 ≥ 1 then (some (decide (a0 ≤ 4094))) else (some false)
set_option maxHeartbeats 8000000 in
set_option maxRecDepth 100000 in
theorem addr_Vid.calls (a0 : Int) (r : Bool) (w : World) (h : addr_Vid.f a0 = some r) :
    Calls Try.prog 52 #[.int .i64 a0] w fun e w' => e = .returned (.bool r) ∧ Drawn0 w w' := by
  have H : (if a0 ≥ 1 then (some (decide (a0 ≤ 4094))) else (some false)) = some r := h
  clear h
  by_cases c2 : a0 ≥ 1
  · rw [if_pos c2] at H
    have c2b0 : decide (1 ≤ a0) = true := decide_eq_true c2
    clear c2
    obtain rfl := Option.some.inj H
    go_enter Try.func52, Try.ntmps52
    go_wp2
    go_ret
    exact ⟨by first | rfl | (simp; done) | (simp [*]; done), by repeat (first | exact Drawn0.refl _ | apply Drawn0.step)⟩
  · rw [if_neg c2] at H
    have c2b0 : decide (1 ≤ a0) = false := decide_eq_false c2
    clear c2
    obtain rfl := Option.some.inj H
    go_enter Try.func52, Try.ntmps52
    go_wp2
    go_ret
    exact ⟨by first | rfl | (simp; done) | (simp [*]; done), by repeat (first | exact Drawn0.refl _ | apply Drawn0.step)⟩
end Go.Proofs.Ytjhkbmdblfdlnaa.QRlb
namespace Go.Proofs.Ytjhkbmdblfdlnaa.QRlb
open Go.RowKit Go.Proofs.YtjhkbmdblfdlnaaW.PrintWords Go.Proofs.YtjhkbmdblfdlnaaW.PrintLast Go.Proofs.YtjhkbmdblfdlnaaW.PrintMore
attribute [local go_sem] max2_int min2_int max_two min_two max_three min_three max_four min_four
set_option linter.unusedVariables false
set_option linter.unusedSimpArgs false
def cmp_Or_int.l0 : Nat → Int → List Int → Int → Int → Option (Int)
  | 0, _, _, _, _ => none
  | k + 1, x3, x6, x7, x8 => if x8 < x7 then (if 0 ≤ x8 then (if x8 < (x6.length : Int) then (if (rd x6 x8) = x3 then (cmp_Or_int.l0 k x3 x6 x7 (wrap64 (x8 + 1))) else (some (rd x6 x8))) else (none)) else (none)) else (some x3)
def cmp_Or_int.f (k : Nat) (l0 : List Int) : Option (Int) := cmp_Or_int.l0 k 0 l0 (l0.length : Int) 0
set_option maxHeartbeats 8000000 in
set_option maxRecDepth 100000 in
theorem cmp_Or_int.calls (k : Nat) (A0 : Option Addr) (c0 : Nat) (l0 : List Int) (r : Int) (w : World) (hr0 : Kd.C (Kd.int .i64) w A0 l0.length l0) (hc0 : l0.length ≤ c0) (h : cmp_Or_int.f k l0 = some r) :
    Calls Try.prog 32 #[.slice A0 l0.length c0] w fun e w' => e = .returned (.int .i64 r) ∧ Drawn0 w w' := by
  have HR0 := Aside0.mk hr0
  have HC0 := Aside0.mk hc0
  clear hr0 hc0
  have H : (cmp_Or_int.l0 k 0 l0 (l0.length : Int) 0) = some r := h
  clear h
  have H' := Aside0.mk H
  clear H
  go_enter Try.func32, Try.ntmps32
  go_wp2
  go_loopg [8] k (fun kq v8 w' => ∃ (x8_1 : Int), v8 = .int .i64 x8_1 ∧ Aside0 (cmp_Or_int.l0 kq 0 l0 (l0.length : Int) x8_1 = some r) ∧ Aside0 (kq ≤ k) ∧ Drawn0 w w')
  case atStart => exact ⟨(0), (by first | rfl | (simp; done) | (simp [*]; done)), H', ⟨Nat.le_refl _⟩, by repeat (first | exact Drawn0.refl _ | apply Drawn0.step)⟩
  case round =>
    clear H'
    obtain ⟨x8_1, rfl, HA, HK1, ⟨m1, rfl⟩⟩ := hrel
    cases gk with
    | zero => exact absurd HA.out (by simp [cmp_Or_int.l0])
    | succ k1 =>
      have H := HA.out
      clear HA
      simp only [cmp_Or_int.l0] at H
      by_cases c2 : x8_1 < (l0.length : Int)
      · rw [if_pos c2] at H
        have c2b0 : decide (x8_1 < (l0.length : Int)) = true := decide_eq_true c2
        clear c2
        by_cases c3 : 0 ≤ x8_1
        · rw [if_pos c3] at H
          have c3b0 : decide (0 ≤ x8_1) = true := decide_eq_true c3
          clear c3
          by_cases c4 : x8_1 < (l0.length : Int)
          · rw [if_pos c4] at H
            have c4b0 : decide (x8_1 < (l0.length : Int)) = true := decide_eq_true c4
            clear c4
            by_cases c5 : (rd l0 x8_1) = 0
            · rw [if_pos c5] at H
              have c5b0 : ((rd l0 x8_1) == 0) = true := beq_iff_eq.mpr c5
              have c5b1 : ((rd l0 x8_1) != 0) = false := bne_eq_false_iff_eq.mpr c5
              clear c5
              have H' := Aside0.mk H
              clear H
              have p113 : 0 ≤ (x8_1 : Int) := of_decide_eq_true (by first | (with_reducible assumption) | assumption)
              have q113 : x8_1 < (l0.length : Int) := of_decide_eq_true (by first | (with_reducible assumption) | assumption)
              obtain ⟨ad113, e113, hx113_0⟩ := Kd.at_int HR0.out x8_1 p113 q113
              cases e113
              replace p113 := eq_true p113
              replace q113 := eq_true q113
              go_wp2
              go_roundg k1
              case measure => have := HK1.out; omega
              case rel => exact ⟨(wrap64 (x8_1 + 1)), (by first | rfl | (simp; done) | (simp [*]; done)), H', ⟨by have := HK1.out; omega⟩, by repeat (first | exact Drawn0.refl _ | apply Drawn0.step)⟩
            · rw [if_neg c5] at H
              have c5b0 : ((rd l0 x8_1) == 0) = false := beq_eq_false_iff_ne.mpr c5
              have c5b1 : ((rd l0 x8_1) != 0) = true := bne_iff_ne.mpr c5
              obtain rfl := Option.some.inj H
              have p113 : 0 ≤ (x8_1 : Int) := of_decide_eq_true (by first | (with_reducible assumption) | assumption)
              have q113 : x8_1 < (l0.length : Int) := of_decide_eq_true (by first | (with_reducible assumption) | assumption)
              obtain ⟨ad113, e113, hx113_0⟩ := Kd.at_int HR0.out x8_1 p113 q113
              cases e113
              replace p113 := eq_true p113
              replace q113 := eq_true q113
              go_wp2
              go_ret
              exact ⟨by first | rfl | (simp; done) | (simp [*]; done), by repeat (first | exact Drawn0.refl _ | apply Drawn0.step)⟩
          · rw [if_neg c4] at H
            exact absurd H (by simp)
        · rw [if_neg c3] at H
          exact absurd H (by simp)
      · rw [if_neg c2] at H
        have c2b0 : decide (x8_1 < (l0.length : Int)) = false := decide_eq_false c2
        clear c2
        obtain rfl := Option.some.inj H
        go_wp2
        go_ret
        exact ⟨by first | rfl | (simp; done) | (simp [*]; done), by repeat (first | exact Drawn0.refl _ | apply Drawn0.step)⟩
def cmp_isNaN_int.f (a0 : Int) : Option (Bool) := some (a0 != a0)
set_option maxHeartbeats 8000000 in
set_option maxRecDepth 100000 in
theorem cmp_isNaN_int.calls (a0 : Int) (r : Bool) (w : World) (h : cmp_isNaN_int.f a0 = some r) :
    Calls Try.prog 46 #[.int .i64 a0] w fun e w' => e = .returned (.bool r) ∧ Drawn0 w w' := by
  have H : (some (a0 != a0)) = some r := h
  clear h
  obtain rfl := Option.some.inj H
  go_enter Try.func46, Try.ntmps46
  go_wp2
  go_ret
  exact ⟨by first | rfl | (simp; done) | (simp [*]; done), by repeat (first | exact Drawn0.refl _ | apply Drawn0.step)⟩
def cmp_Compare_int.f (a0 : Int) (a1 : Int) : Option (Int) := (cmp_isNaN_int.f a0).bind fun t114 => ((cmp_isNaN_int.f a1).bind fun t115 => (if t114 = true then (if t115 = true then (some 0) else (some (-1))) else (if t115 = true then (some 1) else (if a0 < a1 then (some (-1)) else (if a0 > a1 then (some 1) else (some 0))))))
set_option maxHeartbeats 8000000 in
set_option maxRecDepth 100000 in
theorem cmp_Compare_int.calls (a0 : Int) (a1 : Int) (r : Int) (w : World) (h : cmp_Compare_int.f a0 a1 = some r) :
    Calls Try.prog 33 #[.int .i64 a0, .int .i64 a1] w fun e w' => e = .returned (.int .i64 r) ∧ Drawn0 w w' := by
  have H : ((cmp_isNaN_int.f a0).bind fun t114 => ((cmp_isNaN_int.f a1).bind fun t115 => (if t114 = true then (if t115 = true then (some 0) else (some (-1))) else (if t115 = true then (some 1) else (if a0 < a1 then (some (-1)) else (if a0 > a1 then (some 1) else (some 0))))))) = some r := h
  clear h
  replace H := Option.bind_eq_some_iff.mp H
  obtain ⟨t114, A30, H⟩ := H
  replace H : ((cmp_isNaN_int.f a1).bind fun t115 => (if t114 = true then (if t115 = true then (some 0) else (some (-1))) else (if t115 = true then (some 1) else (if a0 < a1 then (some (-1)) else (if a0 > a1 then (some 1) else (some 0)))))) = some r := H
  have A3 := Aside0.mk A30
  clear A30
  replace H := Option.bind_eq_some_iff.mp H
  obtain ⟨t115, A40, H⟩ := H
  replace H : (if t114 = true then (if t115 = true then (some 0) else (some (-1))) else (if t115 = true then (some 1) else (if a0 < a1 then (some (-1)) else (if a0 > a1 then (some 1) else (some 0))))) = some r := H
  have A4 := Aside0.mk A40
  clear A40
  by_cases c5 : t114 = true
  · subst c5
    have H1 : (if t115 = true then (some 0) else (some (-1))) = some r := by rw [if_pos rfl] at H; exact H
    clear H
    have H := H1
    clear H1
    by_cases c6 : t115 = true
    · subst c6
      have H1 : (some 0) = some r := by rw [if_pos rfl] at H; exact H
      clear H
      have H := H1
      clear H1
      obtain rfl := Option.some.inj H
      go_enter Try.func33, Try.ntmps33
      go_wp2_with (first | ((with_reducible refine gate_callee (f := 46) rfl ?_); refine goesL_ (some 8) rfl rfl Try.func46 (by kernel_rfl) rfl #[.int .i64 a0] rfl (by (try simp only [List.map_toArray, List.map_cons, List.map_nil]); first | done | rfl | (simp only [List.length_drop, List.length_take]; rfl)) ?_; (with_reducible refine (cmp_isNaN_int.calls a0 true _ A3.out).mono ?_); rintro e w' ⟨rfl, ⟨nd, rfl⟩⟩; refine ⟨_, rfl, ?_⟩) | ((with_reducible refine gate_callee (f := 46) rfl ?_); refine goesL_ (some 10) rfl rfl Try.func46 (by kernel_rfl) rfl #[.int .i64 a1] rfl (by (try simp only [List.map_toArray, List.map_cons, List.map_nil]); first | done | rfl | (simp only [List.length_drop, List.length_take]; rfl)) ?_; (with_reducible refine (cmp_isNaN_int.calls a1 true _ A4.out).mono ?_); rintro e w' ⟨rfl, ⟨nd, rfl⟩⟩; refine ⟨_, rfl, ?_⟩))
      go_ret
      exact ⟨by first | rfl | (simp; done) | (simp [*]; done), by repeat (first | exact Drawn0.refl _ | apply Drawn0.step)⟩
    · replace c6 := Bool.eq_false_iff.mpr c6
      subst c6
      have H1 : (some (-1)) = some r := by rw [if_neg (show ¬ (false = true) by decide)] at H; exact H
      clear H
      have H := H1
      clear H1
      obtain rfl := Option.some.inj H
      go_enter Try.func33, Try.ntmps33
      go_wp2_with (first | ((with_reducible refine gate_callee (f := 46) rfl ?_); refine goesL_ (some 8) rfl rfl Try.func46 (by kernel_rfl) rfl #[.int .i64 a0] rfl (by (try simp only [List.map_toArray, List.map_cons, List.map_nil]); first | done | rfl | (simp only [List.length_drop, List.length_take]; rfl)) ?_; (with_reducible refine (cmp_isNaN_int.calls a0 true _ A3.out).mono ?_); rintro e w' ⟨rfl, ⟨nd, rfl⟩⟩; refine ⟨_, rfl, ?_⟩) | ((with_reducible refine gate_callee (f := 46) rfl ?_); refine goesL_ (some 10) rfl rfl Try.func46 (by kernel_rfl) rfl #[.int .i64 a1] rfl (by (try simp only [List.map_toArray, List.map_cons, List.map_nil]); first | done | rfl | (simp only [List.length_drop, List.length_take]; rfl)) ?_; (with_reducible refine (cmp_isNaN_int.calls a1 false _ A4.out).mono ?_); rintro e w' ⟨rfl, ⟨nd, rfl⟩⟩; refine ⟨_, rfl, ?_⟩))
      go_ret
      exact ⟨by first | rfl | (simp; done) | (simp [*]; done), by repeat (first | exact Drawn0.refl _ | apply Drawn0.step)⟩
  · replace c5 := Bool.eq_false_iff.mpr c5
    subst c5
    have H1 : (if t115 = true then (some 1) else (if a0 < a1 then (some (-1)) else (if a0 > a1 then (some 1) else (some 0)))) = some r := by rw [if_neg (show ¬ (false = true) by decide)] at H; exact H
    clear H
    have H := H1
    clear H1
    by_cases c7 : t115 = true
    · subst c7
      have H1 : (some 1) = some r := by rw [if_pos rfl] at H; exact H
      clear H
      have H := H1
      clear H1
      obtain rfl := Option.some.inj H
      go_enter Try.func33, Try.ntmps33
      go_wp2_with (first | ((with_reducible refine gate_callee (f := 46) rfl ?_); refine goesL_ (some 8) rfl rfl Try.func46 (by kernel_rfl) rfl #[.int .i64 a0] rfl (by (try simp only [List.map_toArray, List.map_cons, List.map_nil]); first | done | rfl | (simp only [List.length_drop, List.length_take]; rfl)) ?_; (with_reducible refine (cmp_isNaN_int.calls a0 false _ A3.out).mono ?_); rintro e w' ⟨rfl, ⟨nd, rfl⟩⟩; refine ⟨_, rfl, ?_⟩) | ((with_reducible refine gate_callee (f := 46) rfl ?_); refine goesL_ (some 10) rfl rfl Try.func46 (by kernel_rfl) rfl #[.int .i64 a1] rfl (by (try simp only [List.map_toArray, List.map_cons, List.map_nil]); first | done | rfl | (simp only [List.length_drop, List.length_take]; rfl)) ?_; (with_reducible refine (cmp_isNaN_int.calls a1 true _ A4.out).mono ?_); rintro e w' ⟨rfl, ⟨nd, rfl⟩⟩; refine ⟨_, rfl, ?_⟩))
      go_ret
      exact ⟨by first | rfl | (simp; done) | (simp [*]; done), by repeat (first | exact Drawn0.refl _ | apply Drawn0.step)⟩
    · replace c7 := Bool.eq_false_iff.mpr c7
      subst c7
      have H1 : (if a0 < a1 then (some (-1)) else (if a0 > a1 then (some 1) else (some 0))) = some r := by rw [if_neg (show ¬ (false = true) by decide)] at H; exact H
      clear H
      have H := H1
      clear H1
      by_cases c8 : a0 < a1
      · rw [if_pos c8] at H
        have c8b0 : decide (a0 < a1) = true := decide_eq_true c8
        clear c8
        obtain rfl := Option.some.inj H
        go_enter Try.func33, Try.ntmps33
        go_wp2_with (first | ((with_reducible refine gate_callee (f := 46) rfl ?_); refine goesL_ (some 8) rfl rfl Try.func46 (by kernel_rfl) rfl #[.int .i64 a0] rfl (by (try simp only [List.map_toArray, List.map_cons, List.map_nil]); first | done | rfl | (simp only [List.length_drop, List.length_take]; rfl)) ?_; (with_reducible refine (cmp_isNaN_int.calls a0 false _ A3.out).mono ?_); rintro e w' ⟨rfl, ⟨nd, rfl⟩⟩; refine ⟨_, rfl, ?_⟩) | ((with_reducible refine gate_callee (f := 46) rfl ?_); refine goesL_ (some 10) rfl rfl Try.func46 (by kernel_rfl) rfl #[.int .i64 a1] rfl (by (try simp only [List.map_toArray, List.map_cons, List.map_nil]); first | done | rfl | (simp only [List.length_drop, List.length_take]; rfl)) ?_; (with_reducible refine (cmp_isNaN_int.calls a1 false _ A4.out).mono ?_); rintro e w' ⟨rfl, ⟨nd, rfl⟩⟩; refine ⟨_, rfl, ?_⟩))
        go_ret
        exact ⟨by first | rfl | (simp; done) | (simp [*]; done), by repeat (first | exact Drawn0.refl _ | apply Drawn0.step)⟩
      · rw [if_neg c8] at H
        have c8b0 : decide (a0 < a1) = false := decide_eq_false c8
        clear c8
        by_cases c9 : a0 > a1
        · rw [if_pos c9] at H
          have c9b0 : decide (a1 < a0) = true := decide_eq_true c9
          clear c9
          obtain rfl := Option.some.inj H
          go_enter Try.func33, Try.ntmps33
          go_wp2_with (first | ((with_reducible refine gate_callee (f := 46) rfl ?_); refine goesL_ (some 8) rfl rfl Try.func46 (by kernel_rfl) rfl #[.int .i64 a0] rfl (by (try simp only [List.map_toArray, List.map_cons, List.map_nil]); first | done | rfl | (simp only [List.length_drop, List.length_take]; rfl)) ?_; (with_reducible refine (cmp_isNaN_int.calls a0 false _ A3.out).mono ?_); rintro e w' ⟨rfl, ⟨nd, rfl⟩⟩; refine ⟨_, rfl, ?_⟩) | ((with_reducible refine gate_callee (f := 46) rfl ?_); refine goesL_ (some 10) rfl rfl Try.func46 (by kernel_rfl) rfl #[.int .i64 a1] rfl (by (try simp only [List.map_toArray, List.map_cons, List.map_nil]); first | done | rfl | (simp only [List.length_drop, List.length_take]; rfl)) ?_; (with_reducible refine (cmp_isNaN_int.calls a1 false _ A4.out).mono ?_); rintro e w' ⟨rfl, ⟨nd, rfl⟩⟩; refine ⟨_, rfl, ?_⟩))
          go_ret
          exact ⟨by first | rfl | (simp; done) | (simp [*]; done), by repeat (first | exact Drawn0.refl _ | apply Drawn0.step)⟩
        · rw [if_neg c9] at H
          have c9b0 : decide (a1 < a0) = false := decide_eq_false c9
          clear c9
          obtain rfl := Option.some.inj H
          go_enter Try.func33, Try.ntmps33
          go_wp2_with (first | ((with_reducible refine gate_callee (f := 46) rfl ?_); refine goesL_ (some 8) rfl rfl Try.func46 (by kernel_rfl) rfl #[.int .i64 a0] rfl (by (try simp only [List.map_toArray, List.map_cons, List.map_nil]); first | done | rfl | (simp only [List.length_drop, List.length_take]; rfl)) ?_; (with_reducible refine (cmp_isNaN_int.calls a0 false _ A3.out).mono ?_); rintro e w' ⟨rfl, ⟨nd, rfl⟩⟩; refine ⟨_, rfl, ?_⟩) | ((with_reducible refine gate_callee (f := 46) rfl ?_); refine goesL_ (some 10) rfl rfl Try.func46 (by kernel_rfl) rfl #[.int .i64 a1] rfl (by (try simp only [List.map_toArray, List.map_cons, List.map_nil]); first | done | rfl | (simp only [List.length_drop, List.length_take]; rfl)) ?_; (with_reducible refine (cmp_isNaN_int.calls a1 false _ A4.out).mono ?_); rintro e w' ⟨rfl, ⟨nd, rfl⟩⟩; refine ⟨_, rfl, ?_⟩))
          go_ret
          exact ⟨by first | rfl | (simp; done) | (simp [*]; done), by repeat (first | exact Drawn0.refl _ | apply Drawn0.step)⟩
def fdb_order.f (k : Nat) (a0_0 : Int) (a0_1 : Int) (a0_2 : Int) (a0_3 : Int) (a0_4 : Bool) (a1_0 : Int) (a1_1 : Int) (a1_2 : Int) (a1_3 : Int) (a1_4 : Bool) : Option (Int) := (cmp_Compare_int.f a0_0 a1_0).bind fun t118 => ((cmp_Compare_int.f a0_1 a1_1).bind fun t119 => ((cmp_Or_int.f k (([t118, t119] : List Int))).bind fun t123 => (some t123)))
def fdb_order.T1 : Bool × List (List Nat × List Nat) := (true, [([], []), ([0], [0]), ([], []), ([2], [2]), ([1, 3], [1, 3]), ([], []), ([5], [5]), ([], []), ([7], [7]), ([6, 8, 4], [6, 8]), ([4, 9], [4, 9]), ([10, 9], [10]), ([11, 11, 0, 1, 2, 3, 4, 5, 6, 7, 8, 9, 10, 11], [11])])
def fdb_order.B1 : List Nat := [0, 1, 0, 4, 15, 0, 32, 0, 128, 511, 1023, 2047, 4095]
theorem fdb_order.tab1 : rtab .any (opsOf Try.f65 1) = fdb_order.T1 := by kernel_rfl
theorem fdb_order.bits1 : waitsOk fdb_order.T1.2 fdb_order.B1 = true := by kernel_rfl
def fdb_good.f (a0 : Int) (a1 : Int) (a2 : Int) : Option (Bool) := (addr_Vid.f a0).bind fun t153 => (if t153 = true then ((addr_Good.f a1).bind fun t154 => (if t154 = true then ((addr_Many.f a1).bind fun t155 => (if t155 = true then (some false) else (if a2 ≥ 0 then (some (decide (a2 < 6))) else (some false)))) else (some false))) else (some false))
set_option maxHeartbeats 8000000 in
set_option maxRecDepth 100000 in
theorem fdb_good.calls (a0 : Int) (a1 : Int) (a2 : Int) (r : Bool) (w : World) (h : fdb_good.f a0 a1 a2 = some r) :
    Calls Try.prog 55 #[.int .i64 a0, .int .i64 a1, .int .i64 a2] w fun e w' => e = .returned (.bool r) ∧ Drawn0 w w' := by
  have H : ((addr_Vid.f a0).bind fun t153 => (if t153 = true then ((addr_Good.f a1).bind fun t154 => (if t154 = true then ((addr_Many.f a1).bind fun t155 => (if t155 = true then (some false) else (if a2 ≥ 0 then (some (decide (a2 < 6))) else (some false)))) else (some false))) else (some false))) = some r := h
  clear h
  replace H := Option.bind_eq_some_iff.mp H
  obtain ⟨t153, A40, H⟩ := H
  replace H : (if t153 = true then ((addr_Good.f a1).bind fun t154 => (if t154 = true then ((addr_Many.f a1).bind fun t155 => (if t155 = true then (some false) else (if a2 ≥ 0 then (some (decide (a2 < 6))) else (some false)))) else (some false))) else (some false)) = some r := H
  have A4 := Aside0.mk A40
  clear A40
  by_cases c5 : t153 = true
  · subst c5
    have H1 : ((addr_Good.f a1).bind fun t154 => (if t154 = true then ((addr_Many.f a1).bind fun t155 => (if t155 = true then (some false) else (if a2 ≥ 0 then (some (decide (a2 < 6))) else (some false)))) else (some false))) = some r := by rw [if_pos rfl] at H; exact H
    clear H
    have H := H1
    clear H1
    replace H := Option.bind_eq_some_iff.mp H
    obtain ⟨t154, A60, H⟩ := H
    replace H : (if t154 = true then ((addr_Many.f a1).bind fun t155 => (if t155 = true then (some false) else (if a2 ≥ 0 then (some (decide (a2 < 6))) else (some false)))) else (some false)) = some r := H
    have A6 := Aside0.mk A60
    clear A60
    by_cases c7 : t154 = true
    · subst c7
      have H1 : ((addr_Many.f a1).bind fun t155 => (if t155 = true then (some false) else (if a2 ≥ 0 then (some (decide (a2 < 6))) else (some false)))) = some r := by rw [if_pos rfl] at H; exact H
      clear H
      have H := H1
      clear H1
      replace H := Option.bind_eq_some_iff.mp H
      obtain ⟨t155, A80, H⟩ := H
      replace H : (if t155 = true then (some false) else (if a2 ≥ 0 then (some (decide (a2 < 6))) else (some false))) = some r := H
      have A8 := Aside0.mk A80
      clear A80
      by_cases c9 : t155 = true
      · subst c9
        have H1 : (some false) = some r := by rw [if_pos rfl] at H; exact H
        clear H
        have H := H1
        clear H1
        obtain rfl := Option.some.inj H
        go_enter Try.func55, Try.ntmps55
        go_wp2_with (first | ((with_reducible refine gate_callee (f := 52) rfl ?_); refine goesL_ (some 8) rfl rfl Try.func52 (by kernel_rfl) rfl #[.int .i64 a0] rfl (by (try simp only [List.map_toArray, List.map_cons, List.map_nil]); first | done | rfl | (simp only [List.length_drop, List.length_take]; rfl)) ?_; (with_reducible refine (addr_Vid.calls a0 true _ A4.out).mono ?_); rintro e w' ⟨rfl, ⟨nd, rfl⟩⟩; refine ⟨_, rfl, ?_⟩) | (go_at_call 49; (with_reducible refine (addr_Good.calls a1 true _ A6.out).mono ?_); rintro e w' ⟨rfl, ⟨nd, rfl⟩⟩) | (go_at_call 50; (with_reducible refine (addr_Many.calls a1 true _ A8.out).mono ?_); rintro e w' ⟨rfl, ⟨nd, rfl⟩⟩))
        go_ret
        exact ⟨by first | rfl | (simp; done) | (simp [*]; done), by repeat (first | exact Drawn0.refl _ | apply Drawn0.step)⟩
      · replace c9 := Bool.eq_false_iff.mpr c9
        subst c9
        have H1 : (if a2 ≥ 0 then (some (decide (a2 < 6))) else (some false)) = some r := by rw [if_neg (show ¬ (false = true) by decide)] at H; exact H
        clear H
        have H := H1
        clear H1
        by_cases c10 : a2 ≥ 0
        · rw [if_pos c10] at H
          have c10b0 : decide (0 ≤ a2) = true := decide_eq_true c10
          clear c10
          obtain rfl := Option.some.inj H
          go_enter Try.func55, Try.ntmps55
          go_wp2_with (first | ((with_reducible refine gate_callee (f := 52) rfl ?_); refine goesL_ (some 8) rfl rfl Try.func52 (by kernel_rfl) rfl #[.int .i64 a0] rfl (by (try simp only [List.map_toArray, List.map_cons, List.map_nil]); first | done | rfl | (simp only [List.length_drop, List.length_take]; rfl)) ?_; (with_reducible refine (addr_Vid.calls a0 true _ A4.out).mono ?_); rintro e w' ⟨rfl, ⟨nd, rfl⟩⟩; refine ⟨_, rfl, ?_⟩) | (go_at_call 49; (with_reducible refine (addr_Good.calls a1 true _ A6.out).mono ?_); rintro e w' ⟨rfl, ⟨nd, rfl⟩⟩) | (go_at_call 50; (with_reducible refine (addr_Many.calls a1 false _ A8.out).mono ?_); rintro e w' ⟨rfl, ⟨nd, rfl⟩⟩))
          go_ret
          exact ⟨by first | rfl | (simp; done) | (simp [*]; done), by repeat (first | exact Drawn0.refl _ | apply Drawn0.step)⟩
        · rw [if_neg c10] at H
          have c10b0 : decide (0 ≤ a2) = false := decide_eq_false c10
          clear c10
          obtain rfl := Option.some.inj H
          go_enter Try.func55, Try.ntmps55
          go_wp2_with (first | ((with_reducible refine gate_callee (f := 52) rfl ?_); refine goesL_ (some 8) rfl rfl Try.func52 (by kernel_rfl) rfl #[.int .i64 a0] rfl (by (try simp only [List.map_toArray, List.map_cons, List.map_nil]); first | done | rfl | (simp only [List.length_drop, List.length_take]; rfl)) ?_; (with_reducible refine (addr_Vid.calls a0 true _ A4.out).mono ?_); rintro e w' ⟨rfl, ⟨nd, rfl⟩⟩; refine ⟨_, rfl, ?_⟩) | (go_at_call 49; (with_reducible refine (addr_Good.calls a1 true _ A6.out).mono ?_); rintro e w' ⟨rfl, ⟨nd, rfl⟩⟩) | (go_at_call 50; (with_reducible refine (addr_Many.calls a1 false _ A8.out).mono ?_); rintro e w' ⟨rfl, ⟨nd, rfl⟩⟩))
          go_ret
          exact ⟨by first | rfl | (simp; done) | (simp [*]; done), by repeat (first | exact Drawn0.refl _ | apply Drawn0.step)⟩
    · replace c7 := Bool.eq_false_iff.mpr c7
      subst c7
      have H1 : (some false) = some r := by rw [if_neg (show ¬ (false = true) by decide)] at H; exact H
      clear H
      have H := H1
      clear H1
      obtain rfl := Option.some.inj H
      go_enter Try.func55, Try.ntmps55
      go_wp2_with (first | ((with_reducible refine gate_callee (f := 52) rfl ?_); refine goesL_ (some 8) rfl rfl Try.func52 (by kernel_rfl) rfl #[.int .i64 a0] rfl (by (try simp only [List.map_toArray, List.map_cons, List.map_nil]); first | done | rfl | (simp only [List.length_drop, List.length_take]; rfl)) ?_; (with_reducible refine (addr_Vid.calls a0 true _ A4.out).mono ?_); rintro e w' ⟨rfl, ⟨nd, rfl⟩⟩; refine ⟨_, rfl, ?_⟩) | (go_at_call 49; (with_reducible refine (addr_Good.calls a1 false _ A6.out).mono ?_); rintro e w' ⟨rfl, ⟨nd, rfl⟩⟩))
      go_ret
      exact ⟨by first | rfl | (simp; done) | (simp [*]; done), by repeat (first | exact Drawn0.refl _ | apply Drawn0.step)⟩
  · replace c5 := Bool.eq_false_iff.mpr c5
    subst c5
    have H1 : (some false) = some r := by rw [if_neg (show ¬ (false = true) by decide)] at H; exact H
    clear H
    have H := H1
    clear H1
    obtain rfl := Option.some.inj H
    go_enter Try.func55, Try.ntmps55
    go_wp2_with (first | ((with_reducible refine gate_callee (f := 52) rfl ?_); refine goesL_ (some 8) rfl rfl Try.func52 (by kernel_rfl) rfl #[.int .i64 a0] rfl (by (try simp only [List.map_toArray, List.map_cons, List.map_nil]); first | done | rfl | (simp only [List.length_drop, List.length_take]; rfl)) ?_; (with_reducible refine (addr_Vid.calls a0 false _ A4.out).mono ?_); rintro e w' ⟨rfl, ⟨nd, rfl⟩⟩; refine ⟨_, rfl, ?_⟩))
    go_ret
    exact ⟨by first | rfl | (simp; done) | (simp [*]; done), by repeat (first | exact Drawn0.refl _ | apply Drawn0.step)⟩
end Go.Proofs.Ytjhkbmdblfdlnaa.QRlb
namespace Go.Proofs.Ytjhkbmdblfdlnaa.QRlb
open Go.RowKit Go.Proofs.YtjhkbmdblfdlnaaW.PrintWords Go.Proofs.YtjhkbmdblfdlnaaW.PrintLast Go.Proofs.YtjhkbmdblfdlnaaW.PrintMore
attribute [local go_sem] max2_int min2_int max_two min_two max_three min_three max_four min_four
set_option linter.unusedVariables false
set_option linter.unusedSimpArgs false
structure BelowD (B : Nat) (w w' : World) : Prop where
  below : Below B w w'
  drawn : w.drawn ≤ w'.drawn
theorem BelowD.refl (B : Nat) (w : World) : BelowD B w w := ⟨Below.refl _ _, Nat.le_refl _⟩
theorem belowD_alloc {w W : World} (h : BelowD w.heap.size w W) (o : Obj) : BelowD w.heap.size w (W.alloc o) := ⟨below_alloc h.below o, h.drawn⟩
theorem belowD_drewN {B : Nat} {w W : World} (h : BelowD B w W) (n : Nat) : BelowD B w (W.drewN n) := ⟨pw_below_drewN h.below n, Nat.le_trans h.drawn (Nat.le_add_right _ _)⟩
theorem belowD_drew1 {B : Nat} {w W : World} (h : BelowD B w W) : BelowD B w W.drew := ⟨below_drew1 h.below, Nat.le_trans h.drawn (Nat.le_add_right _ _)⟩
theorem belowD_set {w W : World} {g j : Nat} {v : Value} (h : BelowD w.heap.size w W) (hg : w.heap.size ≤ g) : BelowD w.heap.size w (W.setCell ⟨g, j, none⟩ v) := ⟨below_set h.below hg, by rw [World.drawn_setCell]; exact h.drawn⟩
theorem belowD_size {w W : World} (h : BelowD w.heap.size w W) : w.heap.size ≤ W.heap.size := h.below.size
theorem belowD_step {w W w2 : World} (h : BelowD w.heap.size w W) (k : BelowD W.heap.size W w2) : BelowD w.heap.size w w2 := ⟨below_step h.below k.below, Nat.le_trans h.drawn k.drawn⟩
theorem blk_belowD {w w1 : World} {g : Nat} {o : Obj} (h : w.heap[g]? = some o) (hb : BelowD w.heap.size w w1) : w1.heap[g]? = some o := blk_below h hb.below
section
variable {P : Program} {ops : Array Oper} {rest : List Oper} {o : Oper} {a : Act} {Q : Exit → Act → World → Prop} {Kc : Act → World → Prop}
theorem box_eventD {W : World} (hgd : o.guard = none) {N : Tmp} (_hd : o.dst = some N) {cs : Array Value} {t : TypeId}
    (hrun : (execOp a.eval o).run P W = .ok (.value (.pointer (some ⟨W.heap.size, 0, none⟩))) (W.alloc (.cells cs t (0, 0))))
    (h : ∀ g, g = W.heap.size → ∀ w1, w1.heap[g]? = some (.cells cs t (0, 0)) → BelowD W.heap.size W w1 → wpList P ops Q rest (a.put o.dst (.pointer (some ⟨g, 0, none⟩))) w1) : wpList P ops Q (o :: rest) a W :=
  Kd.event_run hgd hrun (h _ rfl _ (blk_new W _) (belowD_alloc (BelowD.refl _ _) _))
theorem Kd.R_lit_stepD {α : Type} (d : Kd α) {w0 W : World} (base e : Nat) (hw : Region.wanted o (yielded ops a.tmps) = true) {N : Tmp} (_hd : o.dst = some N) {xs : List α} {inner : List Value} {ok okp : Nat → Prop}
    (hrun : (execOp a.eval o).run P W = .ok (.value (.slice (some ⟨W.heap.size, 0, none⟩) xs.length xs.length)) (W.alloc (.cells inner.toArray e)))
    (hrep : Reps (d.M W base okp) d.sz xs inner) (hok : ∀ k, okp k → ok k) (hfresh : ok W.heap.size) (HB : BelowD base w0 W) (hbase : base ≤ W.heap.size) (hm : xs.length ≤ 9223372036854775807)
    (h : ∀ v1 w1, d.R e w1 base ok v1 xs → BelowD base w0 w1 → W.grownBy w1 none → (∃ b, v1.ownBlock = some b ∧ W.heap.size ≤ b) → Kc (a.put o.dst v1) w1) : if Region.wanted o (yielded ops a.tmps) = true then Oper.wp P o a W Kc Q else Kc (a.put o.dst undef) W := by
  refine event_step hw hrun (h _ _ ⟨fun k hk => ?_, inner, ?_, ?_⟩ ⟨HB.below.alloc hbase _, HB.drawn⟩ (World.grownBy_alloc W _ none) ⟨W.heap.size, by simp [Value.ownBlock], Nat.le_refl _⟩)
  · have : W.heap.size = k := by simpa [Value.ownBlock] using hk
    subst this
    exact hfresh
  · have h2 := World.ownsRow_lit (base := base) (e := e) (size := d.sz) W inner.toArray xs.length hbase (by simpa [maxLen] using hm) (by simpa using hrep.1)
    simpa using h2
  · refine hrep.imp_ (fun p c hp => d.M_mono (fun k hk => ⟨hok k hk.1, fun he => ?_⟩) (Kd.M_below (d.M_bound hp) (below_alloc (Below.refl _ _) _)))
    have h3 : k = W.heap.size := by simpa [Value.ownBlock] using he
    have := hk.2.2.1
    omega
end
theorem BelowD.grow {w w' : World} (h : BelowD w.heap.size w w') : ∃ q os', w' = Go.Sort.grow (w.drewN q) os' := by
  refine ⟨w'.drawn - w.drawn, w'.heap.extract w.heap.size w'.heap.size, ?_⟩
  have hd := h.drawn
  obtain ⟨heap', tape', drawn', os', output'⟩ := w'
  have e1 : os' = w.os := h.below.os
  have e2 : tape' = w.tape := h.below.tape
  have e3 : output' = w.output := h.below.output
  have hs : w.heap.size ≤ heap'.size := h.below.size
  have hb : ∀ k, k < w.heap.size → heap'[k]? = w.heap[k]? := h.below.block
  subst e1 e2 e3
  have eh : heap' = w.heap ++ heap'.extract w.heap.size heap'.size := by
    apply Array.ext_getElem?
    intro k
    by_cases hk : k < w.heap.size
    · rw [Array.getElem?_append_left hk]; exact hb k hk
    · rw [Array.getElem?_append_right (by omega), Array.getElem?_extract]
      by_cases hk2 : k < heap'.size
      · rw [if_pos (by omega)]; congr 1; omega
      · rw [if_neg (by omega), Array.getElem?_eq_none (by omega)]
  have ed : drawn' = w.drawn + (drawn' - w.drawn) := by simp only at hd; omega
  simp only [Go.Sort.grow, World.drewN]
  congr 1
set_option maxHeartbeats 8000000 in
set_option maxRecDepth 100000 in
theorem fdb_order.callsD (k : Nat) (a0_0 : Int) (a0_1 : Int) (a0_2 : Int) (a0_3 : Int) (a0_4 : Bool) (a1_0 : Int) (a1_1 : Int) (a1_2 : Int) (a1_3 : Int) (a1_4 : Bool) (r : Int) (w : World) (h : fdb_order.f k a0_0 a0_1 a0_2 a0_3 a0_4 a1_0 a1_1 a1_2 a1_3 a1_4 = some r) :
    Calls Try.prog 65 #[.agg #[.int .i64 a0_0, .int .i64 a0_1, .int .i64 a0_2, .int .i64 a0_3, .bool a0_4], .agg #[.int .i64 a1_0, .int .i64 a1_1, .int .i64 a1_2, .int .i64 a1_3, .bool a1_4]] w fun e w' => e = .returned (.int .i64 r) ∧ BelowD w.heap.size w w' := by
  have hu40 := Try.underlying84
  have HB := Aside0.mk (BelowD.refl w.heap.size w)
  have H : ((cmp_Compare_int.f a0_0 a1_0).bind fun t106 => ((cmp_Compare_int.f a0_1 a1_1).bind fun t107 => ((cmp_Or_int.f k (([t106, t107] : List Int))).bind fun t111 => (some t111)))) = some r := h
  clear h
  replace H := Option.bind_eq_some_iff.mp H
  obtain ⟨t106, A30, H⟩ := H
  replace H : ((cmp_Compare_int.f a0_1 a1_1).bind fun t107 => ((cmp_Or_int.f k (([t106, t107] : List Int))).bind fun t111 => (some t111))) = some r := H
  have A3 := Aside0.mk A30
  clear A30
  replace H := Option.bind_eq_some_iff.mp H
  obtain ⟨t107, A40, H⟩ := H
  replace H : ((cmp_Or_int.f k (([t106, t107] : List Int))).bind fun t111 => (some t111)) = some r := H
  have A4 := Aside0.mk A40
  clear A40
  obtain ⟨y108, hy108⟩ : ∃ y_ : List Int, y_ = (([t106, t107] : List Int)) := ⟨_, rfl⟩
  replace H : ((cmp_Or_int.f k y108).bind fun t111 => (some t111)) = some r := by first | (rw [hy108]; with_reducible exact H) | (have H2_ := (Option.bind_some _ _).symm.trans H; rw [hy108]; with_reducible exact H2_) | (have H2_ := (Option.bind_some _ _).symm.trans H; with_reducible exact H2_) | with_reducible exact H | (rw [hy108]; exact H) | exact H
  have Ny108 := Aside0.mk hy108
  clear hy108
  replace H := Option.bind_eq_some_iff.mp H
  obtain ⟨t111, A50, H⟩ := H
  replace H : (some t111) = some r := H
  have A5 := Aside0.mk A50
  clear A50
  obtain rfl := Option.some.inj H
  go_enter Try.func65, Try.ntmps65
  try go_wp2_with (first | ((with_reducible refine gate_dst (N := 2) rfl ?_); refine box_eventD ?hg (N := 2) ?hd (cs := #[.int .i64 a0_0, .int .i64 a0_1, .int .i64 a0_2, .int .i64 a0_3, .bool a0_4]) (t := 84) ?hr ?_; (case hd => rfl); (case hg => rfl); (case hr => first | (go_simp; done) | (go_simp; rfl)); intro gb104 hg w6 hbox hb; have n0_ := Aside0.mk (belowD_step (by repeat (first | (with_reducible first | exact HB.out | apply belowD_alloc | apply belowD_drewN | apply belowD_drew1) | exact HB.out)) hb); have n1_ := Aside0.mk (hbox); have n2_ := Aside0.mk ((by rw [hg]; exact (belowD_size (by repeat (first | (with_reducible first | exact HB.out | apply belowD_alloc | apply belowD_drewN | apply belowD_drew1) | exact HB.out))) : w.heap.size ≤ gb104)); have n3_ := Aside0.mk ((by rw [hg]; exact (belowD_size (by repeat (first | (with_reducible first | exact HB.out | apply belowD_alloc | apply belowD_drewN | apply belowD_drew1) | exact HB.out))) : w.heap.size ≤ gb104)); clear HB; have HB := n0_; have BK104 := n1_; have GW104 := n2_; have GE104 := n3_; clear n0_ n1_ n2_ n3_; clear hb hbox hg) | ((with_reducible refine gate_dst (N := 3) rfl ?_); refine box_eventD ?hg (N := 3) ?hd (cs := #[.int .i64 a1_0, .int .i64 a1_1, .int .i64 a1_2, .int .i64 a1_3, .bool a1_4]) (t := 84) ?hr ?_; (case hd => rfl); (case hg => rfl); (case hr => first | (go_simp; done) | (go_simp; rfl)); intro gb105 hg w7 hbox hb; have n0_ := Aside0.mk (blk_belowD (g := gb104) (o := .cells #[.int .i64 a0_0, .int .i64 a0_1, .int .i64 a0_2, .int .i64 a0_3, .bool a0_4] 84 (0, 0)) (by (with_reducible repeat (first | refine blk_drewN ?_ _ | refine blk_drew ?_ | refine blk_alloc ?_ _)); exact BK104.out) hb); have n1_ := Aside0.mk (belowD_step (by repeat (first | (with_reducible first | exact HB.out | apply belowD_alloc | apply belowD_drewN | apply belowD_drew1 | refine belowD_set ?_ GE104.out) | exact HB.out)) hb); have n2_ := Aside0.mk (hbox); have n3_ := Aside0.mk ((by rw [hg]; exact (belowD_size (by repeat (first | (with_reducible first | exact HB.out | apply belowD_alloc | apply belowD_drewN | apply belowD_drew1 | refine belowD_set ?_ GE104.out) | exact HB.out))) : w.heap.size ≤ gb105)); have n4_ := Aside0.mk ((by rw [hg]; exact (belowD_size (by repeat (first | (with_reducible first | exact HB.out | apply belowD_alloc | apply belowD_drewN | apply belowD_drew1 | refine belowD_set ?_ GE104.out) | exact HB.out))) : w.heap.size ≤ gb105)); have n5_ := Aside0.mk ((by rw [hg]; exact Nat.ne_of_lt (blk_lt (g := gb104) (o := .cells #[.int .i64 a0_0, .int .i64 a0_1, .int .i64 a0_2, .int .i64 a0_3, .bool a0_4] 84 (0, 0)) (by (with_reducible repeat (first | refine blk_drewN ?_ _ | refine blk_drew ?_ | refine blk_alloc ?_ _)); exact BK104.out)) : gb104 ≠ gb105)); have n6_ := Aside0.mk ((by rw [hg]; exact Nat.ne_of_gt (blk_lt (g := gb104) (o := .cells #[.int .i64 a0_0, .int .i64 a0_1, .int .i64 a0_2, .int .i64 a0_3, .bool a0_4] 84 (0, 0)) (by (with_reducible repeat (first | refine blk_drewN ?_ _ | refine blk_drew ?_ | refine blk_alloc ?_ _)); exact BK104.out)) : gb105 ≠ gb104)); clear BK104; clear HB; have BK104 := n0_; have HB := n1_; have BK105 := n2_; have GW105 := n3_; have GE105 := n4_; have NB104_105 := n5_; have NB105_104 := n6_; clear n0_ n1_ n2_ n3_ n4_ n5_ n6_; clear hb hbox hg))
  have n0_ := Aside0.mk (blk_drew BK104.out)
  have n1_ := Aside0.mk (blk_drew BK105.out)
  have n2_ := Aside0.mk (belowD_drew1 HB.out)
  clear BK104
  clear BK105
  clear HB
  have BK104 := n0_
  have BK105 := n1_
  have HB := n2_
  clear n0_ n1_ n2_
  refine start_ (n := 13) (S := fun w' => w'.cell? ⟨gb104, 0, none⟩ = some (.int .i64 a0_0) ∧ w'.cell? ⟨gb104, 1, none⟩ = some (.int .i64 a0_1) ∧ w'.cell? ⟨gb104, 2, none⟩ = some (.int .i64 a0_2) ∧ w'.cell? ⟨gb104, 3, none⟩ = some (.int .i64 a0_3) ∧ w'.cell? ⟨gb104, 4, none⟩ = some (.bool a0_4) ∧ w'.cell? ⟨gb105, 0, none⟩ = some (.int .i64 a1_0) ∧ w'.cell? ⟨gb105, 1, none⟩ = some (.int .i64 a1_1) ∧ w'.cell? ⟨gb105, 2, none⟩ = some (.int .i64 a1_2) ∧ w'.cell? ⟨gb105, 3, none⟩ = some (.int .i64 a1_3) ∧ w'.cell? ⟨gb105, 4, none⟩ = some (.bool a1_4)) (ds := []) #[false, false, false, false, false, false, false, false, false, false, false, false, false] (by kernel_rfl) rfl rfl ⟨(blk_cell BK104.out 0).trans rfl, (blk_cell BK104.out 1).trans rfl, (blk_cell BK104.out 2).trans rfl, (blk_cell BK104.out 3).trans rfl, (blk_cell BK104.out 4).trans rfl, (blk_cell BK105.out 0).trans rfl, (blk_cell BK105.out 1).trans rfl, (blk_cell BK105.out 2).trans rfl, (blk_cell BK105.out 3).trans rfl, (blk_cell BK105.out 4).trans rfl⟩ (fun hHeld => ?_); refine with_tabW fdb_order.tab1 fdb_order.bits1 (fun HT_ HW_ => ?_)
  generalize w7.drew = w8 at BK104 BK105 HB hHeld ⊢
  refine pure_ (i := 0) (N := some 5) (v := ?_) (a' := ?_) #[true, false, false, false, false, false, false, false, false, false, false, false, false] rfl rfl (any_of HT_.out (by kernel_rfl)) (fun _ _ _ h => h) (Or.inl ⟨by rfl, ?_⟩) ?_ ?_
  rotate_left
  · intro w'
    go_simp
    with_reducible rfl
  rotate_left
  · simp only [Act.put, List.setIfInBounds_toArray, List.set_cons_zero, List.set_cons_succ, i64_w, i32_w]
    rfl
  refine pure_ (i := 2) (N := some 7) (v := ?_) (a' := ?_) #[true, false, true, false, false, false, false, false, false, false, false, false, false] rfl rfl (any_of HT_.out (by kernel_rfl)) (fun _ _ _ h => h) (Or.inl ⟨by rfl, ?_⟩) ?_ ?_
  rotate_left
  · intro w'
    go_simp
    with_reducible rfl
  rotate_left
  · simp only [Act.put, List.setIfInBounds_toArray, List.set_cons_zero, List.set_cons_succ, i64_w, i32_w]
    rfl
  refine pure_ (i := 5) (N := some 10) (v := ?_) (a' := ?_) #[true, false, true, false, false, true, false, false, false, false, false, false, false] rfl rfl (any_of HT_.out (by kernel_rfl)) (fun _ _ _ h => h) (Or.inl ⟨by rfl, ?_⟩) ?_ ?_
  rotate_left
  · intro w'
    go_simp
    with_reducible rfl
  rotate_left
  · simp only [Act.put, List.setIfInBounds_toArray, List.set_cons_zero, List.set_cons_succ, i64_w, i32_w]
    rfl
  refine pure_ (i := 7) (N := some 12) (v := ?_) (a' := ?_) #[true, false, true, false, false, true, false, true, false, false, false, false, false] rfl rfl (any_of HT_.out (by kernel_rfl)) (fun _ _ _ h => h) (Or.inl ⟨by rfl, ?_⟩) ?_ ?_
  rotate_left
  · intro w'
    go_simp
    with_reducible rfl
  rotate_left
  · simp only [Act.put, List.setIfInBounds_toArray, List.set_cons_zero, List.set_cons_succ, i64_w, i32_w]
    rfl
  refine take_ (i := 1) (N := some 6) (v := ?_) (a' := ?_) #[true, true, true, false, false, true, false, true, false, false, false, false, false] rfl rfl (take_ofW HT_.out HW_.out (by kernel_rfl)) (fun _ _ _ h => h) (Or.inl ⟨by rfl, ?_⟩) hHeld ?_ ?_
  rotate_left
  · rintro w' ⟨s0, s1, s2, s3, s4, s5, s6, s7, s8, s9⟩
    go_simp
    with_reducible rfl
  rotate_left
  · simp only [Act.put, List.setIfInBounds_toArray, List.set_cons_zero, List.set_cons_succ, i64_w, i32_w]
    rfl
  refine take_ (i := 3) (N := some 8) (v := ?_) (a' := ?_) #[true, true, true, true, false, true, false, true, false, false, false, false, false] rfl rfl (take_ofW HT_.out HW_.out (by kernel_rfl)) (fun _ _ _ h => h) (Or.inl ⟨by rfl, ?_⟩) hHeld ?_ ?_
  rotate_left
  · rintro w' ⟨s0, s1, s2, s3, s4, s5, s6, s7, s8, s9⟩
    go_simp
    with_reducible rfl
  rotate_left
  · simp only [Act.put, List.setIfInBounds_toArray, List.set_cons_zero, List.set_cons_succ, i64_w, i32_w]
    rfl
  refine take_ (i := 6) (N := some 11) (v := ?_) (a' := ?_) #[true, true, true, true, false, true, true, true, false, false, false, false, false] rfl rfl (take_ofW HT_.out HW_.out (by kernel_rfl)) (fun _ _ _ h => h) (Or.inl ⟨by rfl, ?_⟩) hHeld ?_ ?_
  rotate_left
  · rintro w' ⟨s0, s1, s2, s3, s4, s5, s6, s7, s8, s9⟩
    go_simp
    with_reducible rfl
  rotate_left
  · simp only [Act.put, List.setIfInBounds_toArray, List.set_cons_zero, List.set_cons_succ, i64_w, i32_w]
    rfl
  refine take_ (i := 8) (N := some 13) (v := ?_) (a' := ?_) #[true, true, true, true, false, true, true, true, true, false, false, false, false] rfl rfl (take_ofW HT_.out HW_.out (by kernel_rfl)) (fun _ _ _ h => h) (Or.inl ⟨by rfl, ?_⟩) hHeld ?_ ?_
  rotate_left
  · rintro w' ⟨s0, s1, s2, s3, s4, s5, s6, s7, s8, s9⟩
    go_simp
    with_reducible rfl
  rotate_left
  · simp only [Act.put, List.setIfInBounds_toArray, List.set_cons_zero, List.set_cons_succ, i64_w, i32_w]
    rfl
  refine one_ (i := 4) (N := some 9) #[true, true, true, true, true, true, true, true, true, false, false, false, false] rfl rfl (one_of HT_.out (by kernel_rfl)) (by decide) (fun K hK => ?_)
  refine goes_ Try.func33 (by kernel_rfl) rfl #[.int .i64 a0_0, .int .i64 a1_0] (by rfl) rfl rfl (by (try simp only [List.map_toArray, List.map_cons, List.map_nil]); first | done | rfl | (simp only [List.length_drop, List.length_take]; rfl)) ?_
  with_reducible refine (cmp_Compare_int.calls a0_0 a1_0 t106 _ A3.out).mono ?_
  rintro e w' ⟨rfl, ⟨nd, rfl⟩⟩
  refine ⟨_, rfl, ?_⟩
  refine hK.out _ _ ⟨(blk_cell BK104.out 0).trans rfl, (blk_cell BK104.out 1).trans rfl, (blk_cell BK104.out 2).trans rfl, (blk_cell BK104.out 3).trans rfl, (blk_cell BK104.out 4).trans rfl, (blk_cell BK105.out 0).trans rfl, (blk_cell BK105.out 1).trans rfl, (blk_cell BK105.out 2).trans rfl, (blk_cell BK105.out 3).trans rfl, (blk_cell BK105.out 4).trans rfl⟩ (fun hHeld => ?_)
  clear hK K
  refine norm_ (a' := ?_) ?_ ?_
  rotate_left
  · show Act.put _ (some 9) _ = _
    simp only [Act.put, List.setIfInBounds_toArray, List.set_cons_zero, List.set_cons_succ, i64_w, i32_w]
    rfl
  refine one_ (i := 9) (N := some 14) #[true, true, true, true, true, true, true, true, true, true, false, false, false] rfl rfl (one_of HT_.out (by kernel_rfl)) (by decide) (fun K hK => ?_)
  refine goes_ Try.func33 (by kernel_rfl) rfl #[.int .i64 a0_1, .int .i64 a1_1] (by rfl) rfl rfl (by (try simp only [List.map_toArray, List.map_cons, List.map_nil]); first | done | rfl | (simp only [List.length_drop, List.length_take]; rfl)) ?_
  with_reducible refine (cmp_Compare_int.calls a0_1 a1_1 t107 _ A4.out).mono ?_
  rintro e w' ⟨rfl, ⟨nd, rfl⟩⟩
  refine ⟨_, rfl, ?_⟩
  refine hK.out _ _ ⟨(blk_cell BK104.out 0).trans rfl, (blk_cell BK104.out 1).trans rfl, (blk_cell BK104.out 2).trans rfl, (blk_cell BK104.out 3).trans rfl, (blk_cell BK104.out 4).trans rfl, (blk_cell BK105.out 0).trans rfl, (blk_cell BK105.out 1).trans rfl, (blk_cell BK105.out 2).trans rfl, (blk_cell BK105.out 3).trans rfl, (blk_cell BK105.out 4).trans rfl⟩ (fun hHeld => ?_)
  clear hK K
  refine norm_ (a' := ?_) ?_ ?_
  rotate_left
  · show Act.put _ (some 14) _ = _
    simp only [Act.put, List.setIfInBounds_toArray, List.set_cons_zero, List.set_cons_succ, i64_w, i32_w]
    rfl
  refine one_ (i := 10) (N := some 15) #[true, true, true, true, true, true, true, true, true, true, true, false, false] rfl rfl (one_of HT_.out (by kernel_rfl)) (by decide) (fun K hK => ?_)
  refine Kd.R_lit_stepD (Kd.int .i64) _ 3 ?hg (N := 15) ?hd (xs := ([t106, t107] : List Int)) (inner := [.int .i64 t106, .int .i64 t107]) (ok := fun _ => True) (okp := fun _ => True) ?hr ?hp (fun _ hk => hk) trivial (BelowD.refl _ _) (Nat.le_refl _) (by simp) ?_; (case hd => rfl); (case hg => rfl); (case hr => first | (go_simp; done) | (go_simp; rfl)); (case hp => exact (Reps.one (show Kd.M (Kd.int .i64) _ _ _ t106 [.int .i64 t106] from rfl) (Reps.one (show Kd.M (Kd.int .i64) _ _ _ t107 [.int .i64 t107] from rfl) (Reps.none _ _))))
  intro v109 w9 ho10 hb hg_ hnew_
  clear hg_ hnew_
  (first | rw [← Ny108.out] at ho10 | (simp only [Int.reduceToNat] at ho10; rw [← Ny108.out] at ho10))
  have n0_ := Aside0.mk (Kd.R_lower ho10 (belowD_size (by repeat (first | (with_reducible first | exact HB.out | apply belowD_alloc | apply belowD_drewN | apply belowD_drew1 | refine belowD_set ?_ GE104.out | refine belowD_set ?_ GE105.out) | exact HB.out))))
  have n1_ := Aside0.mk (blk_belowD (g := gb104) (o := .cells #[.int .i64 a0_0, .int .i64 a0_1, .int .i64 a0_2, .int .i64 a0_3, .bool a0_4] 84 (0, 0)) (by (with_reducible repeat (first | refine blk_drewN ?_ _ | refine blk_drew ?_ | refine blk_alloc ?_ _)); exact BK104.out) hb)
  have n2_ := Aside0.mk (blk_belowD (g := gb105) (o := .cells #[.int .i64 a1_0, .int .i64 a1_1, .int .i64 a1_2, .int .i64 a1_3, .bool a1_4] 84 (0, 0)) (by (with_reducible repeat (first | refine blk_drewN ?_ _ | refine blk_drew ?_ | refine blk_alloc ?_ _)); exact BK105.out) hb)
  have n3_ := Aside0.mk (belowD_step (by repeat (first | (with_reducible first | exact HB.out | apply belowD_alloc | apply belowD_drewN | apply belowD_drew1 | refine belowD_set ?_ GE104.out | refine belowD_set ?_ GE105.out) | exact HB.out)) hb)
  clear BK104
  clear BK105
  clear HB
  have HO110 := n0_
  have BK104 := n1_
  have BK105 := n2_
  have HB := n3_
  clear n0_ n1_ n2_ n3_
  clear hb ho10
  obtain ⟨Ao11, co11, eo11⟩ := Kd.R_slice HO110.out
  (first | subst eo11 | (injection eo11 with f1_ f2_ f3_; have f4_ := f1_.symm; have f5_ := f3_.symm; clear f1_ f2_ f3_; subst f4_; subst f5_))
  refine hK.out _ _ ⟨(blk_cell BK104.out 0).trans rfl, (blk_cell BK104.out 1).trans rfl, (blk_cell BK104.out 2).trans rfl, (blk_cell BK104.out 3).trans rfl, (blk_cell BK104.out 4).trans rfl, (blk_cell BK105.out 0).trans rfl, (blk_cell BK105.out 1).trans rfl, (blk_cell BK105.out 2).trans rfl, (blk_cell BK105.out 3).trans rfl, (blk_cell BK105.out 4).trans rfl⟩ (fun hHeld => ?_)
  clear hK K
  refine norm_ (a' := ?_) ?_ ?_
  rotate_left
  · show Act.put _ (some 15) _ = _
    simp only [Act.put, List.setIfInBounds_toArray, List.set_cons_zero, List.set_cons_succ, i64_w, i32_w]
    rfl
  refine one_ (i := 11) (N := some 16) #[true, true, true, true, true, true, true, true, true, true, true, true, false] rfl rfl (one_of HT_.out (by kernel_rfl)) (by decide) (fun K hK => ?_)
  refine goes_ Try.func32 (by kernel_rfl) rfl #[.slice Ao11 y108.length co11] (by rfl) rfl rfl (by (try simp only [List.map_toArray, List.map_cons, List.map_nil]); first | done | rfl | (simp only [List.length_drop, List.length_take]; rfl)) ?_
  with_reducible refine (cmp_Or_int.calls k _ _ y108 t111 _ ?side1 ?side2 A5.out).mono ?_
  (case side1 => repeat (first | exact (Kd.R_reads' HO110.out).2.2 | (with_reducible refine Kd.C_alloc ?_ _) | (with_reducible refine Kd.C_drewN ?_ _) | (with_reducible refine Kd.C_drew ?_)))
  (case side2 => exact (Kd.R_reads' HO110.out).2.1)
  rintro e w' ⟨rfl, ⟨nd, rfl⟩⟩
  refine ⟨_, rfl, ?_⟩
  refine hK.out _ _ ⟨(blk_cell BK104.out 0).trans rfl, (blk_cell BK104.out 1).trans rfl, (blk_cell BK104.out 2).trans rfl, (blk_cell BK104.out 3).trans rfl, (blk_cell BK104.out 4).trans rfl, (blk_cell BK105.out 0).trans rfl, (blk_cell BK105.out 1).trans rfl, (blk_cell BK105.out 2).trans rfl, (blk_cell BK105.out 3).trans rfl, (blk_cell BK105.out 4).trans rfl⟩ (fun hHeld => ?_)
  clear hK K
  refine norm_ (a' := ?_) ?_ ?_
  rotate_left
  · show Act.put _ (some 16) _ = _
    simp only [Act.put, List.setIfInBounds_toArray, List.set_cons_zero, List.set_cons_succ, i64_w, i32_w]
    rfl
  refine pure_ (i := 12) (N := some 4) (v := ?_) (a' := ?_) #[true, true, true, true, true, true, true, true, true, true, true, true, true] rfl rfl (any_of HT_.out (by kernel_rfl)) (fun _ _ _ h => h) (Or.inl ⟨by rfl, ?_⟩) ?_ ?_
  rotate_left
  · intro w'
    go_simp
    with_reducible rfl
  rotate_left
  · simp only [Act.put, List.setIfInBounds_toArray, List.set_cons_zero, List.set_cons_succ, i64_w, i32_w]
    rfl
  refine done_ (done_of HT_.out (by kernel_rfl)) ?_
  try go_wp2
  go_ret
  exact ⟨by first | rfl | (simp [errW_none, errW_some] <;> rfl) | (simp [*, errW_none, errW_some] <;> rfl), by repeat (first | (with_reducible first | exact HB.out | apply belowD_alloc | apply belowD_drewN | apply belowD_drew1 | refine belowD_set ?_ GE104.out | refine belowD_set ?_ GE105.out) | exact HB.out)⟩
end Go.Proofs.Ytjhkbmdblfdlnaa.QRlb
namespace Go.Proofs.Ytjhkbmdblfdlnaa.QRlb
open Go.RowKit Go.Proofs.YtjhkbmdblfdlnaaW.PrintWords Go.Proofs.YtjhkbmdblfdlnaaW.PrintLast Go.Proofs.YtjhkbmdblfdlnaaW.PrintMore
open Go.Sort (grow)
set_option linter.unusedVariables false
set_option linter.unusedSimpArgs false
def cmpi (a b : Int) : Int := if a < b then -1 else if a > b then 1 else 0
def cf (x y : S84) : Int := if cmpi x.f0 y.f0 = 0 then cmpi x.f1 y.f1 else cmpi x.f0 y.f0
def lx (x y : S84) : Prop := x.f0 < y.f0 ∨ x.f0 = y.f0 ∧ x.f1 < y.f1
instance (x y : S84) : Decidable (lx x y) := by unfold lx; infer_instance
theorem cmpi_eq (a b : Int) : cmpi a b = 0 ↔ a = b := by unfold cmpi; split <;> (try split) <;> omega
theorem cmpi_lt (a b : Int) : cmpi a b < 0 ↔ a < b := by unfold cmpi; split <;> (try split) <;> omega
theorem cf_lt (x y : S84) : cf x y < 0 ↔ lx x y := by
  unfold cf lx
  by_cases h0 : cmpi x.f0 y.f0 = 0
  · have e0 := (cmpi_eq _ _).1 h0
    rw [if_pos h0, cmpi_lt]; omega
  · have e0 := mt (cmpi_eq _ _).2 h0
    rw [if_neg h0, cmpi_lt]; omega
theorem lx_trans {x y z : S84} (h1 : lx x y) (h2 : lx y z) : lx x z := by unfold lx at *; omega
def Same (x y : S84) : Prop := x.f0 = y.f0 ∧ x.f1 = y.f1
instance (x y : S84) : Decidable (Same x y) := by unfold Same; infer_instance
theorem not_lx {x y : S84} (h : ¬ lx x y) (k : ¬ lx y x) : Same x y := by unfold lx at h k; unfold Same; omega
theorem cf_zero (x y : S84) : (cf x y == 0) = decide (Same x y) := by
  unfold cf Same
  by_cases h0 : cmpi x.f0 y.f0 = 0
  · have e0 := (cmpi_eq _ _).1 h0
    rw [if_pos h0]
    by_cases h1 : cmpi x.f1 y.f1 = 0
    · have e1 := (cmpi_eq _ _).1 h1
      rw [h1]; simp [e0, e1]
    · have e1 := mt (cmpi_eq _ _).2 h1
      simp [h1, e1]
  · have e0 := mt (cmpi_eq _ _).2 h0
    rw [if_neg h0]
    simp [h0, e0]
theorem cmp_ev (x y : S84) : fdb_order.f 4 x.f0 x.f1 x.f2 x.f3 x.f4 y.f0 y.f1 y.f2 y.f3 y.f4 = some (cf x y) := by
  have hc : ∀ a b, cmp_Compare_int.f a b = some (cmpi a b) := fun a b => by
    unfold cmp_Compare_int.f cmp_isNaN_int.f cmpi; simp; split <;> (try split) <;> rfl
  simp only [fdb_order.f, hc, Option.bind_some]
  unfold cf
  have e0 : rd [cmpi x.f0 y.f0, cmpi x.f1 y.f1] 0 = cmpi x.f0 y.f0 := rfl
  have e1 : rd [cmpi x.f0 y.f0, cmpi x.f1 y.f1] 1 = cmpi x.f1 y.f1 := rfl
  have w1 : wrap64 (0 + 1) = 1 := by decide +kernel
  have w2 : wrap64 (1 + 1) = 2 := by decide +kernel
  simp only [cmp_Or_int.f, cmp_Or_int.l0, List.length_cons, List.length_nil, e0, e1, w1, w2]
  by_cases h0 : cmpi x.f0 y.f0 = 0
  · by_cases h1 : cmpi x.f1 y.f1 = 0 <;> simp [h0, h1]
  · simp [h0]
theorem below_grown (W : World) (n : Nat) (os : Array Obj) : Below W.heap.size W (grow (W.drewN n) os) := by
  refine ⟨rfl, rfl, rfl, by simp [grow], fun k hk => ?_⟩
  show (W.heap ++ os)[k]? = _
  rw [Array.getElem?_append_left hk]
theorem order_grown (x y : S84) (W : World) (n : Nat) (os : Array Obj) : Calls Try.prog 65 #[.agg #[.int .i64 x.f0, .int .i64 x.f1, .int .i64 x.f2, .int .i64 x.f3, .bool x.f4], .agg #[.int .i64 y.f0, .int .i64 y.f1, .int .i64 y.f2, .int .i64 y.f3, .bool y.f4]] (grow (W.drewN n) os) fun e w' => e = .returned (.int .i64 (cf x y)) ∧ ∃ q os'', w' = grow ((grow (W.drewN n) os).drewN q) os'' := by
  refine (fdb_order.callsD 4 x.f0 x.f1 x.f2 x.f3 x.f4 y.f0 y.f1 y.f2 y.f3 y.f4 (cf x y) _ (cmp_ev x y)).mono ?_
  rintro e w' ⟨rfl, hB⟩
  exact ⟨rfl, hB.grow⟩
def pos (l : List S84) (t : S84) : Nat := l.countP fun x => decide (lx x t)
def hit (l : List S84) (t : S84) : Bool := match l[pos l t]? with | some x => decide (Same x t) | none => false
set_option maxHeartbeats 4000000 in
set_option maxRecDepth 100000 in
theorem search_calls (A : Option Addr) (c : Nat) (l : List S84) (t : S84) (w : World) (hr : Kd.C k84 w A l.length l) (hsz : l.length < 4611686018427387904) (hs : l.Pairwise lx) :
    Calls Try.prog 64 #[.slice A l.length c, .agg #[.int .i64 t.f0, .int .i64 t.f1, .int .i64 t.f2, .int .i64 t.f3, .bool t.f4], .func (.func 65) #[] #[]] w fun e w' => e = .returned (.tuple #[.int .i64 (pos l t : Nat), .bool (hit l t)]) ∧ Below w.heap.size w w' := by
  have mixed : Try.prog.follows .mixedOrders = true := by kernel_rfl
  have eg : ∀ args w, (callFunc 65 args).run Try.prog w = .ok (.enter 65 args) w := enters_of Try.func65 (by kernel_rfl) rfl
  have HR := Aside0.mk hr
  have mono : ∀ a b, (hb : b < l.length) → (hab : a ≤ b) → lx l[b] t → lx (l[a]'(by omega)) t := fun a b hb hab h => by
    rcases Nat.lt_or_ge a b with h1 | h1
    · exact lx_trans (List.pairwise_iff_getElem.1 hs a b (by omega) hb h1) h
    · obtain rfl : a = b := by omega
      exact h
  have MONO := Aside0.mk mono
  clear hr mono
  go_enter Try.func64, Try.ntmps64
  go_wp2_with ((with_reducible refine gate_dst (N := 4) rfl ?_); refine box_event ?hg (N := 4) ?hd (cs := #[.int .i64 t.f0, .int .i64 t.f1, .int .i64 t.f2, .int .i64 t.f3, .bool t.f4]) (t := 84) ?hr ?_; (case hd => rfl); (case hg => rfl); (case hr => first | (go_simp; done) | (go_simp; rfl)); intro tb hg w1 hbox hb; have HB := Aside0.mk hb; have BX := Aside0.mk hbox; clear hb hbox hg)
  go_loopg [9, 10] l.length (fun kx s9 s10 wr => ∃ lo hi : Nat, s9 = .int .i64 lo ∧ s10 = .int .i64 hi ∧ lo ≤ hi ∧ hi ≤ l.length ∧ hi - lo ≤ kx ∧ Aside0 (Below w.heap.size w wr) ∧ Aside0 (wr.heap[tb]? = some (.cells #[.int .i64 t.f0, .int .i64 t.f1, .int .i64 t.f2, .int .i64 t.f3, .bool t.f4] 84 (0, 0))) ∧
    Aside0 ((∀ q, (hq : q < l.length) → q < lo → lx l[q] t) ∧ (∀ q, (hq : q < l.length) → hi ≤ q → ¬ lx l[q] t)))
  case atStart => exact ⟨0, l.length, rfl, rfl, Nat.zero_le _, Nat.le_refl _, by omega, HB, BX, ⟨fun q hq h => absurd h (Nat.not_lt_zero _), fun q hq h => by omega⟩⟩
  case round =>
    clear HB BX
    obtain ⟨lo, hi, rfl, rfl, hlh, hin, hgm, HB, BX, II⟩ := hrel
    by_cases hlt : lo < hi
    · have hm : (lo + hi) / 2 < l.length := by omega
      obtain ⟨ad, e, hx0, hx1, hx2, hx3, hx4⟩ := atN_T84 (Kd.C_below HR.out HB.out) ((lo + hi) / 2) hm
      subst e
      have cg0 : ∀ n os, (grow (wr.drewN n) os).cell? _ = some _ := cell_grown (World.block_lt_of_cell? wr _ hx0) hx0
      have cg1 : ∀ n os, (grow (wr.drewN n) os).cell? _ = some _ := cell_grown (World.block_lt_of_cell? wr _ hx1) hx1
      have cg2 : ∀ n os, (grow (wr.drewN n) os).cell? _ = some _ := cell_grown (World.block_lt_of_cell? wr _ hx2) hx2
      have cg3 : ∀ n os, (grow (wr.drewN n) os).cell? _ = some _ := cell_grown (World.block_lt_of_cell? wr _ hx3) hx3
      have cg4 : ∀ n os, (grow (wr.drewN n) os).cell? _ = some _ := cell_grown (World.block_lt_of_cell? wr _ hx4) hx4
      have ct0 : ∀ n os, (grow (wr.drewN n) os).cell? ⟨tb, 0, none⟩ = some (.int .i64 t.f0) := cell_grown (blk_lt BX.out) ((blk_cell BX.out 0).trans rfl)
      have ct1 : ∀ n os, (grow (wr.drewN n) os).cell? ⟨tb, 1, none⟩ = some (.int .i64 t.f1) := cell_grown (blk_lt BX.out) ((blk_cell BX.out 1).trans rfl)
      have ct2 : ∀ n os, (grow (wr.drewN n) os).cell? ⟨tb, 2, none⟩ = some (.int .i64 t.f2) := cell_grown (blk_lt BX.out) ((blk_cell BX.out 2).trans rfl)
      have ct3 : ∀ n os, (grow (wr.drewN n) os).cell? ⟨tb, 3, none⟩ = some (.int .i64 t.f3) := cell_grown (blk_lt BX.out) ((blk_cell BX.out 3).trans rfl)
      have ct4 : ∀ n os, (grow (wr.drewN n) os).cell? ⟨tb, 4, none⟩ = some (.bool t.f4) := cell_grown (blk_lt BX.out) ((blk_cell BX.out 4).trans rfl)
      clear hx0 hx1 hx2 hx3 hx4
      have p0 : (0 : Int) ≤ ((lo : Int) + (hi : Int)) / 2 := by omega
      have q0 : ((lo : Int) + (hi : Int)) / 2 < (l.length : Int) := by omega
      have tn : (((lo : Int) + (hi : Int)) / 2).toNat = (lo + hi) / 2 := by omega
      have hcg := fun n os => order_grown l[(lo + hi) / 2] t wr n os
      by_cases hyx : cf l[(lo + hi) / 2] t < 0
      · go_wp2_with fail
        go_quiet_grown (first | (go_at_fn 65; refine Calls.grown_of (hcg _ _)))
        go_wp2
        go_roundg (hi - ((lo + hi) / 2 + 1))
        case measure => omega
        case rel =>
          exact ⟨(lo + hi) / 2 + 1, hi, by rw [show ((lo : Int) + (hi : Int)) / 2 + 1 = (((lo + hi) / 2 + 1 : Nat) : Int) by omega], rfl, by omega, hin, Nat.le_refl _, ⟨below_step HB.out (below_grown wr nq osq)⟩, ⟨blk_below BX.out (below_grown wr nq osq)⟩,
            ⟨fun q hq h => MONO.out q ((lo + hi) / 2) hm (by omega) ((cf_lt _ _).1 hyx), II.out.2⟩⟩
      · go_wp2_with fail
        go_quiet_grown (first | (go_at_fn 65; refine Calls.grown_of (hcg _ _)))
        go_wp2
        go_roundg ((lo + hi) / 2 - lo)
        case measure => omega
        case rel =>
          exact ⟨lo, (lo + hi) / 2, rfl, by rw [show ((lo : Int) + (hi : Int)) / 2 = (((lo + hi) / 2 : Nat) : Int) by omega], by omega, by omega, Nat.le_refl _, ⟨below_step HB.out (below_grown wr nq osq)⟩, ⟨blk_below BX.out (below_grown wr nq osq)⟩,
            ⟨II.out.1, fun q hq h hx => by have h9 := (cf_lt _ _).2 (MONO.out ((lo + hi) / 2) q hq h hx); omega⟩⟩
    · obtain rfl : hi = lo := by omega
      have hget : ∀ q, (hq : q < l.length) → l[q]! = l[q] := fun q hq => getElem!_pos l q hq
      have ecnt : pos l t = hi := by
        unfold pos
        refine Lib.countP_boundary _ l hi hin (fun q hq => ?_) (fun q h3 h4 => ?_)
        · rw [hget q (by omega)]; exact decide_eq_true (II.out.1 q (by omega) hq)
        · rw [hget q h4]; exact decide_eq_false (II.out.2 q h4 h3)
      by_cases hn : hi < l.length
      · obtain ⟨ad, e, hx0, hx1, hx2, hx3, hx4⟩ := atN_T84 (Kd.C_below HR.out HB.out) hi hn
        subst e
        have cg0 : ∀ n os, (grow (wr.drewN n) os).cell? _ = some _ := cell_grown (World.block_lt_of_cell? wr _ hx0) hx0
        have cg1 : ∀ n os, (grow (wr.drewN n) os).cell? _ = some _ := cell_grown (World.block_lt_of_cell? wr _ hx1) hx1
        have cg2 : ∀ n os, (grow (wr.drewN n) os).cell? _ = some _ := cell_grown (World.block_lt_of_cell? wr _ hx2) hx2
        have cg3 : ∀ n os, (grow (wr.drewN n) os).cell? _ = some _ := cell_grown (World.block_lt_of_cell? wr _ hx3) hx3
        have cg4 : ∀ n os, (grow (wr.drewN n) os).cell? _ = some _ := cell_grown (World.block_lt_of_cell? wr _ hx4) hx4
        have ct0 : ∀ n os, (grow (wr.drewN n) os).cell? ⟨tb, 0, none⟩ = some (.int .i64 t.f0) := cell_grown (blk_lt BX.out) ((blk_cell BX.out 0).trans rfl)
        have ct1 : ∀ n os, (grow (wr.drewN n) os).cell? ⟨tb, 1, none⟩ = some (.int .i64 t.f1) := cell_grown (blk_lt BX.out) ((blk_cell BX.out 1).trans rfl)
        have ct2 : ∀ n os, (grow (wr.drewN n) os).cell? ⟨tb, 2, none⟩ = some (.int .i64 t.f2) := cell_grown (blk_lt BX.out) ((blk_cell BX.out 2).trans rfl)
        have ct3 : ∀ n os, (grow (wr.drewN n) os).cell? ⟨tb, 3, none⟩ = some (.int .i64 t.f3) := cell_grown (blk_lt BX.out) ((blk_cell BX.out 3).trans rfl)
        have ct4 : ∀ n os, (grow (wr.drewN n) os).cell? ⟨tb, 4, none⟩ = some (.bool t.f4) := cell_grown (blk_lt BX.out) ((blk_cell BX.out 4).trans rfl)
        clear hx0 hx1 hx2 hx3 hx4
        have q0 : (hi : Int) < (l.length : Int) := by omega
        have hcg := fun n os => order_grown l[hi] t wr n os
        have HB1 := HB
        go_wp2_with fail
        go_quiet_grown (first | (go_at_fn 65; refine Calls.grown_of (hcg _ _)))
        go_wp2
        go_ret2
        have eh : hit l t = (cf l[hi] t == 0) := by unfold hit; rw [ecnt, List.getElem?_eq_getElem hn, cf_zero]
        exact ⟨by rw [ecnt, eh]; rfl, below_step HB1.out (below_grown wr nq osq)⟩
      · have e2 : hi = l.length := by omega
        subst e2
        have HB1 := HB
        go_wp2_with fail
        go_quiet (fail)
        go_wp2
        go_ret2
        have eh : hit l t = false := by unfold hit; rw [ecnt, List.getElem?_eq_none (by omega)]
        exact ⟨by rw [ecnt, eh]; rfl, pw_below_drewN HB1.out nq⟩
end Go.Proofs.Ytjhkbmdblfdlnaa.QRlb
namespace Go.Proofs.Ytjhkbmdblfdlnaa.QRlb
open Go.RowKit Go.Proofs.YtjhkbmdblfdlnaaW.PrintWords Go.Proofs.YtjhkbmdblfdlnaaW.PrintLast Go.Proofs.YtjhkbmdblfdlnaaW.PrintMore
set_option linter.unusedVariables false
set_option linter.unusedSimpArgs false
theorem run_copy_cells2 {P : Program} (w : World) (dT sT ty elem : TypeId) (b o dLen dCap : Nat) (a : Addr) (sLen sCap : Nat) (cs : List Value)
    (hu : P.underlying dT = some (.slice elem)) (hs : (P.info? elem).map (·.size) = some 5) (hn : cs.length = Nat.min sLen dLen * 5)
    (hsrc : ∀ j v, cs[j]? = some v → w.cell? (a.add j) = some v) (hc : ∀ j, j < cs.length → (w.cell? ⟨b, o + j, none⟩).isSome = true) (hf : ∀ j, j < cs.length → w.frozen? ⟨b, o + j, none⟩ = false) (h1 : ∀ v ∈ cs, v.oneCell' = true) :
    (Builtin.copy_ #[dT, sT] ty #[.slice (some ⟨b, o, none⟩) dLen dCap, .slice (some a) sLen sCap]).run P w = .ok (goInt (Nat.min sLen dLen)) (w.setCells b o cs) := by
  have hl := run_loadCells_list (P := P) w a cs hsrc
  have hst := run_storeCells_cells (P := P) b o cs 0 w (by simpa using hc) (by simpa using hf) h1
  cases hq : P.info? elem with
  | none => simp [hq] at hs
  | some i =>
    have hi : i.size = 5 := by simpa [hq] using hs
    simp [Builtin.copy_, run_underlying hu, Builtin.lenOf, Builtin.firstCells, sizeOf, typeInfo, hq, hi, ← hn, hl, hst]
theorem flat_drop (l : List S84) (i : Nat) : (flat84 l).drop (i * 5) = flat84 (l.drop i) := by
  by_cases h : i ≤ l.length
  · have e : flat84 l = flat84 (l.take i) ++ flat84 (l.drop i) := by rw [← flat_append, List.take_append_drop]
    rw [e, List.drop_left' (by rw [flat_len, List.length_take]; omega)]
  · rw [List.drop_of_length_le (by rw [flat_len]; omega), List.drop_of_length_le (by omega)]; rfl
theorem info84 : (Try.prog.info? 84).map (fun i => (i.zero, i.size, i.bytes)) = some (some (.agg #[(.int .i64 0), (.int .i64 0), (.int .i64 0), (.int .i64 0), (.bool false)]), 5, 40) := by kernel_rfl
theorem info84s : (Try.prog.info? 84).map (·.size) = some 5 := by kernel_rfl
theorem func77 : Try.prog.funcs[77]? = some Try.f77 := by kernel_rfl
set_option maxHeartbeats 4000000 in
set_option maxRecDepth 100000 in
theorem insert_shift (w0 : World) (blk cap i vb : Nat) (l : List S84) (t : S84) (w : World) (hi : i < l.length) (hroom : l.length + 1 ≤ cap) (hc63 : cap ≤ 9223372036854775807) (hr : Row w0 blk cap l w)
    (hvb : w.heap[vb]? = some (.cells #[.int .i64 t.f0, .int .i64 t.f1, .int .i64 t.f2, .int .i64 t.f3, .bool t.f4] 84 (0, 0))) (hne : vb ≠ blk) :
    Calls Try.prog 63 #[.slice (some ⟨blk, 0, none⟩) l.length cap, .int .i64 i, .slice (some ⟨vb, 0, none⟩) 1 1] w fun e w' =>
      e = .returned (.slice (some ⟨blk, 0, none⟩) (l.length + 1) cap) ∧ Row w0 blk cap (l.take i ++ [t] ++ l.drop i) w' := by
  have mixed : Try.prog.follows .mixedOrders = true := by kernel_rfl
  obtain ⟨n, hn⟩ : ∃ n, n = l.length := ⟨_, rfl⟩
  have hz2 : ¬ ((i : Int) = (n : Int)) := by omega
  have hv0 : w.cell? ⟨vb, 0, none⟩ = some (.int .i64 t.f0) := (blk_cell hvb 0).trans rfl
  have hv1 : w.cell? ⟨vb, 1, none⟩ = some (.int .i64 t.f1) := (blk_cell hvb 1).trans rfl
  have hv2 : w.cell? ⟨vb, 2, none⟩ = some (.int .i64 t.f2) := (blk_cell hvb 2).trans rfl
  have hv3 : w.cell? ⟨vb, 3, none⟩ = some (.int .i64 t.f3) := (blk_cell hvb 3).trans rfl
  have hv4 : w.cell? ⟨vb, 4, none⟩ = some (.bool t.f4) := (blk_cell hvb 4).trans rfl
  have hsa : w.shape? vb = some (84, 5) := by simp [World.shape?, hvb]
  obtain ⟨kB, hsb, hkB⟩ : ∃ kB, w.shape? blk = some (84, kB) ∧ kB ≠ 0 := by
    obtain ⟨cur, hb, hs, _⟩ := hr.cells
    exact ⟨cur.size, by simp [World.shape?, hb], by omega⟩
  have hov : ∀ lb cb, (callFunc 77 #[.slice (some ⟨vb, 0, none⟩) 1 1, .slice (some ⟨blk, (i + 1) * 5, none⟩) lb cb]).run Try.prog w = .ok (.value (.bool false)) w := fun lb cb => by
    rw [run_callFunc_extern func77 (by kernel_rfl) (by kernel_rfl) (by kernel_rfl) (e := Extern.SlicesOverlaps.overlaps #[60, 60] #[4]) (by kernel_rfl),
      Lib.run_overlaps_apart w 60 4 84 Try.underlying60 5 Try.sizeOf84 ⟨vb, 0, none⟩ ⟨blk, (i + 1) * 5, none⟩ 1 1 lb cb hne 84 84 5 kB hsa hsb hkB (blk_frozen hvb _) (blk_frozen hvb _)]
    rfl
  have hdl : (flat84 (l.drop i)).length = (n - i) * 5 := by rw [flat_len, List.length_drop, hn]
  have hcp1 : ∀ ty dc sc, (Builtin.copy_ #[60, 60] ty #[.slice (some ⟨blk, (i + 1) * 5, none⟩) (n - i) dc, .slice (some ⟨blk, i * 5, none⟩) (n + 1 - i) sc]).run Try.prog w.drew = .ok (goInt (Nat.min (n + 1 - i) (n - i))) (w.drew.setCells blk ((i + 1) * 5) (flat84 (l.drop i))) := fun ty dc sc =>
    run_copy_cells2 w.drew 60 60 ty 84 blk ((i + 1) * 5) (n - i) dc ⟨blk, i * 5, none⟩ (n + 1 - i) sc (flat84 (l.drop i)) Try.underlying60 info84s (by rw [hdl]; simp only [Nat.min_def]; split <;> omega)
      (fun j v hj => by rw [Addr.add_lit]; rw [← flat_drop, List.getElem?_drop] at hj; exact hr.drew.cell (i * 5 + j) v hj)
      (fun j hj => (hr.drew.spare _ (by omega)).1) (fun j hj => (hr.drew.spare _ (by omega)).2) (flat_one _)
  have R1 : Row w0 blk cap (l.take (i + 1) ++ l.drop i) (w.drew.setCells blk ((i + 1) * 5) (flat84 (l.drop i))) := by
    have := hr.drew.write (i + 1) (l.drop i) (by omega) (by rw [List.length_drop]; omega)
    have e : l.drop (i + 1 + (l.drop i).length) = [] := List.drop_of_length_le (by rw [List.length_drop]; omega)
    rw [e, List.append_nil] at this
    exact this
  obtain ⟨W1, hW1⟩ : ∃ W1, W1 = w.drew.setCells blk ((i + 1) * 5) (flat84 (l.drop i)) := ⟨_, rfl⟩
  rw [← hW1] at hcp1 R1
  have hlen1 : (l.take (i + 1) ++ l.drop i).length = n + 1 := by rw [List.length_append, List.length_take, List.length_drop]; omega
  have hcv : ∀ q, W1.cell? ⟨vb, q, none⟩ = w.cell? ⟨vb, q, none⟩ := fun q => by
    rw [hW1, World.cell?_setCells_out _ _ _ _ _ (fun h _ => absurd h hne)]; rfl
  have hcp2 : ∀ ty dc, (Builtin.copy_ #[60, 60] ty #[.slice (some ⟨blk, i * 5, none⟩) (n + 1 - i) dc, .slice (some ⟨vb, 0, none⟩) 1 1]).run Try.prog W1 = .ok (goInt (Nat.min 1 (n + 1 - i))) (W1.setCells blk (i * 5) (flat84 [t])) := fun ty dc =>
    run_copy_cells2 W1 60 60 ty 84 blk (i * 5) (n + 1 - i) dc ⟨vb, 0, none⟩ 1 1 (flat84 [t]) Try.underlying60 info84s (by rw [flat_len]; simp only [List.length_singleton, Nat.min_def]; split <;> omega)
      (fun j v hj => by
        rw [Addr.add_lit, hcv]
        match j with
        | 0 => exact hv0.trans hj
        | 1 => exact hv1.trans hj
        | 2 => exact hv2.trans hj
        | 3 => exact hv3.trans hj
        | 4 => exact hv4.trans hj
        | j + 5 => simp [flat84, enc84] at hj)
      (fun j hj => (R1.spare _ (by simp at hj; omega)).1) (fun j hj => (R1.spare _ (by simp at hj; omega)).2) (flat_one _)
  have R2 : Row w0 blk cap (l.take i ++ [t] ++ l.drop i) (W1.setCells blk (i * 5) (flat84 [t])) := by
    have h := R1.write i [t] (by omega) (by simp; omega)
    have e1 : (l.take (i + 1) ++ l.drop i).take i = l.take i := by
      rw [List.take_append_of_le_length (by rw [List.length_take]; omega), List.take_take, Nat.min_eq_left (by omega)]
    have e2 : (l.take (i + 1) ++ l.drop i).drop (i + [t].length) = l.drop i := by
      rw [List.length_singleton, List.drop_left' (by rw [List.length_take]; omega)]
    rw [e1, e2] at h
    exact h
  have HR2 := Aside0.mk R2
  clear R1 R2
  rw [← hn]
  have hw1 : IntKind.i64.wrap ((i : Int) + 1) = (i : Int) + 1 := by rw [IntKind.wrap_i64]; omega
  have htn : ((i : Int) + 1).toNat = i + 1 := by omega
  have hin : i < n := by omega
  have hb2 : ¬ (cap = i + 1) := by omega
  have hb4 : ¬ (cap = i) := by omega
  have hrm : n + 1 ≤ cap := by omega
  have hb1 : (0 : Int) ≤ (i : Int) + 1 := by omega
  have hb3 : (i : Int) + 1 ≤ (n : Int) + 1 := by omega
  have hb5 : (i : Int) ≤ (n : Int) + 1 := by omega
  have hb6 : i ≤ n := by omega
  have hb7 : i ≤ n + 1 := by omega
  clear hn hr hvb hcv hW1
  go_enter Try.func63, Try.ntmps63
  go_wp2_with (simp only [hov])
  go_region_law_o (refine step_copy_runI rfl _ _ 60 60 rfl _ _ (by simp [Act.eval, Act.put]) (by simp [Act.eval, Act.put]) (hcp1 _ _ _) ?_)
  go_wp2_with (at_builtin; refine wpList_copy_runI _ rfl _ _ 60 60 rfl _ _ rfl rfl (hcp2 _ _) ?_)
  go_ret
  exact ⟨rfl, HR2.out⟩
set_option maxHeartbeats 4000000 in
set_option maxRecDepth 100000 in
theorem insert_grow (w0 : World) (blk cap i vb : Nat) (l : List S84) (t : S84) (w : World) (hi : i < l.length) (hroom : cap < l.length + 1) (hbig : (l.length + 1) * 40 ≤ 140737488355328) (hr : Row w0 blk cap l w)
    (hvb : w.heap[vb]? = some (.cells #[.int .i64 t.f0, .int .i64 t.f1, .int .i64 t.f2, .int .i64 t.f3, .bool t.f4] 84 (0, 0))) :
    Calls Try.prog 63 #[.slice (some ⟨blk, 0, none⟩) l.length cap, .int .i64 i, .slice (some ⟨vb, 0, none⟩) 1 1] w fun e w' =>
      ∃ G, e = .returned (.slice (some ⟨w.heap.size, 0, none⟩) (l.length + 1) G) ∧ l.length + 1 ≤ G ∧ G ≤ maxLen ∧ Row w w.heap.size G (l.take i ++ [t] ++ l.drop i) w' := by
  have mixed : Try.prog.follows .mixedOrders = true := by kernel_rfl
  have hfit := hr.fits
  obtain ⟨n, hn⟩ : ∃ n, n = l.length := ⟨_, rfl⟩
  have hz2 : ¬ ((i : Int) = (n : Int)) := by omega
  have hz3 : (cap : Int) < (n : Int) + 1 := by omega
  obtain ⟨i0, hi0, hz0, hzs, hzb⟩ := info_parts info84
  have hbw : blk < w.heap.size := hr.lt
  have hvw : vb < w.heap.size := blk_lt hvb
  have hv0 : w.cell? ⟨vb, 0, none⟩ = some (.int .i64 t.f0) := (blk_cell hvb 0).trans rfl
  have hv1 : w.cell? ⟨vb, 1, none⟩ = some (.int .i64 t.f1) := (blk_cell hvb 1).trans rfl
  have hv2 : w.cell? ⟨vb, 2, none⟩ = some (.int .i64 t.f2) := (blk_cell hvb 2).trans rfl
  have hv3 : w.cell? ⟨vb, 3, none⟩ = some (.int .i64 t.f3) := (blk_cell hvb 3).trans rfl
  have hv4 : w.cell? ⟨vb, 4, none⟩ = some (.bool t.f4) := (blk_cell hvb 4).trans rfl
  have hkk : (n : Int) + 1 - (i : Int) = ((n + 1 - i : Nat) : Int) := by omega
  have hik : i + (n + 1 - i) = n + 1 := by omega
  have hold : (Builtin.firstCells i0.size i (.slice (some ⟨blk, 0, none⟩) i cap)).run Try.prog w.drew = .ok (flat84 (l.take i)).toArray w.drew := by
    rw [hzs]
    exact run_firstCells_some w.drew 5 i ⟨blk, 0, none⟩ i cap (flat84 (l.take i)) (by rw [flat_len, List.length_take]; omega) (fun j v hj => by
      rw [Addr.add_lit, Nat.zero_add]
      exact (hr.drew.take i).cell j v hj)
  have hrz : ∀ ty, (Builtin.append_ #[60, 3] ty #[.slice (some ⟨blk, 0, none⟩) i cap, .int .i64 ((n : Int) + 1 - (i : Int))]).run Try.prog w =
      .ok (.slice (some ⟨w.heap.size, 0, none⟩) (n + 1) (grownCap w (n + 1) cap 84)) (w.drew.alloc (.cells ((flat84 (l.take i)).toArray ++ Builtin.zeroCells (Value.agg #[.int .i64 0, .int .i64 0, .int .i64 0, .int .i64 0, .bool false]).cells (n + 1 - i) ++ Builtin.zeroCells (Value.agg #[.int .i64 0, .int .i64 0, .int .i64 0, .int .i64 0, .bool false]).cells (grownCap w (n + 1) cap 84 - (n + 1))) 84)) := fun ty => by
    have h := Lib.run_append_grow_zeros w 60 3 ty 84 i0 _ .i64 .i64 Try.underlying60 Try.underlying3 hi0 hz0 (some ⟨blk, 0, none⟩) i cap (flat84 (l.take i)) hold (n + 1 - i) (by omega) (by omega) (by omega) (by omega) (by rw [hzb]; omega) (by rw [hzb, hik]; exact growslice_fits (by omega) (by omega))
    rw [hik] at h
    rw [hkk]
    exact h
  obtain ⟨G, hG⟩ : ∃ G, G = grownCap w (n + 1) cap 84 := ⟨_, rfl⟩
  have hGn : n + 1 ≤ G := by rw [hG]; exact grownCap_ge w _ _ _
  have hGm : G ≤ maxLen := by rw [hG]; exact grownCap_le_maxLen w (n + 1) cap 84 (by unfold maxLen; omega)
  have hG63 : G ≤ 9223372036854775807 := by unfold maxLen at hGm; omega
  rw [← hG] at hrz
  obtain ⟨W1, hW1⟩ : ∃ W1, W1 = w.drew.alloc (.cells ((flat84 (l.take i)).toArray ++ Builtin.zeroCells (Value.agg #[.int .i64 0, .int .i64 0, .int .i64 0, .int .i64 0, .bool false]).cells (n + 1 - i) ++ Builtin.zeroCells (Value.agg #[.int .i64 0, .int .i64 0, .int .i64 0, .int .i64 0, .bool false]).cells (G - (n + 1))) 84) := ⟨_, rfl⟩
  rw [← hW1] at hrz
  have lz : ∀ m, (Builtin.zeroCells (Value.agg #[.int .i64 0, .int .i64 0, .int .i64 0, .int .i64 0, .bool false]).cells m).size = m * 5 := fun m => by simp [Builtin.zeroCells, Value.cells]
  have R0 : Row w w.heap.size G (l.take i ++ List.replicate (n + 1 - i) z84) W1 := by
    refine ⟨by rw [hW1]; exact grownBy_below (below_alloc (below_drew1 (Below.refl _ _)) _), ⟨_, by rw [hW1]; exact blk_new w.drew _, ?_, ?_⟩, by simp; omega⟩
    · simp only [Array.size_append, lz, List.size_toArray, flat_len, List.length_take]; omega
    · have e : (l.take i ++ List.replicate (n + 1 - i) z84).length * 5 = (flat84 (l.take i ++ List.replicate (n + 1 - i) z84)).length := by rw [flat_len]
      rw [e, flat_append, Array.toList_append, Array.toList_append, ← zeros84]
      exact List.take_left' rfl
  have R1 : Row w w.heap.size G (l.take i ++ [t] ++ List.replicate (n - i) z84) (W1.setCells w.heap.size (i * 5) (flat84 [t])) := by
    have h := R0.write i [t] (by simp; omega) (by simp; omega)
    have e1 : (l.take i ++ List.replicate (n + 1 - i) z84).take i = l.take i := List.take_left' (by rw [List.length_take]; omega)
    have e2 : (l.take i ++ List.replicate (n + 1 - i) z84).drop (i + [t].length) = List.replicate (n - i) z84 := by
      rw [List.length_singleton, List.drop_append, List.drop_of_length_le (by rw [List.length_take]; omega), List.nil_append, List.drop_replicate, List.length_take]
      congr 1; omega
    rw [e1, e2] at h
    exact h
  obtain ⟨W2, hW2⟩ : ∃ W2, W2 = W1.setCells w.heap.size (i * 5) (flat84 [t]) := ⟨_, rfl⟩
  have hB1 : Below w.heap.size w W1 := by rw [hW1]; exact below_alloc (below_drew1 (Below.refl _ _)) _
  have hcpA : ∀ ty dc, (Builtin.copy_ #[60, 60] ty #[.slice (some ⟨w.heap.size, i * 5, none⟩) (n + 1 - i) dc, .slice (some ⟨vb, 0, none⟩) 1 1]).run Try.prog W1 = .ok (goInt (Nat.min 1 (n + 1 - i))) W2 := fun ty dc => by
    rw [hW2]
    exact run_copy_cells2 W1 60 60 ty 84 w.heap.size (i * 5) (n + 1 - i) dc ⟨vb, 0, none⟩ 1 1 (flat84 [t]) Try.underlying60 info84s (by rw [flat_len]; simp only [List.length_singleton, Nat.min_def]; split <;> omega)
      (fun j v hj => by
        rw [Addr.add_lit, hB1.cell (p := ⟨vb, 0 + j, none⟩) hvw]
        match j with
        | 0 => exact hv0.trans hj
        | 1 => exact hv1.trans hj
        | 2 => exact hv2.trans hj
        | 3 => exact hv3.trans hj
        | 4 => exact hv4.trans hj
        | j + 5 => simp [flat84, enc84] at hj)
      (fun j hj => (R0.spare _ (by simp at hj; omega)).1) (fun j hj => (R0.spare _ (by simp at hj; omega)).2) (flat_one _)
  rw [← hW2] at R1
  have hdl : (flat84 (l.drop i)).length = (n - i) * 5 := by rw [flat_len, List.length_drop, hn]
  obtain ⟨W3, hW3⟩ : ∃ W3, W3 = W2.drew.setCells w.heap.size ((i + 1) * 5) (flat84 (l.drop i)) := ⟨_, rfl⟩
  have hcpB : ∀ ty dc sc, (Builtin.copy_ #[60, 60] ty #[.slice (some ⟨w.heap.size, (i + 1) * 5, none⟩) (n - i) dc, .slice (some ⟨blk, i * 5, none⟩) (n - i) sc]).run Try.prog W2.drew = .ok (goInt (Nat.min (n - i) (n - i))) W3 := fun ty dc sc => by
    rw [hW3]
    exact run_copy_cells2 W2.drew 60 60 ty 84 w.heap.size ((i + 1) * 5) (n - i) dc ⟨blk, i * 5, none⟩ (n - i) sc (flat84 (l.drop i)) Try.underlying60 info84s (by rw [hdl]; simp only [Nat.min_def]; split <;> omega)
      (fun j v hj => by
        rw [Addr.add_lit]
        rw [← flat_drop, List.getElem?_drop] at hj
        have hc := hr.cell (i * 5 + j) v hj
        have h2 : W2.drew.cell? ⟨blk, i * 5 + j, none⟩ = W1.cell? ⟨blk, i * 5 + j, none⟩ := by
          rw [hW2]
          show (W1.setCells w.heap.size (i * 5) (flat84 [t])).cell? _ = _
          rw [World.cell?_setCells_out _ _ _ _ _ (fun h _ => absurd (show blk = w.heap.size from h) (by omega))]
        rw [h2, hB1.cell (p := ⟨blk, i * 5 + j, none⟩) hbw]
        exact hc)
      (fun j hj => (R1.drew.spare _ (by omega)).1) (fun j hj => (R1.drew.spare _ (by omega)).2) (flat_one _)
  have R2 : Row w w.heap.size G (l.take i ++ [t] ++ l.drop i) W3 := by
    rw [hW3]
    have hl1 : (l.take i ++ [t]).length = i + 1 := by rw [List.length_append, List.length_take, List.length_singleton]; omega
    have h := R1.drew.write (i + 1) (l.drop i) (by rw [List.length_append, hl1]; omega) (by rw [List.length_drop]; omega)
    have e1 : (l.take i ++ [t] ++ List.replicate (n - i) z84).take (i + 1) = l.take i ++ [t] := List.take_left' hl1
    have e2 : (l.take i ++ [t] ++ List.replicate (n - i) z84).drop (i + 1 + (l.drop i).length) = [] := List.drop_of_length_le (by rw [List.length_append, hl1, List.length_replicate, List.length_drop]; omega)
    rw [e1, e2, List.append_nil] at h
    exact h
  have HR2 := Aside0.mk R2
  have HGM := Aside0.mk hGm
  clear R0 R1 R2 hGm
  rw [← hn]
  have hw1 : IntKind.i64.wrap ((i : Int) + 1) = (i : Int) + 1 := by rw [IntKind.wrap_i64]; omega
  have htn : ((i : Int) + 1).toNat = i + 1 := by omega
  have hin : i < n := by omega
  have hGi : ¬ (G = i) := by omega
  have hGim : ¬ (G = i + 1) := by omega
  have hci : ¬ (cap = i) := by omega
  have hb1 : (0 : Int) ≤ (i : Int) + 1 := by omega
  have hb3 : (i : Int) + 1 ≤ (n : Int) + 1 := by omega
  have hb5 : (i : Int) ≤ (n : Int) + 1 := by omega
  have hb6 : i ≤ n := by omega
  have hb7 : i ≤ n + 1 := by omega
  clear hn hr hvb hW1 hW2 hW3 hB1 hold hkk hik hG lz hdl hv0 hv1 hv2 hv3 hv4
  go_enter Try.func63, Try.ntmps63
  go_wp2_with (first
    | (at_builtin; refine Lib.wpList_append_run _ rfl _ _ _ _ rfl _ _ rfl rfl _ _ (hrz _) ?_)
    | (at_builtin; refine wpList_copy_runI _ rfl _ _ 60 60 rfl _ _ rfl rfl (hcpA _ _) ?_))
  go_region_law_o (refine step_copy_runI rfl _ _ 60 60 rfl (.slice (some ⟨w.heap.size, (i + 1) * 5, none⟩) (n - i) (G - (i + 1))) (.slice (some ⟨blk, i * 5, none⟩) (n - i) (cap - i)) (by simp [Act.eval, Act.put]) (by simp [Act.eval, Act.put]) (hcpB 3 (G - (i + 1)) (cap - i)) ?_)
  go_wp2
  go_ret
  exact ⟨G, rfl, hGn, HGM.out, HR2.out⟩
end Go.Proofs.Ytjhkbmdblfdlnaa.QRlb
namespace Go.Proofs.Ytjhkbmdblfdlnaa.QRlb
open Go.RowKit Go.Proofs.YtjhkbmdblfdlnaaW.PrintWords Go.Proofs.YtjhkbmdblfdlnaaW.PrintLast Go.Proofs.YtjhkbmdblfdlnaaW.PrintMore
set_option linter.unusedVariables false
set_option linter.unusedSimpArgs false
abbrev Blk (u : Value) : Nat → Prop := fun k => u.ownBlock = some k
abbrev R84 (w : World) (base : Nat) (g : Nat) (u : Value) (l : List S84) : Prop := Kd.R k84 84 w base (fun k => k ≠ g) u l
theorem R84.kept {w W : World} {base g : Nat} {u : Value} {l : List S84} {S : Nat → Prop} (h : R84 w base g u l) (hk : Kept w W S) (hn : ∀ k, u.ownBlock = some k → ¬ S k) : R84 W base g u l := by
  rcases Row.ofR h with ⟨rfl, rfl⟩ | ⟨b, cap, rfl, hok, hb, hm, hr⟩
  · exact Kd.R_nil _ _ _ _ _
  · obtain ⟨cur, hc, hs, ht⟩ := hr.cells
    exact Row.toR (w := W) ⟨World.grownBy.refl _ _, ⟨cur, blk_kept hc hk (hn b rfl), hs, ht⟩, hr.fits⟩ hb hok hm
theorem R84.len {w : World} {base g : Nat} {u : Value} {l : List S84} (h : R84 w base g u l) : ∃ A c, u = .slice A l.length c ∧ l.length ≤ c ∧ Kd.C k84 w A l.length l := by
  obtain ⟨A, c, rfl⟩ := Kd.R_slice h
  have := Kd.R_reads' h
  exact ⟨A, c, rfl, this.2.1, this.2.2⟩
structure Turn (w0 w : World) (base g : Nat) (u v : Value) (l : List S84) (W : World) : Prop where
  row : R84 W base g v l
  bel : Below base w0 W
  kept : Kept w W (Blk u)
  own : v.ownBlock = u.ownBlock ∨ ∀ k, v.ownBlock = some k → w.heap.size ≤ k
theorem own_cap (A : Option Addr) (n c c' : Nat) : (Value.slice A n c).ownBlock = (Value.slice A n c').ownBlock := by cases A <;> rfl
theorem C_one {w : World} {vb : Nat} {t : S84} (h : w.heap[vb]? = some (.cells #[.int .i64 t.f0, .int .i64 t.f1, .int .i64 t.f2, .int .i64 t.f3, .bool t.f4] 84 (0, 0))) : Kd.C k84 w (some ⟨vb, 0, none⟩) 1 [t] := by
  have hr : Row w vb 1 [t] w := ⟨World.grownBy.refl _ _, ⟨_, h, rfl, rfl⟩, Nat.le_refl _⟩
  exact (Kd.R_reads' (hr.toR (base := 0) (ok := fun _ => True) (Nat.zero_le _) trivial (by decide))).2.2
set_option maxHeartbeats 4000000 in
set_option maxRecDepth 100000 in
theorem insert_end (base g : Nat) (u : Value) (l : List S84) (w0 w : World) (hB : Below base w0 w) (hb : base ≤ w.heap.size) (hg : g < w.heap.size) (ho : R84 w base g u l) (t : S84) (vb : Nat)
    (hvb : w.heap[vb]? = some (.cells #[.int .i64 t.f0, .int .i64 t.f1, .int .i64 t.f2, .int .i64 t.f3, .bool t.f4] 84 (0, 0))) (hbig : (l.length + 1) * 40 ≤ 140737488355328) :
    Calls Try.prog 63 #[u, .int .i64 (l.length : Nat), .slice (some ⟨vb, 0, none⟩) 1 1] w fun e w' => ∃ v, e = .returned v ∧ Turn w0 w base g u v (l ++ [t]) w' := by
  have hC := C_one hvb
  obtain ⟨A, c, rfl, hle, hCl⟩ := ho.len
  have HO := Aside0.mk ho
  have HC := Aside0.mk hC
  have HB := Aside0.mk hB
  have HS := Aside0.mk hb
  have HL := Aside0.mk hbig
  have HG := Aside0.mk hg
  clear ho hC hB hb hbig hCl hvb hg
  go_enter Try.func63, Try.ntmps63
  go_wp2_with ((with_reducible refine gate_builtin (b := .append) (xs := #[.tmp 23, .tmp 24]) rfl ?_); at_builtin; refine Kd.R_append_rows k84 (w0 := w0) base rfl (.tmp 23) (.tmp 24) 60 84 (.agg #[(.int .i64 0), (.int .i64 0), (.int .i64 0), (.int .i64 0), (.bool false)]) 40 rfl Try.underlying60 info84 rfl (by decide) (by omega) (.slice A l.length c) l [t] (some ⟨vb, 0, none⟩) 1 1 (fun k => k ≠ g) (fun _ => False) rfl rfl ?aO ?aR (fun _ _ h => h) (fun _ h => h.elim) ?aF ?aB ?aS ?aL ?_; (case aR => exact HC.out); (case aB => exact HB.out); (case aF => exact (fun k hk => by have := HG.out; omega)); (case aO => exact HO.out); (case aS => exact HS.out); (case aL => have := HL.out; omega); intro v2 w2 ho2 hb2 hg2 hat; have HO2 := Aside0.mk ho2; have HB2 := Aside0.mk hb2; have HG2 := Aside0.mk hg2; have HA2 := Aside0.mk hat; clear ho2 hb2 hg2 hat)
  all_goals (go_ret; exact ⟨v2, rfl, HO2.out, HB2.out, Kept.of_grown HG2.out (Kept.refl _ _) (fun k hk => .inl ((own_cap _ _ _ _).trans hk)), by rcases HA2.out with h | ⟨q, h, hq⟩; exact .inl (h.trans (own_cap _ _ _ _)); exact .inr (fun k hk => by rw [h] at hk; cases hk; exact hq)⟩)
theorem insert_calls (base g : Nat) (u : Value) (l : List S84) (w0 w : World) (hB : Below base w0 w) (hb : base ≤ w.heap.size) (hg : g < w.heap.size) (ho : R84 w base g u l) (i : Nat) (hi : i ≤ l.length) (t : S84) (vb : Nat)
    (hvb : w.heap[vb]? = some (.cells #[.int .i64 t.f0, .int .i64 t.f1, .int .i64 t.f2, .int .i64 t.f3, .bool t.f4] 84 (0, 0))) (hne : u.ownBlock ≠ some vb) (hbig : (l.length + 1) * 40 ≤ 140737488355328) :
    Calls Try.prog 63 #[u, .int .i64 i, .slice (some ⟨vb, 0, none⟩) 1 1] w fun e w' => ∃ v, e = .returned v ∧ Turn w0 w base g u v (l.take i ++ [t] ++ l.drop i) w' := by
  by_cases hend : i = l.length
  · subst hend
    rw [List.take_of_length_le (Nat.le_refl _), List.drop_of_length_le (Nat.le_refl _), List.append_nil]
    exact insert_end base g u l w0 w hB hb hg ho t vb hvb hbig
  · rcases Row.ofR ho with ⟨rfl, rfl⟩ | ⟨b, cap, rfl, hok, hbb, hm, hr⟩
    · simp at hi hend; omega
    · have hnb : vb ≠ b := fun e => hne (by rw [e]; rfl)
      have hlt := hr.lt
      by_cases hroom : l.length + 1 ≤ cap
      · refine (insert_shift w b cap i vb l t w (by omega) hroom (by unfold maxLen at hm; omega) hr hvb hnb).mono ?_
        rintro e w' ⟨rfl, hR⟩
        refine ⟨_, rfl, ?_, Below.grown hB hR.grown hb (fun k hk => by cases hk; exact hbb), Kept.of_grown hR.grown (Kept.refl _ _) (fun k hk => .inl (by cases hk; rfl)), .inl rfl⟩
        have hl : (l.take i ++ [t] ++ l.drop i).length = l.length + 1 := by simp; omega
        have := hR.toR (ok := fun k => k ≠ g) hbb hok hm
        rw [hl] at this
        exact this
      · refine (insert_grow w b cap i vb l t w (by omega) (by omega) hbig hr hvb).mono ?_
        rintro e w' ⟨G, rfl, hG, hGm, hR⟩
        refine ⟨_, rfl, ?_, Below.grown hB hR.grown hb (fun k hk => by cases hk; exact hb), Kept.of_grown hR.grown (Kept.refl _ _) (fun k hk => .inr (by cases hk; exact Nat.le_refl _)), .inr (fun k hk => by cases hk; exact Nat.le_refl _)⟩
        have hl : (l.take i ++ [t] ++ l.drop i).length = l.length + 1 := by simp; omega
        have := hR.toR (ok := fun k => k ≠ g) hb (by omega) hGm
        rw [hl] at this
        exact this
theorem step_append_runI {P : Program} {ops : Array Oper} {o : Oper} {a : Act} {w : World} {K : Act → World → Prop} {Q : Exit → Act → World → Prop} {E : Prop}
    (hg : o.guard = none) (d x : Operand) (dT sT : TypeId) (hop : o.op = Op.call { callee := Callee.builtin Builtin.append, args := #[d, x], argTypes := #[dT, sT] })
    (v u : Value) (hd : a.eval d = v) (hx : a.eval x = u) {v' : Value} {w' : World} (hr : (Builtin.append_ #[dT, sT] o.type #[v, u]).run P w = .ok v' w') (hK : K (a.put o.dst v') w') :
    if Region.wanted o (yielded ops a.tmps) = true then Oper.wp P o a w K Q else E := by
  have hw : Region.wanted o (yielded ops a.tmps) = true := by simp [Region.wanted, hg]
  rw [if_pos hw]
  unfold Oper.wp
  simp [execOp, hop, resolve, invoke, builtin, hd, hx, hr, Result.andThen]
  exact hK
theorem del_append (w : World) (blk cap i : Nat) (l : List S84) (W : World) (hi : i < l.length) (h : Row w blk cap l W) (ty : TypeId) (a : Addr) (c2 : Nat) (ha : cap ≠ i + 1 → a = ⟨blk, (i + 1) * 5, none⟩) :
    (Builtin.append_ #[60, 60] ty #[.slice (some ⟨blk, 0, none⟩) i cap, .slice (some a) (l.length - (i + 1)) c2]).run Try.prog W = .ok (.slice (some ⟨blk, 0, none⟩) (l.length - 1) cap) (W.setCells blk (i * 5) (flat84 (l.drop (i + 1)))) := by
  have hf := h.fits
  obtain ⟨i0, hi0, hsz⟩ := Option.map_eq_some_iff.1 info84s
  have hdl : (flat84 (l.drop (i + 1))).length = (l.length - (i + 1)) * 5 := by rw [flat_len, List.length_drop]
  have := run_append_room_cells (P := Try.prog) W 60 ty 84 i0 Try.underlying60 hi0 blk 0 i cap a (l.length - (i + 1)) c2 (flat84 (l.drop (i + 1))) (by rw [hdl, hsz])
    (fun j v hj => by
      by_cases hc : cap = i + 1
      · have : (flat84 (l.drop (i + 1))) = [] := by rw [List.drop_of_length_le (by omega)]; rfl
        rw [this] at hj; simp at hj
      · rw [ha hc, Addr.add_lit]
        rw [← flat_drop, List.getElem?_drop] at hj
        exact h.cell _ _ hj)
    (flat_one _) (by omega) (fun j hj => by rw [hsz]; exact (h.spare _ (by omega)).1) (fun j hj => h.fz _)
  rw [hsz, Nat.zero_add, show i + (l.length - (i + 1)) = l.length - 1 by omega] at this
  exact this
theorem del_row (w : World) (blk cap i : Nat) (l : List S84) (W : World) (hi : i < l.length) (h : Row w blk cap l W) : Row w blk cap (l.take i ++ l.drop (i + 1) ++ l.drop (l.length - 1)) (W.setCells blk (i * 5) (flat84 (l.drop (i + 1)))) := by
  have h1 := h.write i (l.drop (i + 1)) (by omega) (by have := h.fits; rw [List.length_drop]; omega)
  rw [List.length_drop, show i + (l.length - (i + 1)) = l.length - 1 by omega] at h1
  exact h1
set_option maxHeartbeats 8000000 in
set_option maxRecDepth 100000 in
theorem del_calls_row (w0 : World) (blk cap i : Nat) (l : List S84) (w : World) (hi : i < l.length) (hm : cap ≤ 9223372036854775807) (hr : Row w0 blk cap l w) :
    Calls Try.prog 62 #[.slice (some ⟨blk, 0, none⟩) l.length cap, .int .i64 i, .int .i64 ((i + 1 : Nat) : Int)] w fun e w' =>
      e = .returned (.slice (some ⟨blk, 0, none⟩) (l.length - 1) cap) ∧ Row w0 blk cap (l.eraseIdx i) w' := by
  have mixed : Try.prog.follows .mixedOrders = true := by kernel_rfl
  have hf := hr.fits
  have hlen1 : (l.take i ++ l.drop (i + 1)).length = l.length - 1 := by rw [List.length_append, List.length_take, List.length_drop]; omega
  have hlen : (l.take i ++ l.drop (i + 1) ++ l.drop (l.length - 1)).length = l.length := by rw [List.length_append, hlen1, List.length_drop]; omega
  have R1 := del_row w0 blk cap i l w.drew hi hr.drew
  obtain ⟨W1, hW1⟩ : ∃ W1, W1 = w.drew.setCells blk (i * 5) (flat84 (l.drop (i + 1))) := ⟨_, rfl⟩
  have hap := fun ty a c2 ha => del_append w0 blk cap i l w.drew hi hr.drew ty a c2 ha
  rw [← hW1] at R1 hap
  have hcl := fun c ty => clear84 R1 (l.length - 1) c (by rw [hlen]; omega) ty
  rw [hlen] at hcl
  have R2 : Row w0 blk cap (l.eraseIdx i) (W1.setCells blk ((l.length - 1) * 5) (flat84 (List.replicate (l.length - (l.length - 1)) z84))) := by
    have h1 := R1.write (l.length - 1) (List.replicate (l.length - (l.length - 1)) z84) (by rw [hlen]; omega) (by simp; omega)
    have h2 := h1.take (l.length - 1)
    rw [List.append_assoc, List.take_append_of_le_length (by rw [List.length_take]; omega), List.take_take, Nat.min_self, List.take_append_of_le_length (by omega), List.take_of_length_le (by omega)] at h2
    rw [List.eraseIdx_eq_take_drop_succ]
    exact h2
  have HR2 := Aside0.mk R2
  clear R1 R2 hW1 hr
  obtain ⟨n, hn⟩ : ∃ n, n = l.length := ⟨_, rfl⟩
  rw [← hn] at hf hi hap hcl HR2 ⊢
  have hc0 : (i : Int) ≤ (i : Int) + 1 := by omega
  have hc1 : (0 : Int) ≤ (i : Int) + 1 := by omega
  have hc2 : (i : Int) + 1 ≤ (n : Int) := by omega
  have hc3 : ((i : Int) + 1).toNat = i + 1 := by omega
  have hc4 : (i : Int) ≤ (cap : Int) := by omega
  have hc5 : ¬ ((i : Int) = (i : Int) + 1) := by omega
  clear hlen hlen1
  have hz : ¬ ((i : Int) = ((i + 1 : Nat) : Int)) := by omega
  have hb0 : (0 : Int) ≤ (i : Int) := by omega
  have hb1 : (i : Int) ≤ ((i + 1 : Nat) : Int) := by omega
  have hb2 : ((i + 1 : Nat) : Int) ≤ (n : Int) := by omega
  have hb3 : i ≤ n := by omega
  have hb4 : i + 1 ≤ n := by omega
  have hb5 : i ≤ cap := by omega
  have hb6 : n - 1 ≤ n := by omega
  have hb7 : n ≤ cap := by omega
  have hb8 : ((n - 1 : Nat) : Int) ≤ (n : Int) := by omega
  have hb9 : ¬ (cap = n - 1) := by omega
  clear hn
  by_cases hci : cap = i + 1
  · have htn : (((i + 1 : Nat) : Int)).toNat = i + 1 := by omega
    have hap1 := hap 60 ⟨blk, 0, none⟩ 0 (fun h => absurd hci h)
    subst hci
    go_enter Try.func62, Try.ntmps62
    go_wp2_with fail
    go_region_law_o (refine step_append_runI rfl _ _ 60 60 rfl (.slice (some ⟨blk, 0, none⟩) i (i + 1)) (.slice (some ⟨blk, 0, none⟩) (n - (i + 1)) 0) (by simp [Act.eval, Act.put]) (by simp [Act.eval, Act.put]; omega) hap1 ?_)
    go_wp2
    go_ret
    exact ⟨rfl, HR2.out⟩
  · have hap1 := hap 60 ⟨blk, (i + 1) * 5, none⟩ (cap - (i + 1)) (fun _ => rfl)
    go_enter Try.func62, Try.ntmps62
    go_wp2_with fail
    go_region_law_o (refine step_append_runI rfl _ _ 60 60 rfl (.slice (some ⟨blk, 0, none⟩) i cap) (.slice (some ⟨blk, (i + 1) * 5, none⟩) (n - (i + 1)) (cap - (i + 1))) (by simp [Act.eval, Act.put]) (by simp [Act.eval, Act.put]) hap1 ?_)
    go_wp2
    go_ret
    exact ⟨rfl, HR2.out⟩
theorem del_calls (base g : Nat) (u : Value) (l : List S84) (w0 w : World) (hB : Below base w0 w) (hb : base ≤ w.heap.size) (ho : R84 w base g u l) (i : Nat) (hi : i < l.length) :
    Calls Try.prog 62 #[u, .int .i64 i, .int .i64 ((i + 1 : Nat) : Int)] w fun e w' => ∃ v, e = .returned v ∧ Turn w0 w base g u v (l.eraseIdx i) w' := by
  rcases Row.ofR ho with ⟨rfl, rfl⟩ | ⟨b, cap, rfl, hok, hbb, hm, hr⟩
  · simp at hi
  · refine (del_calls_row w b cap i l w hi (by unfold maxLen at hm; omega) hr).mono ?_
    rintro e w' ⟨rfl, hR⟩
    have hl : (l.eraseIdx i).length = l.length - 1 := List.length_eraseIdx_of_lt hi
    have h2 := hR.toR (ok := fun k => k ≠ g) hbb hok hm
    rw [hl] at h2
    exact ⟨_, rfl, h2, Below.grown hB hR.grown hb (fun k hk => by cases hk; exact hbb), Kept.of_grown hR.grown (Kept.refl _ _) (fun k hk => .inl (by cases hk; rfl)), .inl rfl⟩
end Go.Proofs.Ytjhkbmdblfdlnaa.QRlb
namespace Go.Proofs.Ytjhkbmdblfdlnaa.QRlb
open Go.RowKit Go.Proofs.YtjhkbmdblfdlnaaW.PrintWords Go.Proofs.YtjhkbmdblfdlnaaW.PrintLast Go.Proofs.YtjhkbmdblfdlnaaW.PrintMore
set_option linter.unusedVariables false
set_option linter.unusedSimpArgs false
structure Tbl (w : World) (base g : Nat) (v : Value) (l : List S84) (n : Int) : Prop where
  cell : w.heap[g]? = some (.cells #[v, .int .i64 n] 82 (0, 0))
  low : base ≤ g
  row : R84 w base g v l
structure TTurn (w0 w : World) (base g : Nat) (v v' : Value) (l' : List S84) (n' : Int) (W : World) : Prop where
  tbl : Tbl W base g v' l' n'
  bel : Below base w0 W
  kept : Kept w W (fun k => k = g ∨ Blk v k)
  own : v'.ownBlock = v.ownBlock ∨ ∀ k, v'.ownBlock = some k → w.heap.size ≤ k
section
variable {w w0 W W1 W2 : World} {base g : Nat} {u v v' v1 v2 x : Value} {l l' l1 l2 : List S84} {n n' n1 n2 : Int}
theorem R84.ne (h : R84 w base g u l) : ∀ k, u.ownBlock = some k → k ≠ g := h.1
theorem R84.below (h : R84 w base g u l) (hb : Below w.heap.size w W) : R84 W base g u l := h.kept (Kept.of_below hb (fun _ => False)) (fun _ _ h => h)
theorem R84.far (h : R84 w base g u l) (i : Nat) (x : Value) : R84 (w.setCell ⟨g, i, none⟩ x) base g u l :=
  h.kept (S := fun k => k = g) (Kept.setCell (S := fun k => k = g) (Kept.refl w _) (p := ⟨g, i, none⟩) (.inl rfl) x) (fun k hk e => h.ne k hk e)
theorem own_lt (h : R84 w base g u l) : ∀ k, u.ownBlock = some k → k < w.heap.size := by
  intro k hk
  rcases Row.ofR h with ⟨rfl, rfl⟩ | ⟨b, cap, rfl, hok, hb, hm, hr⟩
  · cases hk
  · cases hk; exact hr.lt
theorem Tbl.below (h : Tbl w base g v l n) (hb : Below w.heap.size w W) : Tbl W base g v l n := ⟨blk_below h.cell hb, h.low, h.row.below hb⟩
theorem Tbl.kept {S : Nat → Prop} (h : Tbl w base g v l n) (hk : Kept w W S) (hg : ¬ S g) (hn : ∀ k, v.ownBlock = some k → ¬ S k) : Tbl W base g v l n := ⟨blk_kept h.cell hk hg, h.low, h.row.kept hk hn⟩
theorem Tbl.lt (h : Tbl w base g v l n) : g < w.heap.size := blk_lt h.cell
theorem Tbl.store (hc : w.heap[g]? = some (.cells #[v, .int .i64 n] 82 (0, 0))) (hl : base ≤ g) (hr : R84 w base g v' l') : Tbl (w.setCell ⟨g, 0, none⟩ v') base g v' l' n := ⟨blk_put hc 0 v' rfl, hl, hr.far 0 v'⟩
theorem Tbl.storeN (h : Tbl w base g v l n) (m : Int) : Tbl (w.setCell ⟨g, 1, none⟩ (.int .i64 m)) base g v l m := ⟨blk_put h.cell 1 _ rfl, h.low, h.row.far 1 _⟩
theorem Tbl.open (h : Tbl w base g v l n) : ∃ A c, v = .slice A l.length c ∧ l.length ≤ c ∧ Kd.C k84 w A l.length l := h.row.len
theorem TTurn.refl (hB : Below base w0 w) (h : Tbl w base g v l n) : TTurn w0 w base g v v l n w := ⟨h, hB, Kept.refl _ _, .inl rfl⟩
theorem TTurn.of_below (hB : Below base w0 w) (hs : base ≤ w.heap.size) (h : Tbl w base g v l n) (hb : Below w.heap.size w W) : TTurn w0 w base g v v l n W :=
  ⟨h.below hb, Below.grown hB (grownBy_below (r := none) hb) hs (fun k hk => by cases hk), Kept.of_below hb _, .inl rfl⟩
theorem TTurn.trans (a : TTurn w0 w base g v v1 l1 n1 W1) (b : TTurn w0 W1 base g v1 v2 l2 n2 W2) : TTurn w0 w base g v v2 l2 n2 W2 := by
  refine ⟨b.tbl, b.bel, a.kept.then_ b.kept ?_, ?_⟩
  · rintro k (rfl | hk)
    · exact .inl (.inl rfl)
    · rcases a.own with e | e
      · exact .inl (.inr (e.symm.trans hk))
      · exact .inr (e k hk)
  · rcases b.own with e | e
    · rcases a.own with e2 | e2
      · exact .inl (e.trans e2)
      · exact .inr (fun k hk => e2 k (e.symm.trans hk))
    · exact .inr (fun k hk => Nat.le_trans a.kept.1 (e k hk))
theorem Turn.tturn (hT : Tbl w base g v l n) (t : Turn w0 w base g v v' l' W) (hs : base ≤ w.heap.size) : TTurn w0 w base g v v' l' n (W.setCell ⟨g, 0, none⟩ v') := by
  have hc : W.heap[g]? = some (.cells #[v, .int .i64 n] 82 (0, 0)) := blk_kept hT.cell t.kept (fun h => hT.row.ne g h rfl)
  refine ⟨Tbl.store hc hT.low t.row, ?_, ?_, t.own⟩
  · exact Below.grown t.bel (grownBy_set _ g 0 _) (Nat.le_trans hs t.kept.1) (fun k hk => by cases hk; exact hT.low)
  · exact Kept.setCell (t.kept.mono (fun k hk => .inr hk)) (.inl (.inl rfl)) _
theorem TTurn.size (a : TTurn w0 w base g v v1 l1 n1 W1) : w.heap.size ≤ W1.heap.size := a.kept.1
end
abbrev tgt (vid mac : Int) : S84 := ⟨vid, mac, 0, 0, false⟩
set_option maxHeartbeats 4000000 in
set_option maxRecDepth 100000 in
theorem find_calls (base g : Nat) (v : Value) (l : List S84) (n : Int) (w : World) (ht : Tbl w base g v l n) (hs : l.Pairwise lx) (hlen : l.length ≤ 1000000) (vid mac : Int) :
    Calls Try.prog 57 #[.pointer (some ⟨g, 0, none⟩), .int .i64 vid, .int .i64 mac] w fun e w' => e = .returned (.tuple #[.int .i64 (pos l (tgt vid mac) : Nat), .bool (hit l (tgt vid mac))]) ∧ Below w.heap.size w w' := by
  have e34 : ∀ args w, (callFunc 64 args).run Try.prog w = .ok (.enter 64 args) w := enters_of Try.func64 (by kernel_rfl) rfl
  obtain ⟨A, c, rfl, hc, hC⟩ := ht.open
  have hg0 : w.cell? ⟨g, 0, none⟩ = some (.slice A l.length c) := (blk_cell ht.cell 0).trans rfl
  have HKEY := Aside0.mk (search_calls A c l (tgt vid mac) w hC (by omega) hs)
  clear ht hC hs
  go_enter Try.func57, Try.ntmps57
  go_wp2_with (go_at_fn 64; refine HKEY.out.mono ?_; rintro e w1 ⟨rfl, hb1⟩; have HB1 := Aside0.mk hb1; clear hb1)
  go_ret2
  exact ⟨rfl, HB1.out⟩
def findF (l : List S84) (vid mac : Int) : Int := if hit l (tgt vid mac) = true then (match l[pos l (tgt vid mac)]? with | some x => x.f2 | none => -1) else -1
theorem hit_at {l : List S84} {t : S84} (h : hit l t = true) : ∃ hp : pos l t < l.length, Same l[pos l t] t := by
  unfold hit at h
  cases e : l[pos l t]? with
  | none => rw [e] at h; cases h
  | some x =>
    rw [e] at h
    obtain ⟨hp, hx⟩ := List.getElem?_eq_some_iff.1 e
    exact ⟨hp, by rw [hx]; exact of_decide_eq_true h⟩
set_option maxHeartbeats 4000000 in
set_option maxRecDepth 100000 in
theorem Find_calls (base g : Nat) (v : Value) (l : List S84) (n : Int) (w : World) (ht : Tbl w base g v l n) (hs : l.Pairwise lx) (hlen : l.length ≤ 1000000) (vid mac : Int) :
    Calls Try.prog 53 #[.pointer (some ⟨g, 0, none⟩), .int .i64 vid, .int .i64 mac] w fun e w' => e = .returned (.int .i64 (findF l vid mac)) ∧ Below w.heap.size w w' := by
  have e23 : ∀ args w, (callFunc 57 args).run Try.prog w = .ok (.enter 57 args) w := enters_of Try.func57 (by kernel_rfl) rfl
  have HT := Aside0.mk ht
  have HKEY := Aside0.mk (find_calls base g v l n w ht hs hlen vid mac)
  obtain ⟨A, c, rfl, hc, _⟩ := ht.open
  clear ht hs
  by_cases hh : hit l (tgt vid mac) = true
  · obtain ⟨hp, hsm⟩ := hit_at hh
    have hF : findF l vid mac = l[pos l (tgt vid mac)].f2 := by unfold findF; rw [if_pos hh, List.getElem?_eq_getElem hp]
    have HFF := Aside0.mk hF
    have hpz : ((pos l (tgt vid mac) : Nat) : Int) < (l.length : Int) := by omega
    rw [hh] at HKEY
    clear hF hsm
    generalize pos l (tgt vid mac) = i at *
    go_enter Try.func53, Try.ntmps53
    go_wp2_with (go_at_fn 57; refine HKEY.out.mono ?_; rintro e w1 ⟨rfl, hb1⟩; have ht1 := HT.out.below hb1; obtain ⟨_, _, e1, _, hC1⟩ := ht1.open; cases e1; obtain ⟨ad, ea, hx0, hx1, hx2, hx3, hx4⟩ := atN_T84 hC1 i hp; subst ea; have hg1 : w1.cell? ⟨g, 0, none⟩ = some (.slice (some ad) l.length c) := (blk_cell ht1.cell 0).trans rfl; have HB1 := Aside0.mk hb1; clear hb1 ht1 hC1)
    go_ret
    exact ⟨by rw [HFF.out]; rfl, HB1.out⟩
  · have hF : findF l vid mac = -1 := by unfold findF; rw [if_neg hh]
    have hh2 : hit l (tgt vid mac) = false := by simpa using hh
    have HFF := Aside0.mk hF
    rw [hh2] at HKEY
    clear hF hh hh2
    go_enter Try.func53, Try.ntmps53
    go_wp2_with (go_at_fn 57; refine HKEY.out.mono ?_; rintro e w1 ⟨rfl, hb1⟩; have HB1 := Aside0.mk hb1; clear hb1)
    go_ret
    exact ⟨by rw [HFF.out]; rfl, HB1.out⟩
set_option maxHeartbeats 4000000 in
theorem New_calls (base : Nat) (w : World) (hb : base ≤ w.heap.size) :
    Calls Try.prog 28 #[] w fun e w' => ∃ g, e = .returned (.pointer (some ⟨g, 0, none⟩)) ∧ Tbl w' base g (.slice none 0 0) [] 0 ∧ Below w.heap.size w w' ∧ w.heap.size ≤ g := by
  have HS := Aside0.mk hb
  clear hb
  go_enter Try.func28, Try.ntmps28
  go_wp2_with ((with_reducible refine gate_dst (N := 2) rfl ?_); refine box_event ?hg (N := 2) ?hd (cs := #[.slice none 0 0, .int .i64 0]) (t := 82) ?hr ?_; (case hd => rfl); (case hg => rfl); (case hr => first | (go_simp; done) | (go_simp; rfl)); intro g hg w1 hbox hb1; have HX := Aside0.mk hbox; have HB1 := Aside0.mk hb1; have HG := Aside0.mk hg; clear hbox hb1 hg)
  go_ret
  exact ⟨g, rfl, ⟨HX.out, Nat.le_trans HS.out (Nat.le_of_eq HG.out.symm), Kd.R_nil _ _ _ _ _⟩, HB1.out, Nat.le_of_eq HG.out.symm⟩
end Go.Proofs.Ytjhkbmdblfdlnaa.QRlb
namespace Go.Proofs.Ytjhkbmdblfdlnaa.QRlb
open Go.RowKit Go.Proofs.YtjhkbmdblfdlnaaW.PrintWords Go.Proofs.YtjhkbmdblfdlnaaW.PrintLast Go.Proofs.YtjhkbmdblfdlnaaW.PrintMore
set_option linter.unusedVariables false
set_option linter.unusedSimpArgs false
def seenAt (l : List S84) (i : Int) : Int := match l[i.toNat]? with | some y => y.f3 | none => 0
def oldS (l : List S84) (a : Int) (i : Nat) : Int := match l[i]? with
  | some x => if x.f4 = true then a else if a < 0 then (i : Int) else if x.f3 < seenAt l a then (i : Int) else a
  | none => a
def oldG (l : List S84) : Nat → Int
  | 0 => -1
  | i + 1 => oldS l (oldG l i) i
theorem oldG_range (l : List S84) : ∀ i, oldG l i = -1 ∨ ∃ j : Nat, oldG l i = (j : Int) ∧ j < i
  | 0 => .inl rfl
  | i + 1 => by
    have ih := oldG_range l i
    unfold oldG oldS
    have old : oldG l i = -1 ∨ ∃ j : Nat, oldG l i = (j : Int) ∧ j < i + 1 := ih.imp id (fun ⟨j, h1, h2⟩ => ⟨j, h1, by omega⟩)
    cases l[i]? with
    | none => exact old
    | some x =>
      dsimp only
      split
      · exact old
      · split
        · exact .inr ⟨i, rfl, by omega⟩
        · split
          · exact .inr ⟨i, rfl, by omega⟩
          · exact old
abbrev oldF (l : List S84) : Int := oldG l l.length
set_option maxHeartbeats 8000000 in
set_option maxRecDepth 100000 in
theorem oldest_calls (base g : Nat) (v : Value) (l : List S84) (n : Int) (w : World) (ht : Tbl w base g v l n) (hlen : l.length ≤ 1000000) :
    Calls Try.prog 61 #[.pointer (some ⟨g, 0, none⟩)] w fun e w' => e = .returned (.int .i64 (oldF l)) ∧ Below w.heap.size w w' := by
  obtain ⟨A, c, rfl, hc, hC⟩ := ht.open
  have hg0 : w.cell? ⟨g, 0, none⟩ = some (.slice A l.length c) := (blk_cell ht.cell 0).trans rfl
  have HT := Aside0.mk ht
  have HC := Aside0.mk hC
  clear ht hC
  go_enter Try.func61, Try.ntmps61
  go_wp2
  go_loopg [3, 11] l.length (fun gk s3 s11 wr => ∃ i : Nat, s3 = .int .i64 (oldG l i) ∧ s11 = .int .i64 i ∧ i ≤ l.length ∧ l.length - i ≤ gk ∧ Aside0 (Below w.heap.size w wr))
  case atStart => exact ⟨0, rfl, rfl, Nat.zero_le _, by omega, ⟨Below.refl _ _⟩⟩
  case round =>
    obtain ⟨i, rfl, rfl, hil, hgk, HB⟩ := hrel
    by_cases hlt : i < l.length
    · have hlz : (i : Int) < (l.length : Int) := by omega
      obtain ⟨ad, ea, hx0, hx1, hx2, hx3, hx4⟩ := atN_T84 (Kd.C_below HC.out HB.out) i hlt
      subst ea
      have hstep : oldG l (i + 1) = if l[i].f4 = true then oldG l i else if oldG l i < 0 then (i : Int) else if l[i].f3 < seenAt l (oldG l i) then (i : Int) else oldG l i := by
        show oldS l (oldG l i) i = _
        unfold oldS
        rw [List.getElem?_eq_getElem hlt]
      have HST := Aside0.mk hstep
      clear hstep
      have hat : ∀ j : Nat, (hj : j < i) → seenAt l (j : Int) = (l[j]'(by omega)).f3 := fun j hj => by unfold seenAt; rw [Int.toNat_natCast, List.getElem?_eq_getElem (by omega)]
      have HCW := Aside0.mk (fun (W : World) (hb : Below wr.heap.size wr W) (j : Nat) (hj : j < l.length) => atN_T84 (Kd.C_below (Kd.C_below HC.out HB.out) hb) j hj)
      generalize l[i] = x at hx0 hx1 hx2 hx3 hx4 HST
      obtain ⟨x0, x1, x2, x3, x4⟩ := x
      dsimp only at hx0 hx1 hx2 hx3 hx4 HST
      go_wp2_with ((with_reducible refine gate_dst (N := 5) rfl ?_); refine box_event ?hg (N := 5) ?hd (cs := #[.int .i64 0, .int .i64 0, .int .i64 0, .int .i64 0, .bool false]) (t := 84) ?hr ?_; (case hd => rfl); (case hg => rfl); (case hr => first | (go_simp; done) | (go_simp; rfl)); intro gb hg w1 hbox hb; have hcz0 : w1.cell? ⟨gb, 0, none⟩ = some (.int .i64 0) := (blk_cell hbox 0).trans rfl; have hcz1 : w1.cell? ⟨gb, 1, none⟩ = some (.int .i64 0) := (blk_cell hbox 1).trans rfl; have hcz2 : w1.cell? ⟨gb, 2, none⟩ = some (.int .i64 0) := (blk_cell hbox 2).trans rfl; have hcz3 : w1.cell? ⟨gb, 3, none⟩ = some (.int .i64 0) := (blk_cell hbox 3).trans rfl; have hcz4 : w1.cell? ⟨gb, 4, none⟩ = some (.bool false) := (blk_cell hbox 4).trans rfl; have hfz0 := blk_frozen hbox 0; have hfz1 := blk_frozen hbox 1; have hfz2 := blk_frozen hbox 2; have hfz3 := blk_frozen hbox 3; have hfz4 := blk_frozen hbox 4; have BX := Aside0.mk hbox; have KX := Aside0.mk hb; have HGB := Aside0.mk hg; clear hb hbox hg)
      have B5 := lay5_below KX.out (Nat.le_of_eq HGB.out.symm) ⟨x0, x1, x2, x3, x4⟩
      have X5 := lay5_blk BX.out ⟨x0, x1, x2, x3, x4⟩
      obtain ⟨W5, hW5⟩ : ∃ W5, W5 = lay5 w1 gb ⟨x0, x1, x2, x3, x4⟩ := ⟨_, rfl⟩
      have hW5' := hW5
      unfold lay5 at hW5'
      rw [← hW5] at B5 X5
      dsimp only at hW5'
      rw [← hW5']
      have hT5 := HT.out.below (below_step HB.out B5)
      have hg5 : W5.cell? ⟨g, 0, none⟩ = some (.slice (some ad) l.length c) := (blk_cell hT5.cell 0).trans rfl
      have ht3 : W5.cell? ⟨gb, 3, none⟩ = some (.int .i64 x3) := (blk_cell X5 3).trans rfl
      have ht4 : W5.cell? ⟨gb, 4, none⟩ = some (.bool x4) := (blk_cell X5 4).trans rfl
      have HB5 := Aside0.mk (below_step HB.out B5)
      have HCJ := Aside0.mk (fun j hj => HCW.out W5 B5 j hj)
      clear hcz0 hcz1 hcz2 hcz3 hcz4 hfz0 hfz1 hfz2 hfz3 hfz4 BX KX HGB HCW X5 B5 hT5 hW5 hW5' hx0 hx1 hx2 hx3 hx4
      cases x4 with
      | true =>
        rw [if_pos rfl] at HST
        go_quiet (fail)
        go_wp2
        go_roundg (l.length - (i + 1))
        case measure => omega
        case rel => exact ⟨i + 1, by rw [HST.out], by go_num, by omega, Nat.le_refl _, ⟨pw_below_drewN HB5.out nq⟩⟩
      | false =>
        rw [if_neg (by decide)] at HST
        rcases oldG_range l i with e | ⟨j, e, hj⟩
        · rw [e] at HST ⊢
          rw [if_pos (by decide)] at HST
          go_quiet (fail)
          go_wp2
          go_roundg (l.length - (i + 1))
          case measure => omega
          case rel => exact ⟨i + 1, by rw [HST.out], by go_num, by omega, Nat.le_refl _, ⟨pw_below_drewN HB5.out nq⟩⟩
        · rw [e] at HST ⊢
          rw [if_neg (by omega), hat j hj] at HST
          have hjn : ¬ ((j : Int) < 0) := by omega
          have hjl : (j : Int) < (l.length : Int) := by omega
          obtain ⟨ad2, ea2, hy0, hy1, hy2, hy3, hy4⟩ := HCJ.out j (by omega)
          cases ea2
          generalize (l[j]'(by omega)).f3 = y3 at hy3 HST
          clear HCJ hat hy0 hy1 hy2 hy4
          by_cases hcmp : x3 < y3
          · rw [if_pos hcmp] at HST
            go_quiet (fail)
            go_wp2
            go_roundg (l.length - (i + 1))
            case measure => omega
            case rel => exact ⟨i + 1, by rw [HST.out], by go_num, by omega, Nat.le_refl _, ⟨pw_below_drewN HB5.out nq⟩⟩
          · rw [if_neg hcmp] at HST
            go_quiet (fail)
            go_wp2
            go_roundg (l.length - (i + 1))
            case measure => omega
            case rel => exact ⟨i + 1, by rw [HST.out], by go_num, by omega, Nat.le_refl _, ⟨pw_below_drewN HB5.out nq⟩⟩
    · have e : i = l.length := by omega
      subst e
      go_wp2
      go_ret
      exact ⟨rfl, HB.out⟩
end Go.Proofs.Ytjhkbmdblfdlnaa.QRlb
namespace Go.Proofs.Ytjhkbmdblfdlnaa.QRlb
open Go.RowKit Go.Proofs.YtjhkbmdblfdlnaaW.PrintWords Go.Proofs.YtjhkbmdblfdlnaaW.PrintLast Go.Proofs.YtjhkbmdblfdlnaaW.PrintMore
set_option linter.unusedVariables false
set_option linter.unusedSimpArgs false
theorem pos_le (l : List S84) (t : S84) : pos l t ≤ l.length := List.countP_le_length
def ins84 (l : List S84) (t : S84) : List S84 := l.take (pos l t) ++ [t] ++ l.drop (pos l t)
abbrev agg5 (p : S84) : Value := .agg #[.int .i64 p.f0, .int .i64 p.f1, .int .i64 p.f2, .int .i64 p.f3, .bool p.f4]
theorem pos_key (l : List S84) (p : S84) : pos l p = pos l (tgt p.f0 p.f1) := by
  unfold pos; congr 1
theorem hit_key (l : List S84) (p : S84) : hit l p = hit l (tgt p.f0 p.f1) := by
  unfold hit; rw [pos_key]; rfl
theorem R84.setrow {w : World} {base g : Nat} {l : List S84} {A : Option Addr} {c i : Nat} (h : R84 w base g (.slice A l.length c) l) (hi : i < l.length) (x : S84) :
    ∃ b, A = some ⟨b, 0, none⟩ ∧ R84 (((((w.setCell ⟨b, i * 5, none⟩ (.int .i64 x.f0)).setCell ⟨b, i * 5 + 1, none⟩ (.int .i64 x.f1)).setCell ⟨b, i * 5 + 2, none⟩ (.int .i64 x.f2)).setCell ⟨b, i * 5 + 3, none⟩ (.int .i64 x.f3)).setCell ⟨b, i * 5 + 4, none⟩ (.bool x.f4)) base g (.slice A l.length c) (l.set i x) := by
  rcases Row.ofR h with ⟨h1, rfl⟩ | ⟨b, cap, hu, hok, hb, hm, hr⟩
  · simp at hi
  · cases hu
    refine ⟨b, rfl, ?_⟩
    have := (hr.set i hi x).toR (ok := fun k => k ≠ g) hb hok hm
    rw [List.length_set] at this
    exact this
abbrev set5 (w : World) (b q : Nat) (x : S84) : World := ((((w.setCell ⟨b, q, none⟩ (.int .i64 x.f0)).setCell ⟨b, q + 1, none⟩ (.int .i64 x.f1)).setCell ⟨b, q + 2, none⟩ (.int .i64 x.f2)).setCell ⟨b, q + 3, none⟩ (.int .i64 x.f3)).setCell ⟨b, q + 4, none⟩ (.bool x.f4)
theorem kept_set5 (w : World) (b q : Nat) (x : S84) : Kept w (set5 w b q x) (fun k => k = b) :=
  Kept.setCell (S := fun k => k = b) (Kept.setCell (S := fun k => k = b) (Kept.setCell (S := fun k => k = b) (Kept.setCell (S := fun k => k = b) (Kept.setCell (S := fun k => k = b) (Kept.refl w _) (p := ⟨b, q, none⟩) (.inl rfl) _) (p := ⟨b, q + 1, none⟩) (.inl rfl) _) (p := ⟨b, q + 2, none⟩) (.inl rfl) _) (p := ⟨b, q + 3, none⟩) (.inl rfl) _) (p := ⟨b, q + 4, none⟩) (.inl rfl) _
theorem grown_set5 (w : World) (b q : Nat) (x : S84) : w.grownBy (set5 w b q x) (some b) :=
  grownBy_trans (grownBy_trans (grownBy_trans (grownBy_trans (grownBy_set w b q _) (grownBy_set _ b _ _)) (grownBy_set _ b _ _)) (grownBy_set _ b _ _)) (grownBy_set _ b _ _)
theorem Tbl.setrow {w0 w W : World} {base g : Nat} {l : List S84} {n : Int} {A : Option Addr} {c i : Nat} (hB : Below base w0 w) (hs : base ≤ w.heap.size) (ht : Tbl w base g (.slice A l.length c) l n) (hb : Below w.heap.size w W) (hi : i < l.length) (x : S84) :
    ∃ b, A = some ⟨b, 0, none⟩ ∧ b ≠ g ∧ (∀ q, W.frozen? ⟨b, q, none⟩ = false) ∧ (∀ q, q < l.length * 5 → (W.cell? ⟨b, q, none⟩).isSome = true) ∧ TTurn w0 w base g (.slice A l.length c) (.slice A l.length c) (l.set i x) n (set5 W b (i * 5) x) := by
  have h2 := ht.below hb
  obtain ⟨b, rfl, hr⟩ := h2.row.setrow hi x
  have hbk : Blk (.slice (some ⟨b, 0, none⟩) l.length c) b := rfl
  have hne := h2.row.ne b hbk
  have hbase : base ≤ b := Kd.R_base h2.row b hbk
  refine ⟨b, rfl, hne, ?_, ?_, ⟨⟨blk_kept h2.cell (kept_set5 W b _ x) (fun e => hne e.symm), h2.low, hr⟩, ?_, ?_, .inl rfl⟩⟩
  · rcases Row.ofR h2.row with ⟨h1, rfl⟩ | ⟨b', cap, hu, hok, hb', hm, hrow⟩
    · simp at hi
    · cases hu; exact hrow.fz
  · rcases Row.ofR h2.row with ⟨h1, rfl⟩ | ⟨b', cap, hu, hok, hb', hm, hrow⟩
    · simp at hi
    · cases hu; exact fun q hq => (hrow.spare q (by have := hrow.fits; omega)).1
  · exact Below.grown (Below.grown hB (grownBy_below (r := none) hb) hs (fun k hk => by cases hk)) (grown_set5 W b _ x) (Nat.le_trans hs hb.size) (fun k hk => by cases hk; exact hbase)
  · exact (Kept.of_below hb _).then_ (kept_set5 W b _ x) (fun k hk => .inl (.inr (by rw [hk]; rfl)))
set_option maxHeartbeats 8000000 in
set_option maxRecDepth 100000 in
theorem put_hit (base g : Nat) (v : Value) (l : List S84) (n : Int) (w0 w : World) (hB : Below base w0 w) (hb : base ≤ w.heap.size) (ht : Tbl w base g v l n) (hs : l.Pairwise lx) (hlen : l.length ≤ 1000000) (p : S84) (hh : hit l p = true) :
    Calls Try.prog 56 #[.pointer (some ⟨g, 0, none⟩), agg5 p] w fun e w' => e = .returned (.int .i64 0) ∧ TTurn w0 w base g v v (l.set (pos l p) p) n w' := by
  have e23 : ∀ args w, (callFunc 57 args).run Try.prog w = .ok (.enter 57 args) w := enters_of Try.func57 (by kernel_rfl) rfl
  obtain ⟨hp, _⟩ := hit_at hh
  have hp1 := pos_key l p
  have hh1 := hit_key l p
  rw [hh] at hh1
  have HT := Aside0.mk ht
  have HB := Aside0.mk hB
  have HS := Aside0.mk hb
  have HK := Aside0.mk (fun (W : World) (hbb : Below w.heap.size w W) => find_calls base g v l n W (ht.below hbb) hs hlen p.f0 p.f1)
  rw [← hp1, ← hh1] at HK
  obtain ⟨A, c, rfl, hc, _⟩ := ht.open
  obtain ⟨b, rfl, _⟩ := ht.row.setrow hp p
  have HSR := Aside0.mk (fun (W : World) (hbb : Below w.heap.size w W) => Tbl.setrow hB hb ht hbb hp p)
  clear ht hB hb hs hh hh1 hp1
  obtain ⟨p0, p1, p2, p3, p4⟩ := p
  dsimp only at HK HSR
  generalize pos l ⟨p0, p1, p2, p3, p4⟩ = i at *
  have hiz : (i : Int) < (l.length : Int) := by omega
  go_enter Try.func56, Try.ntmps56
  go_wp2_with (first
    | ((with_reducible refine gate_dst (N := 3) rfl ?_); refine box_event ?hg (N := 3) ?hd (cs := #[.int .i64 p0, .int .i64 p1, .int .i64 p2, .int .i64 p3, .bool p4]) (t := 84) ?hr ?_; (case hd => rfl); (case hg => rfl); (case hr => first | (go_simp; done) | (go_simp; rfl)); intro pb hg w1 hbox hb1; have hz0 : w1.cell? ⟨pb, 0, none⟩ = some (.int .i64 p0) := (blk_cell hbox 0).trans rfl; have hz1 : w1.cell? ⟨pb, 1, none⟩ = some (.int .i64 p1) := (blk_cell hbox 1).trans rfl; have HX := Aside0.mk hbox; have HB1 := Aside0.mk hb1; have HG := Aside0.mk hg; clear hbox hb1 hg)
    | (go_at_fn 57; refine (HK.out w1 HB1.out).mono ?_; rintro e w2 ⟨rfl, hb2⟩; have ht2 := HT.out.below (below_step HB1.out hb2); have hgc2 : w2.cell? ⟨g, 0, none⟩ = some (.slice (some ⟨b, 0, none⟩) l.length c) := (blk_cell ht2.cell 0).trans rfl; have hx2 := blk_below HX.out hb2; have hz0 : w2.cell? ⟨pb, 0, none⟩ = some (.int .i64 p0) := (blk_cell hx2 0).trans rfl; have hz1 : w2.cell? ⟨pb, 1, none⟩ = some (.int .i64 p1) := (blk_cell hx2 1).trans rfl; have hz2 : w2.cell? ⟨pb, 2, none⟩ = some (.int .i64 p2) := (blk_cell hx2 2).trans rfl; have hz3 : w2.cell? ⟨pb, 3, none⟩ = some (.int .i64 p3) := (blk_cell hx2 3).trans rfl; have hz4 : w2.cell? ⟨pb, 4, none⟩ = some (.bool p4) := (blk_cell hx2 4).trans rfl; have HB2 := Aside0.mk (below_step HB1.out hb2); clear ht2 hx2 hb2))
  obtain ⟨b', eb, hbg, hfz, hcell, hfin⟩ := HSR.out w2.drew (below_drew1 HB2.out)
  cases eb
  have HFIN := Aside0.mk hfin
  have hf0 : w2.frozen? ⟨b, i * 5, none⟩ = false := hfz (i * 5)
  have hf1 : w2.frozen? ⟨b, i * 5 + 1, none⟩ = false := hfz (i * 5 + 1)
  have hf2 : w2.frozen? ⟨b, i * 5 + 2, none⟩ = false := hfz (i * 5 + 2)
  have hf3 : w2.frozen? ⟨b, i * 5 + 3, none⟩ = false := hfz (i * 5 + 3)
  have hf4 : w2.frozen? ⟨b, i * 5 + 4, none⟩ = false := hfz (i * 5 + 4)
  obtain ⟨q0, hq0⟩ : ∃ v, w2.cell? ⟨b, i * 5, none⟩ = some v := Option.isSome_iff_exists.1 (hcell (i * 5) (by omega))
  obtain ⟨q1, hq1⟩ : ∃ v, w2.cell? ⟨b, i * 5 + 1, none⟩ = some v := Option.isSome_iff_exists.1 (hcell (i * 5 + 1) (by omega))
  obtain ⟨q2, hq2⟩ : ∃ v, w2.cell? ⟨b, i * 5 + 2, none⟩ = some v := Option.isSome_iff_exists.1 (hcell (i * 5 + 2) (by omega))
  obtain ⟨q3, hq3⟩ : ∃ v, w2.cell? ⟨b, i * 5 + 3, none⟩ = some v := Option.isSome_iff_exists.1 (hcell (i * 5 + 3) (by omega))
  obtain ⟨q4, hq4⟩ : ∃ v, w2.cell? ⟨b, i * 5 + 4, none⟩ = some v := Option.isSome_iff_exists.1 (hcell (i * 5 + 4) (by omega))
  clear hfz hcell hfin
  go_wp2_with fail
  go_region
  all_goals (go_wp2; go_ret; exact ⟨rfl, HFIN.out⟩)
theorem ins_key {w0 w w2 : World} {base g : Nat} {v v1 : Value} {l1 : List S84} {n : Int} (T : TTurn w0 w base g v v1 l1 n w2) (hs : base ≤ w.heap.size) (hlen : l1.length ≤ 1000000) (p : S84) :
    Calls Try.prog 63 #[v1, .int .i64 ((pos l1 p : Nat) : Int), .slice (some ⟨w2.heap.size, 0, none⟩) 1 1] (w2.alloc (.cells #[.int .i64 p.f0, .int .i64 p.f1, .int .i64 p.f2, .int .i64 p.f3, .bool p.f4] 84)).drew (fun e w' => ∃ v', e = .returned v' ∧ (∃ A c, v' = .slice A (ins84 l1 p).length c) ∧ w'.heap[g]? = some (.cells #[v1, .int .i64 n] 82 (0, 0)) ∧ TTurn w0 w base g v v' (ins84 l1 p) n (w'.setCell ⟨g, 0, none⟩ v')) := by
  have BX := below_drew1 (below_alloc (Below.refl w2.heap.size w2) (.cells #[.int .i64 p.f0, .int .i64 p.f1, .int .i64 p.f2, .int .i64 p.f3, .bool p.f4] 84))
  have hs2 : base ≤ w2.heap.size := Nat.le_trans hs T.size
  have hs5 := Nat.le_trans hs2 BX.size
  have t5 := T.tbl.below BX
  have T5 := T.trans (TTurn.of_below T.bel hs2 T.tbl BX)
  refine (insert_calls base g v1 l1 w0 _ T5.bel hs5 t5.lt t5.row (pos l1 p) (pos_le _ _) p w2.heap.size (blk_new w2 _) (fun e => Nat.lt_irrefl _ (own_lt T.tbl.row _ e)) (by omega)).mono ?_
  rintro e w' ⟨v', rfl, ht⟩
  have hu := ht.row.len
  obtain ⟨A, c, hv, _, _⟩ := hu
  exact ⟨v', rfl, ⟨A, c, hv⟩, blk_kept t5.cell ht.kept (fun h => t5.row.ne g h rfl), T5.trans (Turn.tturn t5 ht hs5)⟩
set_option maxHeartbeats 8000000 in
set_option maxRecDepth 100000 in
theorem put_room (base g : Nat) (v : Value) (l : List S84) (n : Int) (w0 w : World) (hB : Below base w0 w) (hb : base ≤ w.heap.size) (ht : Tbl w base g v l n) (hs : l.Pairwise lx) (hlen : l.length < 24) (p : S84) (hh : hit l p = false) :
    Calls Try.prog 56 #[.pointer (some ⟨g, 0, none⟩), agg5 p] w fun e w' => e = .returned (.int .i64 0) ∧ ∃ v', TTurn w0 w base g v v' (ins84 l p) n w' := by
  have e23 : ∀ args w, (callFunc 57 args).run Try.prog w = .ok (.enter 57 args) w := enters_of Try.func57 (by kernel_rfl) rfl
  have e41 : ∀ args w, (callFunc 63 args).run Try.prog w = .ok (.enter 63 args) w := enters_of Try.func63 (by kernel_rfl) rfl
  have hp1 := pos_key l p
  have hh1 := hit_key l p
  rw [hh] at hh1
  have hlz : ¬ ((l.length : Int) ≥ 24) := by omega
  have HT := Aside0.mk ht
  have HB := Aside0.mk hB
  have HS := Aside0.mk hb
  have HK := Aside0.mk (fun (W : World) (hbb : Below w.heap.size w W) => find_calls base g v l n W (ht.below hbb) hs (by omega) p.f0 p.f1)
  rw [← hp1, ← hh1] at HK
  have HIN := Aside0.mk (fun (W : World) (hbb : Below w.heap.size w W) => ins_key (TTurn.of_below hB hb ht hbb) hb (by omega) p)
  obtain ⟨A, c, rfl, hc, _⟩ := ht.open
  clear ht hB hb hs hh hh1 hp1
  obtain ⟨p0, p1, p2, p3, p4⟩ := p
  dsimp only at HK HIN
  generalize pos l ⟨p0, p1, p2, p3, p4⟩ = i at *
  go_enter Try.func56, Try.ntmps56
  go_wp2_with (first
    | ((with_reducible refine gate_dst (N := 3) rfl ?_); refine box_event ?hg (N := 3) ?hd (cs := #[.int .i64 p0, .int .i64 p1, .int .i64 p2, .int .i64 p3, .bool p4]) (t := 84) ?hr ?_; (case hd => rfl); (case hg => rfl); (case hr => first | (go_simp; done) | (go_simp; rfl)); intro pb hg w1 hbox hb1; have hz0 : w1.cell? ⟨pb, 0, none⟩ = some (.int .i64 p0) := (blk_cell hbox 0).trans rfl; have hz1 : w1.cell? ⟨pb, 1, none⟩ = some (.int .i64 p1) := (blk_cell hbox 1).trans rfl; have HX := Aside0.mk hbox; have HB1 := Aside0.mk hb1; have HG := Aside0.mk hg; clear hbox hb1 hg)
    | (go_at_fn 57; refine (HK.out w1 HB1.out).mono ?_; rintro e w2 ⟨rfl, hb2⟩; have ht2 := HT.out.below (below_step HB1.out hb2); have hgc2 : w2.cell? ⟨g, 0, none⟩ = some (.slice A l.length c) := (blk_cell ht2.cell 0).trans rfl; have hx2 := blk_below HX.out hb2; have hz0 : w2.cell? ⟨pb, 0, none⟩ = some (.int .i64 p0) := (blk_cell hx2 0).trans rfl; have hz1 : w2.cell? ⟨pb, 1, none⟩ = some (.int .i64 p1) := (blk_cell hx2 1).trans rfl; have hz2 : w2.cell? ⟨pb, 2, none⟩ = some (.int .i64 p2) := (blk_cell hx2 2).trans rfl; have hz3 : w2.cell? ⟨pb, 3, none⟩ = some (.int .i64 p3) := (blk_cell hx2 3).trans rfl; have hz4 : w2.cell? ⟨pb, 4, none⟩ = some (.bool p4) := (blk_cell hx2 4).trans rfl; have hgn3 : g < w2.heap.size := ht2.lt; have hpn3 : pb < w2.heap.size := blk_lt hx2; have HB2 := Aside0.mk (below_step HB1.out hb2); clear ht2 hx2 hb2))
  have hgn1 : ¬ (g = w2.heap.size) := by omega
  have hgn2 : ¬ (w2.heap.size = g) := by omega
  have hpn1 : ¬ (pb = w2.heap.size) := by omega
  have hpn2 : ¬ (w2.heap.size = pb) := by omega
  have HKEY := Aside0.mk (HIN.out w2 HB2.out)
  clear HIN HK
  go_wp2_with fail
  go_region_with (go_at_call 63; refine HKEY.out.mono ?_; rintro e w5 ⟨v5, rfl, ⟨A5, c5, rfl⟩, hc5, ht5⟩; have hgc5 : w5.cell? ⟨g, 0, none⟩ = some (.slice A l.length c) := (blk_cell hc5 0).trans rfl; have hgf5 := blk_frozen hc5 0; have HW6 := Aside0.mk ht5; clear hc5 ht5)
  all_goals (go_wp2; go_ret; exact ⟨rfl, _, HW6.out⟩)
end Go.Proofs.Ytjhkbmdblfdlnaa.QRlb
namespace Go.Proofs.Ytjhkbmdblfdlnaa.QRlb
open Go.RowKit Go.Proofs.YtjhkbmdblfdlnaaW.PrintWords Go.Proofs.YtjhkbmdblfdlnaaW.PrintLast Go.Proofs.YtjhkbmdblfdlnaaW.PrintMore
set_option linter.unusedVariables false
set_option linter.unusedSimpArgs false
theorem TTurn.storeN {w0 w W : World} {base g : Nat} {v v' : Value} {l' : List S84} {n : Int} (T : TTurn w0 w base g v v' l' n W) (hs : base ≤ w.heap.size) (m : Int) : TTurn w0 w base g v v' l' m (W.setCell ⟨g, 1, none⟩ (.int .i64 m)) :=
  ⟨T.tbl.storeN m, Below.grown T.bel (grownBy_set W g 1 _) (Nat.le_trans hs T.size) (fun k hk => by cases hk; exact T.tbl.low), Kept.setCell T.kept (p := ⟨g, 1, none⟩) (.inl (.inl rfl)) _, T.own⟩
set_option maxHeartbeats 8000000 in
set_option maxRecDepth 100000 in
theorem put_none (base g : Nat) (v : Value) (l : List S84) (n : Int) (w0 w : World) (hB : Below base w0 w) (hb : base ≤ w.heap.size) (ht : Tbl w base g v l n) (hs : l.Pairwise lx) (hlen : l.length ≤ 1000000) (hful : 24 ≤ l.length) (hn0 : 0 ≤ n) (hn1 : n ≤ 1000000) (p : S84) (hh : hit l p = false) (ho : oldF l < 0) :
    Calls Try.prog 56 #[.pointer (some ⟨g, 0, none⟩), agg5 p] w fun e w' => e = .returned (.int .i64 6) ∧ TTurn w0 w base g v v l (n + 1) w' := by
  have e23 : ∀ args w, (callFunc 57 args).run Try.prog w = .ok (.enter 57 args) w := enters_of Try.func57 (by kernel_rfl) rfl
  have e40 : ∀ args w, (callFunc 61 args).run Try.prog w = .ok (.enter 61 args) w := enters_of Try.func61 (by kernel_rfl) rfl
  have hp1 := pos_key l p
  have hh1 := hit_key l p
  rw [hh] at hh1
  have hlz : ((l.length : Int) ≥ 24) := by omega
  have HT := Aside0.mk ht
  have HB := Aside0.mk hB
  have HS := Aside0.mk hb
  have HK := Aside0.mk (fun (W : World) (hbb : Below w.heap.size w W) => find_calls base g v l n W (ht.below hbb) hs (by omega) p.f0 p.f1)
  have HO := Aside0.mk (fun (W : World) (hbb : Below w.heap.size w W) => oldest_calls base g v l n W (ht.below hbb) (by omega))
  rw [← hp1, ← hh1] at HK
  have HIN := Aside0.mk (fun (W : World) (hbb : Below w.heap.size w W) => (TTurn.of_below hB hb ht hbb).storeN hb (n + 1))
  obtain ⟨A, c, rfl, hc, _⟩ := ht.open
  clear ht hB hb hs hh hh1 hp1
  obtain ⟨p0, p1, p2, p3, p4⟩ := p
  dsimp only at HK
  generalize pos l ⟨p0, p1, p2, p3, p4⟩ = i at *
  generalize oldF l = o at *
  go_enter Try.func56, Try.ntmps56
  go_wp2_with (first
    | ((with_reducible refine gate_dst (N := 3) rfl ?_); refine box_event ?hg (N := 3) ?hd (cs := #[.int .i64 p0, .int .i64 p1, .int .i64 p2, .int .i64 p3, .bool p4]) (t := 84) ?hr ?_; (case hd => rfl); (case hg => rfl); (case hr => first | (go_simp; done) | (go_simp; rfl)); intro pb hg w1 hbox hb1; have hz0 : w1.cell? ⟨pb, 0, none⟩ = some (.int .i64 p0) := (blk_cell hbox 0).trans rfl; have hz1 : w1.cell? ⟨pb, 1, none⟩ = some (.int .i64 p1) := (blk_cell hbox 1).trans rfl; have HX := Aside0.mk hbox; have HB1 := Aside0.mk hb1; have HG := Aside0.mk hg; clear hbox hb1 hg)
    | (go_at_fn 57; refine (HK.out w1 HB1.out).mono ?_; rintro e w2 ⟨rfl, hb2⟩; have ht2 := HT.out.below (below_step HB1.out hb2); have hgc2 : w2.cell? ⟨g, 0, none⟩ = some (.slice A l.length c) := (blk_cell ht2.cell 0).trans rfl; have HB2 := Aside0.mk (below_step HB1.out hb2); clear ht2 hb2)
    | (go_at_fn 61; refine (HO.out w2 HB2.out).mono ?_; rintro e w3 ⟨rfl, hb3⟩; have ht3 := HT.out.below (below_step HB2.out hb3); have hgc3 : w3.cell? ⟨g, 1, none⟩ = some (.int .i64 n) := (blk_cell ht3.cell 1).trans rfl; have hgf3 := blk_frozen ht3.cell 1; have HFIN := Aside0.mk (HIN.out w3 (below_step HB2.out hb3)); clear ht3 hb3))
  go_ret
  exact ⟨rfl, HFIN.out⟩
theorem del_key {w0 w w3 : World} {base g : Nat} {v v1 : Value} {l : List S84} {n : Int} (T : TTurn w0 w base g v v1 l n w3) (hs : base ≤ w.heap.size) (j : Nat) (hj : j < l.length) :
    Calls Try.prog 62 #[v1, .int .i64 j, .int .i64 ((j : Int) + 1)] w3 fun e w' => ∃ A c, e = .returned (.slice A (l.eraseIdx j).length c) ∧ w'.heap[g]? = some (.cells #[v1, .int .i64 n] 82 (0, 0)) ∧ TTurn w0 w base g v (.slice A (l.eraseIdx j).length c) (l.eraseIdx j) n (w'.setCell ⟨g, 0, none⟩ (.slice A (l.eraseIdx j).length c)) ∧ Kept w3 (w'.setCell ⟨g, 0, none⟩ (.slice A (l.eraseIdx j).length c)) (fun k => k = g ∨ Blk v1 k) := by
  have hs3 := Nat.le_trans hs T.size
  have := del_calls base g v1 l w0 w3 T.bel hs3 T.tbl.row j hj
  rw [show ((j + 1 : Nat) : Int) = (j : Int) + 1 by omega] at this
  refine this.mono ?_
  rintro e w' ⟨v', rfl, ht⟩
  obtain ⟨A, c, rfl, _, _⟩ := ht.row.len
  exact ⟨A, c, rfl, blk_kept T.tbl.cell ht.kept (fun h => T.tbl.row.ne g h rfl), T.trans (Turn.tturn T.tbl ht hs3), (Turn.tturn T.tbl ht hs3).kept⟩
set_option maxHeartbeats 8000000 in
set_option maxRecDepth 100000 in
theorem put_old (base g : Nat) (v : Value) (l : List S84) (n : Int) (w0 w : World) (hB : Below base w0 w) (hb : base ≤ w.heap.size) (ht : Tbl w base g v l n) (hs : l.Pairwise lx) (hlen : l.length ≤ 1000000) (hful : 24 ≤ l.length) (p : S84) (hh : hit l p = false) (j : Nat) (ho : oldF l = (j : Int)) (hj : j < l.length) :
    Calls Try.prog 56 #[.pointer (some ⟨g, 0, none⟩), agg5 p] w fun e w' => e = .returned (.int .i64 0) ∧ ∃ v', TTurn w0 w base g v v' (ins84 (l.eraseIdx j) p) n w' := by
  have e23 : ∀ args w, (callFunc 57 args).run Try.prog w = .ok (.enter 57 args) w := enters_of Try.func57 (by kernel_rfl) rfl
  have e30 : ∀ args w, (callFunc 62 args).run Try.prog w = .ok (.enter 62 args) w := enters_of Try.func62 (by kernel_rfl) rfl
  have e40 : ∀ args w, (callFunc 61 args).run Try.prog w = .ok (.enter 61 args) w := enters_of Try.func61 (by kernel_rfl) rfl
  have e41 : ∀ args w, (callFunc 63 args).run Try.prog w = .ok (.enter 63 args) w := enters_of Try.func63 (by kernel_rfl) rfl
  have hs2 : (l.eraseIdx j).Pairwise lx := hs.sublist (List.eraseIdx_sublist _ _)
  have hl2 : (l.eraseIdx j).length ≤ l.length := by have := List.length_eraseIdx_of_lt hj; omega
  have hp1 := pos_key l p
  have hh1 := hit_key l p
  have hp2 := pos_key (l.eraseIdx j) p
  rw [hh] at hh1
  have hlz : ((l.length : Int) ≥ 24) := by omega
  have HT := Aside0.mk ht
  have HK := Aside0.mk (fun (W : World) (hbb : Below w.heap.size w W) => find_calls base g v l n W (ht.below hbb) hs (by omega) p.f0 p.f1)
  have HO := Aside0.mk (fun (W : World) (hbb : Below w.heap.size w W) => oldest_calls base g v l n W (ht.below hbb) (by omega))
  rw [← hp1, ← hh1] at HK
  rw [ho] at HO
  have HD := Aside0.mk (fun (W : World) (hbb : Below w.heap.size w W) => del_key (TTurn.of_below hB hb ht hbb) hb j hj)
  have HK2 := Aside0.mk (fun (W : World) (v1 : Value) (T : Tbl W base g v1 (l.eraseIdx j) n) => find_calls base g v1 (l.eraseIdx j) n W T hs2 (by omega) p.f0 p.f1)
  rw [← hp2] at HK2
  have HIN := Aside0.mk (fun (W : World) (v1 : Value) (T : TTurn w0 w base g v v1 (l.eraseIdx j) n W) => ins_key T hb (by omega) p)
  have HBW := Aside0.mk (fun (W W2 : World) (v1 : Value) (T : TTurn w0 w base g v v1 (l.eraseIdx j) n W) (hbb : Below W.heap.size W W2) => T.trans (TTurn.of_below T.bel (Nat.le_trans hb T.size) T.tbl hbb))
  obtain ⟨A, c, rfl, hc, _⟩ := ht.open
  have hj0 : ¬ ((j : Int) < 0) := by omega
  have hjl : (j : Int) < (l.length : Int) := by omega
  clear ht hB hb hs hh hh1 hp1 hp2 hs2
  obtain ⟨p0, p1, p2, p3, p4⟩ := p
  dsimp only at HK HK2 HIN
  generalize pos l ⟨p0, p1, p2, p3, p4⟩ = i at *
  generalize pos (l.eraseIdx j) ⟨p0, p1, p2, p3, p4⟩ = i2 at *
  generalize hit (l.eraseIdx j) (tgt p0 p1) = h2 at *
  generalize (l.eraseIdx j).length = n2 at *
  go_enter Try.func56, Try.ntmps56
  go_wp2_with (first
    | ((with_reducible refine gate_dst (N := 3) rfl ?_); refine box_event ?hg (N := 3) ?hd (cs := #[.int .i64 p0, .int .i64 p1, .int .i64 p2, .int .i64 p3, .bool p4]) (t := 84) ?hr ?_; (case hd => rfl); (case hg => rfl); (case hr => first | (go_simp; done) | (go_simp; rfl)); intro pb hg w1 hbox hb1; have hz0 : w1.cell? ⟨pb, 0, none⟩ = some (.int .i64 p0) := (blk_cell hbox 0).trans rfl; have hz1 : w1.cell? ⟨pb, 1, none⟩ = some (.int .i64 p1) := (blk_cell hbox 1).trans rfl; have HX := Aside0.mk hbox; have HB1 := Aside0.mk hb1; have HG := Aside0.mk hg; clear hbox hb1 hg)
    | (go_at_fn 57; refine (HK.out w1 HB1.out).mono ?_; rintro e w2 ⟨rfl, hb2⟩; have ht2 := HT.out.below (below_step HB1.out hb2); have hgc2 : w2.cell? ⟨g, 0, none⟩ = some (.slice A l.length c) := (blk_cell ht2.cell 0).trans rfl; have HX2 := Aside0.mk (blk_below HX.out hb2); have HB2 := Aside0.mk (below_step HB1.out hb2); clear ht2 hb2)
    | (go_at_fn 61; refine (HO.out w2 HB2.out).mono ?_; rintro e w3 ⟨rfl, hb3⟩; have ht3 := HT.out.below (below_step HB2.out hb3); have hgc3 : w3.cell? ⟨g, 0, none⟩ = some (.slice A l.length c) := (blk_cell ht3.cell 0).trans rfl; have HB3 := Aside0.mk (below_step HB2.out hb3); have HX3 := Aside0.mk (blk_below HX2.out hb3); have hpg : pb ≠ g := (fun e => by have h1 := HT.out.lt; have h2 := HG.out; omega); have hpv : ¬ Blk (.slice A l.length c) pb := (fun e => by have h1 := own_lt HT.out.row pb e; have h2 := HG.out; omega); clear ht3 hb3)
    | (go_at_fn 62; refine (HD.out w3 HB3.out).mono ?_; rintro e w4 ⟨A4, c4, rfl, hc4, ht4, hk4⟩; have hx4 := blk_kept HX3.out hk4 (fun h => h.elim hpg hpv); have HX4 := Aside0.mk hx4; have hgc4 : w4.cell? ⟨g, 0, none⟩ = some (.slice A l.length c) := (blk_cell hc4 0).trans rfl; have hgf4 := blk_frozen hc4 0; have HT4 := Aside0.mk ht4; have hz0 : (w4.setCell ⟨g, 0, none⟩ (.slice A4 n2 c4)).cell? ⟨pb, 0, none⟩ = some (.int .i64 p0) := (blk_cell hx4 0).trans rfl; have hz1 : (w4.setCell ⟨g, 0, none⟩ (.slice A4 n2 c4)).cell? ⟨pb, 1, none⟩ = some (.int .i64 p1) := (blk_cell hx4 1).trans rfl; clear hc4 ht4 hk4 hx4)
    | (go_at_fn 57; refine (HK2.out _ _ HT4.out.tbl).mono ?_; rintro e w5 ⟨rfl, hb5⟩; have ht5 := HBW.out _ w5 _ HT4.out hb5; have hx5 := blk_below HX4.out hb5; have hgc5 : w5.cell? ⟨g, 0, none⟩ = some (.slice A4 n2 c4) := (blk_cell ht5.tbl.cell 0).trans rfl; have hy0 : w5.cell? ⟨pb, 0, none⟩ = some (.int .i64 p0) := (blk_cell hx5 0).trans rfl; have hy1 : w5.cell? ⟨pb, 1, none⟩ = some (.int .i64 p1) := (blk_cell hx5 1).trans rfl; have hy2 : w5.cell? ⟨pb, 2, none⟩ = some (.int .i64 p2) := (blk_cell hx5 2).trans rfl; have hy3 : w5.cell? ⟨pb, 3, none⟩ = some (.int .i64 p3) := (blk_cell hx5 3).trans rfl; have hy4 : w5.cell? ⟨pb, 4, none⟩ = some (.bool p4) := (blk_cell hx5 4).trans rfl; have hgn3 : g < w5.heap.size := ht5.tbl.lt; have hpn3 : pb < w5.heap.size := blk_lt hx5; have HKEY := Aside0.mk (HIN.out w5 _ ht5); clear ht5 hx5 hb5))
  have hgn1 : ¬ (g = w5.heap.size) := by omega
  have hgn2 : ¬ (w5.heap.size = g) := by omega
  have hpn1 : ¬ (pb = w5.heap.size) := by omega
  have hpn2 : ¬ (w5.heap.size = pb) := by omega
  clear HIN HK HK2 HBW HD HO
  go_wp2_with fail
  go_region_with (go_at_call 63; refine HKEY.out.mono ?_; rintro e w6 ⟨v6, rfl, ⟨A6, c6, rfl⟩, hc6, ht6⟩; have hgc6 : w6.cell? ⟨g, 0, none⟩ = some (.slice A4 n2 c4) := (blk_cell hc6 0).trans rfl; have hgf6 := blk_frozen hc6 0; have HW6 := Aside0.mk ht6; clear hc6 ht6)
  all_goals (go_wp2; go_ret; exact ⟨rfl, _, HW6.out⟩)
end Go.Proofs.Ytjhkbmdblfdlnaa.QRlb
namespace Go.Proofs.Ytjhkbmdblfdlnaa.QRlb
open Go.RowKit Go.Proofs.YtjhkbmdblfdlnaaW.PrintWords Go.Proofs.YtjhkbmdblfdlnaaW.PrintLast Go.Proofs.YtjhkbmdblfdlnaaW.PrintMore
set_option linter.unusedVariables false
set_option linter.unusedSimpArgs false
def putf (l : List S84) (n : Int) (p : S84) : Int × List S84 × Int :=
  if hit l p = true then (0, l.set (pos l p) p, n) else if l.length < 24 then (0, ins84 l p, n) else if oldF l < 0 then (6, l, n + 1) else (0, ins84 (l.eraseIdx (oldF l).toNat) p, n)
theorem put_calls (base g : Nat) (v : Value) (l : List S84) (n : Int) (w0 w : World) (hB : Below base w0 w) (hb : base ≤ w.heap.size) (ht : Tbl w base g v l n) (hs : l.Pairwise lx) (hlen : l.length ≤ 1000000) (hn0 : 0 ≤ n) (hn1 : n ≤ 1000000) (p : S84) :
    Calls Try.prog 56 #[.pointer (some ⟨g, 0, none⟩), agg5 p] w fun e w' => e = .returned (.int .i64 (putf l n p).1) ∧ ∃ v', TTurn w0 w base g v v' (putf l n p).2.1 (putf l n p).2.2 w' := by
  unfold putf
  by_cases hh : hit l p = true
  · rw [if_pos hh]
    refine (put_hit base g v l n w0 w hB hb ht hs hlen p hh).mono ?_
    rintro e w' ⟨rfl, h⟩
    exact ⟨rfl, _, h⟩
  · rw [if_neg hh]
    have hh2 : hit l p = false := by simpa using hh
    by_cases hr : l.length < 24
    · rw [if_pos hr]
      exact put_room base g v l n w0 w hB hb ht hs hr p hh2
    · rw [if_neg hr]
      by_cases ho : oldF l < 0
      · rw [if_pos ho]
        refine (put_none base g v l n w0 w hB hb ht hs hlen (by omega) hn0 hn1 p hh2 ho).mono ?_
        rintro e w' ⟨rfl, h⟩
        exact ⟨rfl, _, h⟩
      · rw [if_neg ho]
        rcases oldG_range l l.length with e | ⟨j, e, hj⟩
        · have e2 : oldF l = -1 := e
          omega
        · have e2 : oldF l = (j : Int) := e
          rw [e2, Int.toNat_natCast]
          exact put_old base g v l n w0 w hB hb ht hs hlen (by omega) p hh2 j e2 hj
def goodB (vid mac port : Int) : Bool := decide (1 ≤ vid ∧ vid ≤ 4094 ∧ 0 ≤ mac ∧ mac < 281474976710656 ∧ mac / 1099511627776 % 2 ≠ 1 ∧ 0 ≤ port ∧ port < 6)
theorem good_ev (vid mac port : Int) : fdb_good.f vid mac port = some (goodB vid mac port) := by
  unfold fdb_good.f addr_Vid.f addr_Many.f addr_Good.f goodB
  by_cases h1 : vid ≥ 1
  · rw [if_pos h1]
    by_cases h2 : vid ≤ 4094
    · by_cases h3 : mac ≥ 0
      · by_cases h4 : mac ≤ 281474976710655
        · obtain ⟨m, rfl⟩ := Int.eq_ofNat_of_zero_le h3
          have e : bits BinOp.and IntKind.i64 ((m : Int) / 1099511627776) 1 = (m : Int) / 1099511627776 % 2 := by
            have := and_one (m / 1099511627776) (by omega)
            rw [show ((m / 1099511627776 : Nat) : Int) = (m : Int) / 1099511627776 by omega] at this
            rw [this]; omega
          by_cases h5 : (m : Int) / 1099511627776 % 2 = 1
          · simp [h1, h2, h3, h4, e, h5]
          · by_cases h6 : port ≥ 0
            · simp [h1, h2, h3, h4, e, h5, h6]
              have h4' : (m : Int) < 281474976710656 := by omega
              have h6' : 0 ≤ port := h6
              have h1' : 1 ≤ vid := h1
              simp [h4', h6', h1']
            · have h6' : ¬ 0 ≤ port := h6
              simp [h1, h2, h3, h4, e, h5, h6']
        · have h4' : ¬ mac < 281474976710656 := by omega
          simp [h1, h2, h3, h4, h4']
      · have h3' : ¬ 0 ≤ mac := h3
        simp [h1, h2, h3']
    · simp [h2]
  · have h1' : ¬ 1 ≤ vid := h1
    simp [h1']
theorem drawn_below {w w' : World} (h : Drawn0 w w') : Below w.heap.size w w' := by obtain ⟨n, rfl⟩ := h; exact pw_below_drewN (Below.refl _ _) n
theorem good_calls (vid mac port : Int) (w : World) : Calls Try.prog 55 #[.int .i64 vid, .int .i64 mac, .int .i64 port] w fun e w' => e = .returned (.bool (goodB vid mac port)) ∧ Below w.heap.size w w' := by
  refine (fdb_good.calls vid mac port _ w (good_ev vid mac port)).mono ?_
  rintro e w' ⟨rfl, h⟩
  exact ⟨rfl, drawn_below h⟩
def fixf (l : List S84) (n vid mac port : Int) : Int × List S84 × Int := if goodB vid mac port = true then putf l n ⟨vid, mac, port, 0, true⟩ else (1, l, n)
def statB (l : List S84) (vid mac : Int) : Bool := hit l (tgt vid mac) && (match l[pos l (tgt vid mac)]? with | some x => x.f4 | none => false)
def learnf (l : List S84) (n vid mac port now : Int) : Int × List S84 × Int := if goodB vid mac port = true then (if statB l vid mac = true then (0, l, n) else putf l n ⟨vid, mac, port, now, false⟩) else (1, l, n)
set_option maxHeartbeats 4000000 in
set_option maxRecDepth 100000 in
theorem fix_calls (base g : Nat) (v : Value) (l : List S84) (n : Int) (w0 w : World) (hB : Below base w0 w) (hb : base ≤ w.heap.size) (ht : Tbl w base g v l n) (hs : l.Pairwise lx) (hlen : l.length ≤ 1000000) (hn0 : 0 ≤ n) (hn1 : n ≤ 1000000) (vid mac port : Int) :
    Calls Try.prog 43 #[.pointer (some ⟨g, 0, none⟩), .int .i64 vid, .int .i64 mac, .int .i64 port] w fun e w' => e = .returned (.int .i64 (fixf l n vid mac port).1) ∧ ∃ v', TTurn w0 w base g v v' (fixf l n vid mac port).2.1 (fixf l n vid mac port).2.2 w' := by
  have e28 : ∀ args w, (callFunc 55 args).run Try.prog w = .ok (.enter 55 args) w := enters_of Try.func55 (by kernel_rfl) rfl
  have e29 : ∀ args w, (callFunc 56 args).run Try.prog w = .ok (.enter 56 args) w := enters_of Try.func56 (by kernel_rfl) rfl
  have HG := Aside0.mk (fun (W : World) => good_calls vid mac port W)
  have HT := Aside0.mk (fun (W : World) (hbb : Below w.heap.size w W) => TTurn.of_below hB hb ht hbb)
  have HP := Aside0.mk (fun (W : World) (hbb : Below w.heap.size w W) => put_calls base g v l n w0 W (TTurn.of_below hB hb ht hbb).bel (Nat.le_trans hb hbb.size) (ht.below hbb) hs hlen hn0 hn1 ⟨vid, mac, port, 0, true⟩)
  clear ht hB hb hs
  unfold fixf
  by_cases hg : goodB vid mac port = true
  · rw [if_pos hg]
    rw [hg] at HG
    clear hg
    generalize putf l n ⟨vid, mac, port, 0, true⟩ = r at *
    obtain ⟨r0, r1, r2⟩ := r
    go_enter Try.func43, Try.ntmps43
    go_wp2_with (first
      | (go_at_fn 55; refine (HG.out w).mono ?_; rintro e w1 ⟨rfl, hb1⟩; have HB1 := Aside0.mk hb1; clear hb1)
      | (go_at_fn 56; refine (HP.out w1 HB1.out).mono ?_; rintro e w2 ⟨rfl, v2, ht2⟩; have HT2 := Aside0.mk ((HT.out w1 HB1.out).trans ht2); clear ht2))
    go_ret
    exact ⟨rfl, v2, HT2.out⟩
  · rw [if_neg hg]
    have hg2 : goodB vid mac port = false := by simpa using hg
    rw [hg2] at HG
    clear hg hg2
    go_enter Try.func43, Try.ntmps43
    go_wp2_with (go_at_fn 55; refine (HG.out w).mono ?_; rintro e w1 ⟨rfl, hb1⟩; have HB1 := Aside0.mk hb1; clear hb1)
    go_ret
    exact ⟨rfl, v, HT.out w1 HB1.out⟩
set_option maxHeartbeats 8000000 in
set_option maxRecDepth 100000 in
theorem learn_calls (base g : Nat) (v : Value) (l : List S84) (n : Int) (w0 w : World) (hB : Below base w0 w) (hb : base ≤ w.heap.size) (ht : Tbl w base g v l n) (hs : l.Pairwise lx) (hlen : l.length ≤ 1000000) (hn0 : 0 ≤ n) (hn1 : n ≤ 1000000) (vid mac port now : Int) :
    Calls Try.prog 44 #[.pointer (some ⟨g, 0, none⟩), .int .i64 vid, .int .i64 mac, .int .i64 port, .int .i64 now] w fun e w' => e = .returned (.int .i64 (learnf l n vid mac port now).1) ∧ ∃ v', TTurn w0 w base g v v' (learnf l n vid mac port now).2.1 (learnf l n vid mac port now).2.2 w' := by
  have e23 : ∀ args w, (callFunc 57 args).run Try.prog w = .ok (.enter 57 args) w := enters_of Try.func57 (by kernel_rfl) rfl
  have e28 : ∀ args w, (callFunc 55 args).run Try.prog w = .ok (.enter 55 args) w := enters_of Try.func55 (by kernel_rfl) rfl
  have e29 : ∀ args w, (callFunc 56 args).run Try.prog w = .ok (.enter 56 args) w := enters_of Try.func56 (by kernel_rfl) rfl
  have HG := Aside0.mk (fun (W : World) => good_calls vid mac port W)
  have HTB := Aside0.mk ht
  have HT := Aside0.mk (fun (W : World) (hbb : Below w.heap.size w W) => TTurn.of_below hB hb ht hbb)
  have HK := Aside0.mk (fun (W : World) (hbb : Below w.heap.size w W) => find_calls base g v l n W (ht.below hbb) hs hlen vid mac)
  have HP := Aside0.mk (fun (W : World) (hbb : Below w.heap.size w W) => put_calls base g v l n w0 W (TTurn.of_below hB hb ht hbb).bel (Nat.le_trans hb hbb.size) (ht.below hbb) hs hlen hn0 hn1 ⟨vid, mac, port, now, false⟩)
  obtain ⟨A, c, rfl, hc, _⟩ := ht.open
  clear ht hB hb hs
  unfold learnf
  by_cases hg : goodB vid mac port = true
  · rw [if_pos hg]
    rw [hg] at HG
    clear hg
    by_cases hh : hit l (tgt vid mac) = true
    · obtain ⟨hp, _⟩ := hit_at hh
      have hst : statB l vid mac = l[pos l (tgt vid mac)].f4 := by unfold statB; rw [hh, List.getElem?_eq_getElem hp]; rfl
      rw [hst]
      rw [hh] at HK
      have hpz : ((pos l (tgt vid mac) : Nat) : Int) < (l.length : Int) := by omega
      clear hst hh
      generalize pos l (tgt vid mac) = i at *
      have HAT := Aside0.mk (fun (W : World) (ht1 : Tbl W base g (.slice A l.length c) l n) => (show ∃ ad, A = some ad ∧ W.cell? ⟨(ad.add (i * 5)).block, (ad.add (i * 5)).off + 4, none⟩ = some (.bool l[i].f4) by obtain ⟨_, _, e1, _, hC1⟩ := ht1.open; cases e1; obtain ⟨ad, ea, _, _, _, _, hx4⟩ := atN_T84 hC1 i hp; exact ⟨ad, ea, hx4⟩))
      generalize l[i].f4 = b at *
      cases b with
      | true =>
        rw [if_pos rfl]
        clear HP
        go_enter Try.func44, Try.ntmps44
        go_wp2_with (first
          | (go_at_fn 55; refine (HG.out w).mono ?_; rintro e w1 ⟨rfl, hb1⟩; have HB1 := Aside0.mk hb1; clear hb1)
          | (go_at_fn 57; refine (HK.out w1 HB1.out).mono ?_; rintro e w2 ⟨rfl, hb2⟩; have ht2 := HTB.out.below (below_step HB1.out hb2); have hgc2 : w2.cell? ⟨g, 0, none⟩ = some (.slice A l.length c) := (blk_cell ht2.cell 0).trans rfl; obtain ⟨ad, ea, hx4⟩ := HAT.out w2 ht2; subst ea; have HB2 := Aside0.mk (below_step HB1.out hb2); clear ht2 hb2))
        go_ret
        exact ⟨rfl, _, HT.out w2 HB2.out⟩
      | false =>
        rw [if_neg (by decide)]
        generalize putf l n ⟨vid, mac, port, now, false⟩ = r at *
        obtain ⟨r0, r1, r2⟩ := r
        go_enter Try.func44, Try.ntmps44
        go_wp2_with (first
          | (go_at_fn 55; refine (HG.out w).mono ?_; rintro e w1 ⟨rfl, hb1⟩; have HB1 := Aside0.mk hb1; clear hb1)
          | (go_at_fn 57; refine (HK.out w1 HB1.out).mono ?_; rintro e w2 ⟨rfl, hb2⟩; have ht2 := HTB.out.below (below_step HB1.out hb2); have hgc2 : w2.cell? ⟨g, 0, none⟩ = some (.slice A l.length c) := (blk_cell ht2.cell 0).trans rfl; obtain ⟨ad, ea, hx4⟩ := HAT.out w2 ht2; subst ea; have HB2 := Aside0.mk (below_step HB1.out hb2); clear ht2 hb2)
          | (go_at_fn 56; refine (HP.out w2 HB2.out).mono ?_; rintro e w3 ⟨rfl, v3, ht3⟩; have HT3 := Aside0.mk ((HT.out w2 HB2.out).trans ht3); clear ht3))
        go_ret
        exact ⟨rfl, v3, HT3.out⟩
    · have hst : statB l vid mac = false := by unfold statB; rw [show hit l (tgt vid mac) = false by simpa using hh]; rfl
      have hh2 : hit l (tgt vid mac) = false := by simpa using hh
      rw [hst, if_neg (by decide)]
      rw [hh2] at HK
      clear hst hh hh2
      generalize putf l n ⟨vid, mac, port, now, false⟩ = r at *
      obtain ⟨r0, r1, r2⟩ := r
      generalize pos l (tgt vid mac) = i at *
      go_enter Try.func44, Try.ntmps44
      go_wp2_with (first
        | (go_at_fn 55; refine (HG.out w).mono ?_; rintro e w1 ⟨rfl, hb1⟩; have HB1 := Aside0.mk hb1; clear hb1)
        | (go_at_fn 57; refine (HK.out w1 HB1.out).mono ?_; rintro e w2 ⟨rfl, hb2⟩; have HB2 := Aside0.mk (below_step HB1.out hb2); clear hb2)
        | (go_at_fn 56; refine (HP.out w2 HB2.out).mono ?_; rintro e w3 ⟨rfl, v3, ht3⟩; have HT3 := Aside0.mk ((HT.out w2 HB2.out).trans ht3); clear ht3))
      go_ret
      exact ⟨rfl, v3, HT3.out⟩
  · rw [if_neg hg]
    have hg2 : goodB vid mac port = false := by simpa using hg
    rw [hg2] at HG
    clear hg hg2 HK HP
    go_enter Try.func44, Try.ntmps44
    go_wp2_with (go_at_fn 55; refine (HG.out w).mono ?_; rintro e w1 ⟨rfl, hb1⟩; have HB1 := Aside0.mk hb1; clear hb1)
    go_ret
    exact ⟨rfl, _, HT.out w1 HB1.out⟩
end Go.Proofs.Ytjhkbmdblfdlnaa.QRlb
namespace Go.Proofs.Ytjhkbmdblfdlnaa.QRlb
open Go.RowKit Go.Proofs.YtjhkbmdblfdlnaaW.PrintWords Go.Proofs.YtjhkbmdblfdlnaaW.PrintLast Go.Proofs.YtjhkbmdblfdlnaaW.PrintMore
set_option linter.unusedVariables false
set_option linter.unusedSimpArgs false
theorem pos_zero {r : List S84} {t : S84} (h : ∀ y ∈ r, ¬ lx y t) : pos r t = 0 := by
  unfold pos
  rw [List.countP_eq_zero]
  intro a ha
  simpa using h a ha
theorem pos_cons (x : S84) (r : List S84) (t : S84) : pos (x :: r) t = pos r t + if lx x t then 1 else 0 := by
  unfold pos
  rw [List.countP_cons]
  simp
theorem pos_split {l : List S84} (h : l.Pairwise lx) (t : S84) : (∀ x ∈ l.take (pos l t), lx x t) ∧ (∀ x ∈ l.drop (pos l t), ¬ lx x t) := by
  induction l with
  | nil => exact ⟨fun x hx => by simp at hx, fun x hx => by simp at hx⟩
  | cons y r ih =>
    have hp := List.pairwise_cons.1 h
    by_cases hy : lx y t
    · rw [pos_cons, if_pos hy, List.take_succ_cons, List.drop_succ_cons]
      obtain ⟨h1, h2⟩ := ih hp.2
      refine ⟨fun x hx => ?_, h2⟩
      rcases List.mem_cons.1 hx with rfl | hx
      · exact hy
      · exact h1 x hx
    · have hr : ∀ z ∈ r, ¬ lx z t := fun z hz h3 => hy (lx_trans (hp.1 z hz) h3)
      rw [pos_cons, if_neg hy, pos_zero hr]
      refine ⟨fun x hx => by simp at hx, fun x hx => ?_⟩
      rcases List.mem_cons.1 (by simpa using hx : x ∈ y :: r) with h3 | h3
      · rw [h3]; exact hy
      · exact hr x h3
theorem hit_of {l : List S84} (h : l.Pairwise lx) {t x : S84} (hx : x ∈ l) (hs : Same x t) : hit l t = true := by
  obtain ⟨h1, h2⟩ := pos_split h t
  have hn : ¬ lx x t := fun h3 => by unfold lx at h3; unfold Same at hs; omega
  have hd : x ∈ l.drop (pos l t) := by
    have : x ∈ l.take (pos l t) ++ l.drop (pos l t) := by rw [List.take_append_drop]; exact hx
    rcases List.mem_append.1 this with h3 | h3
    · exact absurd (h1 x h3) hn
    · exact h3
  have hlt : pos l t < l.length := by
    rcases Nat.lt_or_ge (pos l t) l.length with h3 | h3
    · exact h3
    · rw [List.drop_of_length_le h3] at hd; cases hd
  have e := List.drop_eq_getElem_cons hlt
  have hhead : ¬ lx l[pos l t] t := h2 _ (by rw [e]; exact List.mem_cons_self)
  have hsm : Same l[pos l t] t := by
    rw [e] at hd
    rcases List.mem_cons.1 hd with rfl | hd
    · exact hs
    · have hps : (l.drop (pos l t)).Pairwise lx := h.sublist (List.drop_sublist _ _)
      rw [e] at hps
      have := (List.pairwise_cons.1 hps).1 x hd
      refine absurd ?_ hhead
      unfold lx at this ⊢; unfold Same at hs; omega
  unfold hit
  rw [List.getElem?_eq_getElem hlt]
  simpa using hsm
theorem hit_none {l : List S84} (h : l.Pairwise lx) {t : S84} (hh : hit l t = false) : ∀ x ∈ l, ¬ Same x t := fun x hx hs => by rw [hit_of h hx hs] at hh; cases hh
theorem lx_key {x y x' y' : S84} (h1 : Same x x') (h2 : Same y y') (h : lx x y) : lx x' y' := by unfold lx at *; unfold Same at *; omega
theorem ord_set : ∀ {l : List S84} {i : Nat} {p : S84} (h : l.Pairwise lx) (hi : i < l.length) (hs : Same l[i] p), (l.set i p).Pairwise lx
  | x :: r, 0, p, h, hi, hs => by
    have hp := List.pairwise_cons.1 h
    exact List.pairwise_cons.2 ⟨fun y hy => lx_key hs ⟨rfl, rfl⟩ (hp.1 y hy), hp.2⟩
  | x :: r, i + 1, p, h, hi, hs => by
    have hp := List.pairwise_cons.1 h
    have hi2 : i < r.length := by simpa using hi
    refine List.pairwise_cons.2 ⟨fun y hy => ?_, ord_set hp.2 hi2 hs⟩
    rcases List.mem_or_eq_of_mem_set hy with h1 | rfl
    · exact hp.1 y h1
    · exact lx_key ⟨rfl, rfl⟩ hs (hp.1 _ (List.getElem_mem hi2))
theorem ord_ins {l : List S84} (hl : l.Pairwise lx) {p : S84} (hn : ∀ x ∈ l, ¬ Same x p) : (ins84 l p).Pairwise lx := by
  obtain ⟨h1, h2⟩ := pos_split hl p
  unfold ins84
  rw [List.append_assoc, List.pairwise_append]
  refine ⟨hl.sublist (List.take_sublist _ _), ?_, ?_⟩
  · refine List.pairwise_cons.2 ⟨fun y hy => ?_, hl.sublist (List.drop_sublist _ _)⟩
    have hy2 : y ∈ l.drop (pos l p) := by simpa using hy
    rcases Classical.em (lx p y) with h3 | h3
    · exact h3
    · exact absurd (not_lx (h2 y hy2) h3) (hn y (List.mem_of_mem_drop hy2))
  · intro a ha b hb
    have la := h1 a ha
    rcases List.mem_cons.1 (by simpa using hb : b ∈ p :: l.drop (pos l p)) with rfl | hb
    · exact la
    · have : l = l.take (pos l p) ++ l.drop (pos l p) := (List.take_append_drop _ _).symm
      have hp := hl
      rw [this] at hp
      exact (List.pairwise_append.1 hp).2.2 a ha b hb
theorem ins_len (l : List S84) (p : S84) : (ins84 l p).length = l.length + 1 := by
  unfold ins84
  have := pos_le l p
  simp only [List.length_append, List.length_take, List.length_drop, List.length_cons, List.length_nil]
  omega
theorem putf_len {l : List S84} (hl : l.length ≤ 24) (n : Int) (p : S84) : (putf l n p).2.1.length ≤ 24 ∧ (n ≤ (putf l n p).2.2 ∧ (putf l n p).2.2 ≤ n + 1) := by
  unfold putf
  by_cases h1 : hit l p = true
  · rw [if_pos h1]; exact ⟨by simpa using hl, by show n ≤ n; omega, by show n ≤ n + 1; omega⟩
  · rw [if_neg h1]
    by_cases h2 : l.length < 24
    · rw [if_pos h2]; exact ⟨by show (ins84 l p).length ≤ 24; rw [ins_len]; omega, by show n ≤ n; omega, by show n ≤ n + 1; omega⟩
    · rw [if_neg h2]
      by_cases h3 : oldF l < 0
      · rw [if_pos h3]; exact ⟨hl, by show n ≤ n + 1; omega, by show n + 1 ≤ n + 1; omega⟩
      · rw [if_neg h3]
        refine ⟨?_, by show n ≤ n; omega, by show n ≤ n + 1; omega⟩
        show (ins84 (l.eraseIdx (oldF l).toNat) p).length ≤ 24
        rcases oldG_range l l.length with e | ⟨j, e, hj⟩
        · have e2 : oldF l = -1 := e
          omega
        · rw [ins_len, show oldF l = (j : Int) from e, Int.toNat_natCast, List.length_eraseIdx_of_lt hj]; omega
theorem putf_ord {l : List S84} (hl : l.Pairwise lx) (n : Int) (p : S84) : (putf l n p).2.1.Pairwise lx := by
  unfold putf
  by_cases h1 : hit l p = true
  · rw [if_pos h1]
    obtain ⟨hp, hs⟩ := hit_at h1
    exact ord_set hl hp hs
  · rw [if_neg h1]
    have h1' : hit l p = false := by simpa using h1
    by_cases h2 : l.length < 24
    · rw [if_pos h2]; exact ord_ins hl (hit_none hl h1')
    · rw [if_neg h2]
      by_cases h3 : oldF l < 0
      · rw [if_pos h3]; exact hl
      · rw [if_neg h3]
        exact ord_ins (hl.sublist (List.eraseIdx_sublist _ _)) (fun x hx => hit_none hl h1' x (List.mem_of_mem_eraseIdx hx))
def tstep (s : List S84 × Int) (p : S84) : List S84 × Int := if p.f4 = true then (fixf s.1 s.2 p.f0 p.f1 p.f2).2 else (learnf s.1 s.2 p.f0 p.f1 p.f2 p.f3).2
theorem fixf_ok {l : List S84} (hs : l.Pairwise lx) (hl : l.length ≤ 24) (n vid mac port : Int) : (fixf l n vid mac port).2.1.Pairwise lx ∧ (fixf l n vid mac port).2.1.length ≤ 24 ∧ n ≤ (fixf l n vid mac port).2.2 ∧ (fixf l n vid mac port).2.2 ≤ n + 1 := by
  unfold fixf
  split
  · exact ⟨putf_ord hs _ _, putf_len hl _ _⟩
  · exact ⟨hs, hl, by show n ≤ n; omega, by show n ≤ n + 1; omega⟩
theorem learnf_ok {l : List S84} (hs : l.Pairwise lx) (hl : l.length ≤ 24) (n vid mac port now : Int) : (learnf l n vid mac port now).2.1.Pairwise lx ∧ (learnf l n vid mac port now).2.1.length ≤ 24 ∧ n ≤ (learnf l n vid mac port now).2.2 ∧ (learnf l n vid mac port now).2.2 ≤ n + 1 := by
  unfold learnf
  split
  · split
    · exact ⟨hs, hl, by show n ≤ n; omega, by show n ≤ n + 1; omega⟩
    · exact ⟨putf_ord hs _ _, putf_len hl _ _⟩
  · exact ⟨hs, hl, by show n ≤ n; omega, by show n ≤ n + 1; omega⟩
def tableL (l : List S84) (i : Nat) : List S84 × Int := (l.take i).foldl tstep ([], 0)
theorem tableL_next {l : List S84} {i : Nat} (h : i < l.length) : tableL l (i + 1) = tstep (tableL l i) l[i] := by
  unfold tableL
  rw [List.take_succ_eq_append_getElem h, List.foldl_append]; rfl
def TabC (w : World) (v : Value) (l : List S84) : Prop := (v = .pointer none ∧ l = []) ∨ ∃ base g u n, v = .pointer (some ⟨g, 0, none⟩) ∧ Tbl w base g u l n ∧ l.Pairwise lx ∧ l.length ≤ 1000000
theorem TabC.nil (w : World) : TabC w (.pointer none) [] := .inl ⟨rfl, rfl⟩
theorem TabC.below {w w1 : World} {v : Value} {l : List S84} (h : TabC w v l) (hb : Below w.heap.size w w1) : TabC w1 v l := by
  rcases h with ⟨h1, h2⟩ | ⟨base, g, u, n, h1, h2, h3⟩
  · exact .inl ⟨h1, h2⟩
  · exact .inr ⟨base, g, u, n, h1, h2.below hb, h3⟩
theorem TabC.alloc {w : World} {v : Value} {l : List S84} (h : TabC w v l) (o : Obj) : TabC (w.alloc o) v l := h.below (below_alloc (Below.refl _ _) o)
theorem TabC.drewN {w : World} {v : Value} {l : List S84} (h : TabC w v l) (n : Nat) : TabC (w.drewN n) v l := h.below (pw_below_drewN (Below.refl _ _) n)
theorem TabC.drew {w : World} {v : Value} {l : List S84} (h : TabC w v l) : TabC w.drew v l := h.below (below_drew1 (Below.refl _ _))
def fdb_New.f : Option (List S84) := some []
theorem fdb_New.calls (r : List S84) (w : World) (h : fdb_New.f = some r) :
    Calls Try.prog 28 #[] w fun e w' => ∃ v, e = .returned v ∧ TabC w' v r ∧ Below w.heap.size w w' := by
  obtain rfl := Option.some.inj h
  refine (New_calls w.heap.size w (Nat.le_refl _)).mono ?_
  rintro e w' ⟨g, rfl, ht, hb, _⟩
  exact ⟨_, rfl, .inr ⟨_, g, _, _, rfl, ht, List.Pairwise.nil, Nat.zero_le _⟩, hb⟩
set_option maxHeartbeats 4000000 in
set_option maxRecDepth 100000 in
theorem Find_nil (a1 a2 : Int) (w : World) : Calls Try.prog 53 #[.pointer none, .int .i64 a1, .int .i64 a2] w fun e w' => e = .returned (.int .i64 (-1)) ∧ Below w.heap.size w w' := by
  go_enter Try.func53, Try.ntmps53
  go_wp2
  go_ret
  exact ⟨rfl, by repeat (first | exact Below.refl _ _ | apply below_alloc | apply pw_below_drewN | apply below_drew1)⟩
def fdb_Table_Find.f (l : List S84) (a1 a2 : Int) : Option Int := some (findF l a1 a2)
theorem fdb_Table_Find.calls (v0 : Value) (l0 : List S84) (a1 a2 : Int) (r : Int) (w : World) (hr0 : TabC w v0 l0) (h : fdb_Table_Find.f l0 a1 a2 = some r) :
    Calls Try.prog 53 #[v0, .int .i64 a1, .int .i64 a2] w fun e w' => e = .returned (.int .i64 r) ∧ Below w.heap.size w w' := by
  obtain rfl := Option.some.inj h
  rcases hr0 with ⟨rfl, rfl⟩ | ⟨base, g, u, n, rfl, h1, h2, h3⟩
  · exact Find_nil a1 a2 w
  · exact Find_calls base g u l0 n w h1 h2 h3 a1 a2
def kissgatelaw19_table.f (l : List S84) : Option (List S84) := if l.length ≤ 1000 then some (tableL l l.length).1 else none
theorem lay5_cells {W : World} {gb : Nat} {x : S84} (h : W.heap[gb]? = some (.cells #[.int .i64 x.f0, .int .i64 x.f1, .int .i64 x.f2, .int .i64 x.f3, .bool x.f4] 84 (0, 0))) :
    W.cell? ⟨gb, 0, none⟩ = some (.int .i64 x.f0) ∧ W.cell? ⟨gb, 1, none⟩ = some (.int .i64 x.f1) ∧ W.cell? ⟨gb, 2, none⟩ = some (.int .i64 x.f2) ∧ W.cell? ⟨gb, 3, none⟩ = some (.int .i64 x.f3) ∧ W.cell? ⟨gb, 4, none⟩ = some (.bool x.f4) :=
  ⟨(blk_cell h 0).trans rfl, (blk_cell h 1).trans rfl, (blk_cell h 2).trans rfl, (blk_cell h 3).trans rfl, (blk_cell h 4).trans rfl⟩
set_option maxHeartbeats 8000000 in
set_option maxRecDepth 100000 in
theorem kissgatelaw19_table.calls (A : Option Addr) (c : Nat) (l : List S84) (r : List S84) (w : World) (hr0 : Kd.C k84 w A l.length l) (hc0 : l.length ≤ c) (h : kissgatelaw19_table.f l = some r) :
    Calls Try.prog 29 #[.slice A l.length c] w fun e w' => ∃ v, e = .returned v ∧ TabC w' v r ∧ Below w.heap.size w w' := by
  unfold kissgatelaw19_table.f at h
  by_cases hl0 : l.length ≤ 1000
  case neg => rw [if_neg hl0] at h; cases h
  rw [if_pos hl0] at h
  obtain rfl := Option.some.inj h
  have e28 : ∀ args w, (callFunc 28 args).run Try.prog w = .ok (.enter 28 args) w := enters_of Try.func28 (by kernel_rfl) rfl
  have e43 : ∀ args w, (callFunc 43 args).run Try.prog w = .ok (.enter 43 args) w := enters_of Try.func43 (by kernel_rfl) rfl
  have e44 : ∀ args w, (callFunc 44 args).run Try.prog w = .ok (.enter 44 args) w := enters_of Try.func44 (by kernel_rfl) rfl
  have HR0 := Aside0.mk hr0
  clear hr0 h
  go_enter Try.func29, Try.ntmps29
  go_wp2_with (go_at_fn 28; refine (New_calls w.heap.size w (Nat.le_refl _)).mono ?_; rintro e w3 ⟨g, rfl, ht3, hb3, _⟩; have HT3 := Aside0.mk ht3; have HB3 := Aside0.mk hb3; clear ht3 hb3)
  go_loopg [9] l.length (fun gk s9 wr => ∃ (i : Nat) (v : Value), s9 = .int .i64 i ∧ i ≤ l.length ∧ l.length - i ≤ gk ∧ (tableL l i).1.length ≤ 24 ∧ (tableL l i).1.Pairwise lx ∧ 0 ≤ (tableL l i).2 ∧ (tableL l i).2 ≤ i ∧ Aside0 (Tbl wr w.heap.size g v (tableL l i).1 (tableL l i).2) ∧ Aside0 (Below w.heap.size w wr))
  case atStart => exact ⟨0, _, rfl, Nat.zero_le _, by omega, Nat.zero_le _, List.Pairwise.nil, Int.le_refl _, Int.le_refl _, HT3, HB3⟩
  case round =>
    obtain ⟨i, v, rfl, hil, hgk, hLl, hLs, hn0, hn1, HT, HB⟩ := hrel
    by_cases hlt : i < l.length
    · have hlz : (i : Int) < (l.length : Int) := by omega
      obtain ⟨ad, ea, hx0, hx1, hx2, hx3, hx4⟩ := atN_T84 (Kd.C_below HR0.out HB.out) i hlt
      subst ea
      have hnx := tableL_next hlt
      have HFX := Aside0.mk (fun (W : World) (hB : Below w.heap.size w W) (ht : Tbl W w.heap.size g v (tableL l i).1 (tableL l i).2) => fix_calls w.heap.size g v (tableL l i).1 (tableL l i).2 w W hB hB.size ht hLs (by omega) hn0 (by omega) l[i].f0 l[i].f1 l[i].f2)
      have HLN := Aside0.mk (fun (W : World) (hB : Below w.heap.size w W) (ht : Tbl W w.heap.size g v (tableL l i).1 (tableL l i).2) => learn_calls w.heap.size g v (tableL l i).1 (tableL l i).2 w W hB hB.size ht hLs (by omega) hn0 (by omega) l[i].f0 l[i].f1 l[i].f2 l[i].f3)
      have hfo := fixf_ok hLs hLl (tableL l i).2 l[i].f0 l[i].f1 l[i].f2
      have hlo := learnf_ok hLs hLl (tableL l i).2 l[i].f0 l[i].f1 l[i].f2 l[i].f3
      unfold tstep at hnx
      generalize l[i] = x at *
      generalize hcu : tableL l i = cu at *
      obtain ⟨x0, x1, x2, x3, x4⟩ := x
      dsimp only at hx0 hx1 hx2 hx3 hx4 HFX HLN hnx hfo hlo
      generalize fixf cu.1 cu.2 x0 x1 x2 = fx at *
      generalize learnf cu.1 cu.2 x0 x1 x2 x3 = ln at *
      have HFO := Aside0.mk hfo
      have HLO := Aside0.mk hlo
      have HN1 := Aside0.mk hn1
      have HN0 := Aside0.mk hn0
      clear hfo hlo hLl hLs hn0 hn1
      go_upto_region 5 with (first
        | ((with_reducible refine gate_dst (N := 5) rfl ?_); refine box_event ?hg (N := 5) ?hd (cs := #[.int .i64 0, .int .i64 0, .int .i64 0, .int .i64 0, .bool false]) (t := 84) ?hr ?_; (case hd => rfl); (case hg => rfl); (case hr => first | (go_simp; done) | (go_simp; rfl)); intro cb hg w4 hbox hb4; obtain ⟨hcz0, hcz1, hcz2, hcz3, hcz4⟩ := lay5_cells (x := ⟨0, 0, 0, 0, false⟩) hbox; have hfz0 := blk_frozen hbox 0; have hfz1 := blk_frozen hbox 1; have hfz2 := blk_frozen hbox 2; have hfz3 := blk_frozen hbox 3; have hfz4 := blk_frozen hbox 4; have BX := Aside0.mk hbox; have KX := Aside0.mk hb4; have HGB := Aside0.mk hg; clear hbox hb4 hg))
      have B5 := lay5_below KX.out (Nat.le_of_eq HGB.out.symm) ⟨x0, x1, x2, x3, x4⟩
      have X5 := lay5_blk BX.out ⟨x0, x1, x2, x3, x4⟩
      unfold lay5 at B5 X5
      dsimp only at B5 X5
      generalize ((((w4.setCell ⟨cb, 0, none⟩ (.int .i64 x0)).setCell ⟨cb, 1, none⟩ (.int .i64 x1)).setCell ⟨cb, 2, none⟩ (.int .i64 x2)).setCell ⟨cb, 3, none⟩ (.int .i64 x3)).setCell ⟨cb, 4, none⟩ (.bool x4) = w5 at *
      obtain ⟨hz0, hz1, hz2, hz3, hz4⟩ := lay5_cells (x := ⟨x0, x1, x2, x3, x4⟩) X5
      dsimp only at hz0 hz1 hz2 hz3 hz4
      have HB5 := Aside0.mk (below_step HB.out B5)
      have HT5 := Aside0.mk (HT.out.below B5)
      clear hcz0 hcz1 hcz2 hcz3 hcz4 hfz0 hfz1 hfz2 hfz3 hfz4 BX KX HGB X5 B5 hx0 hx1 hx2 hx3 hx4
      cases x4
      · rw [if_neg (by decide)] at hnx
        have HNX := Aside0.mk hnx
        clear hnx
        go_wp2_with (go_at_fn 44; refine (HLN.out w5 HB5.out HT5.out).mono ?_; rintro e w7 ⟨rfl, v', t7⟩; have HT7 := Aside0.mk t7; clear t7)
        go_roundg (l.length - (i + 1))
        case measure => omega
        case rel => exact ⟨i + 1, v', by go_num, by omega, Nat.le_refl _, by rw [HNX.out]; exact HLO.out.2.1, by rw [HNX.out]; exact HLO.out.1, by rw [HNX.out]; have := HLO.out.2.2; have := HN0.out; omega, by rw [HNX.out]; have := HLO.out.2.2; have := HN1.out; omega, by rw [HNX.out]; exact ⟨HT7.out.tbl⟩, ⟨HT7.out.bel⟩⟩
      · rw [if_pos rfl] at hnx
        have HNX := Aside0.mk hnx
        clear hnx
        go_wp2_with (go_at_fn 43; refine (HFX.out w5 HB5.out HT5.out).mono ?_; rintro e w7 ⟨rfl, v', t7⟩; have HT7 := Aside0.mk t7; clear t7)
        go_roundg (l.length - (i + 1))
        case measure => omega
        case rel => exact ⟨i + 1, v', by go_num, by omega, Nat.le_refl _, by rw [HNX.out]; exact HFO.out.2.1, by rw [HNX.out]; exact HFO.out.1, by rw [HNX.out]; have := HFO.out.2.2; have := HN0.out; omega, by rw [HNX.out]; have := HFO.out.2.2; have := HN1.out; omega, by rw [HNX.out]; exact ⟨HT7.out.tbl⟩, ⟨HT7.out.bel⟩⟩
    · have e : i = l.length := by omega
      subst e
      go_wp2
      go_ret
      exact ⟨_, rfl, .inr ⟨_, g, v, _, rfl, HT.out, hLs, by omega⟩, HB.out⟩
end Go.Proofs.Ytjhkbmdblfdlnaa.QRlb
namespace Go.Proofs.Ytjhkbmdblfdlnaa.QRlb
open Go.RowKit Go.Proofs.YtjhkbmdblfdlnaaW.PrintWords Go.Proofs.YtjhkbmdblfdlnaaW.PrintLast Go.Proofs.YtjhkbmdblfdlnaaW.PrintMore
attribute [local go_sem] max2_int min2_int max_two min_two max_three min_three max_four min_four
set_option linter.unusedVariables false
set_option linter.unusedSimpArgs false
theorem eqA49 (d : Nat) (w : World) (x0 y0 : Int) (x1 y1 : Int) (x2 y2 : Bool) (x3 y3 : Int) (x4 y4 : Int) (x5 y5 : Int) (x6 y6 : ByteArray) :
    (Op.equalIn (d + 2) 49 (.agg #[.int .i64 x0, .int .i64 x1, .bool x2, .int .i64 x3, .int .i64 x4, .int .i64 x5, .string x6]) (.agg #[.int .i64 y0, .int .i64 y1, .bool y2, .int .i64 y3, .int .i64 y4, .int .i64 y5, .string y6])).run Try.prog w = .ok (x0 == y0 && (x1 == y1 && (x2 == y2 && (x3 == y3 && (x4 == y4 && (x5 == y5 && (x6.toList == y6.toList))))))) w := by
  refine eqA_of Try.underlying49 (by kernel_rfl) ?_
  refine eqf_cons (by rfl) (by go_simp; rfl) (by go_simp; rfl) (by go_simp) ?_
  refine eqf_cons (by rfl) (by go_simp; rfl) (by go_simp; rfl) (by go_simp) ?_
  refine eqf_cons (by rfl) (by go_simp; rfl) (by go_simp; rfl) (by go_simp) ?_
  refine eqf_cons (by rfl) (by go_simp; rfl) (by go_simp; rfl) (by go_simp) ?_
  refine eqf_cons (by rfl) (by go_simp; rfl) (by go_simp; rfl) (by go_simp) ?_
  refine eqf_cons (by rfl) (by go_simp; rfl) (by go_simp; rfl) (by go_simp) ?_
  exact eqf_last (by rfl) (by go_simp; rfl) (by go_simp; rfl) (by go_simp)
theorem eqA63 (d : Nat) (w : World) (x0 y0 : Int) (x1 y1 : Int) (x2 y2 : Int) (x3 y3 : Bool) (x4 y4 : Int) (x5 y5 : Int) (x6 y6 : Int) (x7 y7 : ByteArray) :
    (Op.equalIn (d + 3) 63 (.agg #[.int .i64 x0, .int .i64 x1, .int .i64 x2, .bool x3, .int .i64 x4, .int .i64 x5, .int .i64 x6, .string x7]) (.agg #[.int .i64 y0, .int .i64 y1, .int .i64 y2, .bool y3, .int .i64 y4, .int .i64 y5, .int .i64 y6, .string y7])).run Try.prog w = .ok (x0 == y0 && ((x1 == y1 && (x2 == y2 && (x3 == y3 && (x4 == y4 && (x5 == y5 && (x6 == y6 && (x7.toList == y7.toList))))))))) w := by
  refine eqA_of Try.underlying63 (by kernel_rfl) ?_
  refine eqf_cons (by rfl) (by go_simp; rfl) (by go_simp; rfl) (by go_simp) ?_
  exact eqf_last (by rfl) (by go_simp) (by go_simp) (eqA49 (d + 0) w _ _ _ _ _ _ _ _ _ _ _ _ _ _)
end Go.Proofs.Ytjhkbmdblfdlnaa.QRlb

/- What an argument of a law reads as: one lemma a kind (numbers, bools, strings, slices, structs), by the printed kinds 'Kd'. -/
import Derived.Test.YthcmgjbkmnpibaaTFnExactTakePacked
import Derived.OpenShut
import Derived.WideShapes
import Derived.ChangeMaps5
import Derived.ChangeOld
import Derived.ProofKit
namespace Go.Proofs.Ythcmgjbkmnpibaa.Opens
open Go.RowKit Go.Proofs.YthcmgjbkmnpibaaW.PrintWords Go.Proofs.YthcmgjbkmnpibaaW.PrintLast Go.Proofs.YthcmgjbkmnpibaaW.PrintMore

/-- Whatever reads as a datum of type t is a row of cells of kind d, and G holds of the value. -/
structure Opens {α : Type} (P : Program) (d : Kd α) (t : TypeId) (G : α → Prop) : Prop where
  sz : P.cellsOf t = d.sz
  op : ∀ {H : Type} (enc : TypeId × Value → H) (W : World) (fuel : Nat) (cs : List Value) (r : DataW H × List MemPlace),
    DataW.trod enc P W 0 (fun _ => true) true fuel t cs = some r → ∃ x, d.K W x cs ∧ G x

theorem opens_int {P : Program} {t : TypeId} {k : IntKind} (ht : P.underlying t = some (.int k)) (hc : P.cellsOf t = 1) :
    Opens P (Kd.int k) t (fun x => (Lit.int k x).wf = true) :=
  ⟨hc, fun enc W fuel cs r h => by
    obtain ⟨n, rfl, _, hw⟩ := DataW.trod_int ht h
    exact ⟨n, rfl, hw⟩⟩
theorem opens_bool {P : Program} {t : TypeId} (ht : P.underlying t = some .bool) (hc : P.cellsOf t = 1) :
    Opens P Kd.bool t (fun _ => True) :=
  ⟨hc, fun enc W fuel cs r h => by
    obtain ⟨n, rfl, _⟩ := DataW.trod_bool ht h
    exact ⟨n, rfl, trivial⟩⟩
theorem opens_string {P : Program} {t : TypeId} (ht : P.underlying t = some .string) (hc : P.cellsOf t = 1) :
    Opens P Kd.string t (fun x => x.size ≤ maxLen) :=
  ⟨hc, fun enc W fuel cs r h => by
    obtain ⟨n, rfl, _, hs⟩ := DataW.trod_string ht h
    exact ⟨n, rfl, hs⟩⟩

theorem list_choose {β : Type} (Q : Nat → β → Prop) : ∀ (n : Nat), (∀ i, i < n → ∃ x, Q i x) → ∃ l : List β, l.length = n ∧ ∀ i x, l[i]? = some x → Q i x
  | 0, _ => ⟨[], rfl, fun i x h => by simp at h⟩
  | n + 1, h => by
    obtain ⟨l, hl, hq⟩ := list_choose Q n (fun i hi => h i (by omega))
    obtain ⟨x, hx⟩ := h n (by omega)
    refine ⟨l ++ [x], by simp [hl], fun i y hy => ?_⟩
    by_cases hi : i < l.length
    · rw [List.getElem?_append_left hi] at hy
      exact hq i y hy
    · rw [List.getElem?_append_right (by omega)] at hy
      have : i - l.length = 0 := by
        rcases Nat.eq_zero_or_pos (i - l.length) with h0 | h0
        · exact h0
        · rw [List.getElem?_eq_none (by simp; omega)] at hy
          simp at hy
      rw [this] at hy
      simp at hy
      subst hy
      have : i = n := by omega
      subst this
      exact hx

theorem cells_get {w : World} {a : Addr} {n : Nat} {cs : List Value} (h : w.cells? 0 a n = some cs) :
    cs.length = n ∧ ∀ i u, cs[i]? = some u → w.cell? (a.add i) = some u := by
  unfold World.cells? at h
  simp only [Nat.zero_le, if_true] at h
  have hl := mapM_some_length h
  refine ⟨by simpa using hl, fun i u hu => ?_⟩
  have hi : i < n := by
    have := (List.getElem?_eq_some_iff.1 hu).1
    simp at hl
    omega
  have := mapM_some_get h i i (by simp [hi])
  rw [this]
  exact hu

theorem opens_slice {α : Type} {P : Program} {d : Kd α} {t e : TypeId} {G : α → Prop} (ht : P.underlying t = some (.slice e)) (hc : P.cellsOf t = 1) (he : Opens P d e G) :
    Opens P (Kd.slice e d) t (fun xs => xs.length ≤ maxLen ∧ ∀ x ∈ xs, G x) :=
  ⟨hc, fun enc W fuel cs r h => by
    rcases DataW.trod_slice ht h with ⟨rfl, _⟩ | ⟨a, len, cap, elems, rest, n, _, rfl, _, _, hl, hm, hel, hget, _, _⟩
    · exact ⟨[], ⟨none, 0, rfl, Nat.le_refl _, rfl, by simp, fun h => by simp at h⟩, by simp, by simp⟩
    · have hx : ∀ i, i < len → ∃ x, (∃ c, c.length = d.sz ∧ d.K W x c ∧ ∀ j u, c[j]? = some u → W.cell? (a.add (i * d.sz + j)) = some u) ∧ G x := by
        intro i hi
        have h1 := hget i hi
        have hi2 : i < elems.length := by omega
        rw [List.getElem?_eq_getElem hi2] at h1
        obtain ⟨c, hc1, hc2⟩ := Option.bind_eq_some_iff.1 h1
        obtain ⟨hcl, hcg⟩ := cells_get hc1
        obtain ⟨x, hK, hG⟩ := he.op enc W n c _ hc2
        refine ⟨x, ⟨c, by rw [hcl, he.sz], hK, fun j u hu => ?_⟩, hG⟩
        have := hcg j u hu
        rw [Addr.add_add, he.sz] at this
        exact this
      obtain ⟨l, hll, hq⟩ := list_choose _ len hx
      refine ⟨l, ⟨some a, cap, by rw [hll], by omega, rfl, by rw [hll]; unfold maxLen at hm; omega, fun _ => ⟨a, rfl, fun j p hj => ?_⟩⟩, by omega, fun x hx => ?_⟩
      · exact (hq j p hj).1
      · obtain ⟨i, hi⟩ := List.getElem?_of_mem hx
        exact (hq i x hi).2⟩

/-- The fields of a struct, from one of them on. -/
structure OpensF {α : Type} (P : Program) (fl : List Field) (off : Nat) (d : Kd α) (G : α → Prop) : Prop where
  op : ∀ {H : Type} (enc : TypeId × Value → H) (W : World) (n : Nat) (cs : List Value), off + d.sz ≤ cs.length →
    (∀ (i : Nat) (f : Field), fl[i]? = some f → ∃ r, DataW.trod enc P W 0 (fun _ => true) true n f.type ((cs.drop f.offset).take (P.cellsOf f.type)) = some r) →
    ∃ x, d.K W x ((cs.drop off).take d.sz) ∧ G x

theorem opensF_one {α : Type} {P : Program} {f : Field} {off : Nat} {d : Kd α} {G : α → Prop} (ho : f.offset = off) (h : Opens P d f.type G) : OpensF P [f] off d G := by
  constructor
  intro H enc W n cs hl hf
  obtain ⟨r, hr⟩ := hf 0 f rfl
  rw [ho, h.sz] at hr
  exact h.op enc W n _ _ hr

theorem opensF_cons {α β : Type} {P : Program} {f : Field} {fl : List Field} {off : Nat} {a : Kd α} {b : Kd β} {Ga : α → Prop} {Gb : β → Prop}
    (ho : f.offset = off) (ha : Opens P a f.type Ga) (hb : OpensF P fl (off + a.sz) b Gb) : OpensF P (f :: fl) off (Kd.pair a b) (fun x => Ga x.1 ∧ Gb x.2) := by
  constructor
  intro H enc W n cs hl hf
  have hl' : off + (a.sz + b.sz) ≤ cs.length := hl
  obtain ⟨r, hr⟩ := hf 0 f rfl
  rw [ho, ha.sz] at hr
  obtain ⟨x, hx, gx⟩ := ha.op enc W n _ _ hr
  obtain ⟨y, hy, gy⟩ := hb.op enc W n cs (by omega) (fun i g hg => hf (i + 1) g (by simpa using hg))
  refine ⟨(x, y), ⟨_, _, ?_, hx, hy⟩, gx, gy⟩
  show (cs.drop off).take (a.sz + b.sz) = _
  rw [List.take_add, List.drop_drop]

theorem opensF_iso {α β : Type} {P : Program} {fl : List Field} {off : Nat} {d : Kd α} {G : α → Prop} (f : β → α) (hs : ∀ x, ∃ y, f y = x) (h : OpensF P fl off d G) : OpensF P fl off (Kd.iso d f) (fun y => G (f y)) := by
  constructor
  intro H enc W n cs hl hf
  obtain ⟨x, hx, gx⟩ := h.op enc W n cs hl hf
  obtain ⟨y, rfl⟩ := hs x
  exact ⟨y, hx, gx⟩

theorem opens_struct {α : Type} {P : Program} {t : TypeId} {fs : Array Field} {d : Kd α} {G : α → Prop} (ht : P.underlying t = some (.struct fs)) (hc : P.cellsOf t = d.sz) (hf : OpensF P fs.toList 0 d G) : Opens P d t G :=
  ⟨hc, fun enc W fuel cs r h => by
    obtain ⟨xs, n, _, _, hl, hxs, hget⟩ := DataW.trod_struct ht h
    obtain ⟨x, hx, gx⟩ := hf.op enc W n cs (by omega) (fun i f hif => by
      have h1 := hget i f (by simpa using hif)
      have hi : i < xs.length := by
        rw [hxs]
        have := (List.getElem?_eq_some_iff.1 hif).1
        simpa using this
      rw [List.getElem?_eq_getElem hi] at h1
      exact ⟨_, h1⟩)
    refine ⟨x, ?_, gx⟩
    have e : (cs.drop 0).take d.sz = cs := by rw [List.drop_zero, List.take_of_length_le (by omega)]
    rw [e] at hx
    exact hx⟩

/-- A struct that came in. -/
theorem open_agg {H : Type} {enc : TypeId × Value → H} {P : Program} {W : World} {rc : Reach} {b0 : Nat} {t : TypeId} {fs : Array Field} {v : Value} {dt : DataW H} {ps : List MemPlace} {α : Type} {d : Kd α} {G : α → Prop}
    (ht : P.underlying t = some (.struct fs)) (ho : Opens P d t G) (hv : Value.okWide P W rc b0 t v) (h : DataW.Trod enc P W 0 (fun _ => true) true t v dt ps) : ∃ x cs, v = .agg cs ∧ d.K W x cs.toList ∧ G x := by
  unfold Value.okWide at hv
  rw [ht] at hv
  obtain ⟨cs, rfl, _, _⟩ := hv
  obtain ⟨fuel, hf⟩ := h
  obtain ⟨x, hK, hG⟩ := ho.op enc W fuel _ _ hf
  exact ⟨x, cs, rfl, hK, hG⟩
/-- A slice that came in. -/
theorem open_row {H : Type} {enc : TypeId × Value → H} {P : Program} {W : World} {rc : Reach} {b0 : Nat} {t e : TypeId} {v : Value} {dt : DataW H} {ps : List MemPlace} {α : Type} {d : Kd α} {G : α → Prop}
    (ht : P.underlying t = some (.slice e)) (hc : P.cellsOf t = 1) (ho : Opens P d e G) (hv : Value.okWide P W rc b0 t v) (h : DataW.Trod enc P W 0 (fun _ => true) true t v dt ps) :
    ∃ (x : List α) (A : Option Addr) (c : Nat), v = .slice A x.length c ∧ x.length ≤ c ∧ d.C W A x.length x ∧ x.length ≤ maxLen ∧ ∀ y ∈ x, G y := by
  obtain ⟨a, len, cap, rfl⟩ := Go.WideShapes.okWide_slice ht hv
  obtain ⟨fuel, hf⟩ := h
  obtain ⟨x, ⟨A, c, hcs, hl, hC⟩, hm, hG⟩ := (opens_slice ht hc ho).op enc W fuel _ _ hf
  simp [Value.cells] at hcs
  obtain ⟨rfl, rfl, rfl⟩ := hcs
  exact ⟨x, a, cap, rfl, hl, hC, hm, hG⟩
/-- A string that came in: no longer than a machine can hold. -/
theorem agg_of {cs : Array Value} {l : List Value} (h : cs.toList = l) : Value.agg cs = Value.agg l.toArray := by
  subst h
  simp
end Go.Proofs.Ythcmgjbkmnpibaa.Opens

/- An evaluator of the program's code over plain values, and that it is sound: part 4 of 4. Without conditions. -/
import Derived.Test.YtaopkodopglgeaaAbC
import Derived.OpenShut
import Derived.SizedLaws
import Derived.WideShapes
import Derived.ChangeMaps5
import Derived.ChangeOld
import Derived.ProofKit
namespace Go.Ab
open Go.RowKit
set_option linter.unusedVariables false
set_option linter.unusedSimpArgs false
def topS (w : World) : Fl → Cset := fun _ b _ => b < w.heap.size
theorem add_at {w : World} {a : Addr} {j : Nat} {v : Value} (h : w.cell? (a.add j) = some v) : a.add j = at_ a.block (a.off + j) := by
  have k := World.cell?_spot h
  obtain ⟨b, o, sp⟩ := a
  by_cases hj : j = 0
  · subst hj
    simp [Addr.add] at k ⊢
    rw [k]
    rfl
  · simp [Addr.add, hj]
    rfl
def good : (t : Ty) → t.val → Prop
  | .int k, x => (Lit.int k x).wf = true
  | .bool, _ => True
  | .str, x => x.size ≤ maxLen
  | .slice t, l => List.length l ≤ maxLen ∧ ∀ y ∈ (show List t.val from l), good t y
  | .pair a b, x => good a x.1 ∧ good b x.2
  | _, _ => True
structure Opens (P : Program) (ty : Ty) (t : TypeId) : Prop where
  sz : P.cellsOf t = ty.sz'
  op : ∀ {H : Type} (enc : TypeId × Value → H) (W : World) (fuel : Nat) (cs : List Value) (r : DataW H × List MemPlace),
    DataW.trod enc P W 0 (fun _ => true) true fuel t cs = some r → ∃ x : ty.val, RepC W (topS W .bor) ty x cs ∧ good ty x
theorem opens_int {P : Program} {t : TypeId} {k : IntKind} (ht : P.underlying t = some (.int k)) (hc : P.cellsOf t = 1) : Opens P (.int k) t :=
  ⟨hc, fun enc W fuel cs r h => by
    obtain ⟨n, rfl, _, hw⟩ := DataW.trod_int ht h
    exact ⟨n, rfl, hw⟩⟩
theorem opens_bool {P : Program} {t : TypeId} (ht : P.underlying t = some .bool) (hc : P.cellsOf t = 1) : Opens P .bool t :=
  ⟨hc, fun enc W fuel cs r h => by
    obtain ⟨n, rfl, _⟩ := DataW.trod_bool ht h
    exact ⟨n, rfl, trivial⟩⟩
theorem opens_string {P : Program} {t : TypeId} (ht : P.underlying t = some .string) (hc : P.cellsOf t = 1) : Opens P .str t :=
  ⟨hc, fun enc W fuel cs r h => by
    obtain ⟨n, rfl, _, hs⟩ := DataW.trod_string ht h
    exact ⟨n, rfl, hs⟩⟩
theorem list_choose {β : Type} (Q : Nat → β → Prop) : ∀ (n : Nat), (∀ i, i < n → ∃ x, Q i x) → ∃ l : List β, l.length = n ∧ ∀ i x, l[i]? = some x → Q i x
  | 0, _ => ⟨[], rfl, fun i x h => by simp at h⟩
  | n + 1, h => by
    obtain ⟨l, hl, hq⟩ := list_choose Q n (fun i hi => h i (by omega))
    obtain ⟨x, hx⟩ := h n (by omega)
    refine ⟨l ++ [x], by simp [hl], fun i y hy => ?_⟩
    by_cases hi : i < l.length
    · rw [List.getElem?_append_left hi] at hy
      exact hq i y hy
    · rw [List.getElem?_append_right (by omega)] at hy
      have : i - l.length = 0 := by
        rcases Nat.eq_zero_or_pos (i - l.length) with h0 | h0
        · exact h0
        · rw [List.getElem?_eq_none (by simp; omega)] at hy
          simp at hy
      rw [this] at hy
      simp at hy
      subst hy
      have : i = n := by omega
      subst this
      exact hx
theorem mapM_len {α β : Type} {f : α → Option β} : ∀ {l : List α} {r : List β}, l.mapM f = some r → r.length = l.length
  | [], r, h => by simp at h; subst h; rfl
  | a :: l, r, h => by
    simp only [List.mapM_cons, Option.pure_def, Option.bind_eq_bind, Option.bind_eq_some_iff] at h
    obtain ⟨b, _, c, hc, e⟩ := h
    obtain rfl := Option.some.inj e
    simp [mapM_len hc]
theorem mapM_get {α β : Type} {f : α → Option β} : ∀ {l : List α} {r : List β}, l.mapM f = some r → ∀ (i : Nat) (a : α), l[i]? = some a → f a = r[i]?
  | [], r, h, i, a, ha => by simp at ha
  | x :: l, r, h, i, a, ha => by
    simp only [List.mapM_cons, Option.pure_def, Option.bind_eq_bind, Option.bind_eq_some_iff] at h
    obtain ⟨b, hb, c, hc, e⟩ := h
    obtain rfl := Option.some.inj e
    cases i with
    | zero => simp at ha; subst ha; simpa using hb
    | succ i => simpa using mapM_get hc i a (by simpa using ha)
theorem cells_get {w : World} {a : Addr} {n : Nat} {cs : List Value} (h : w.cells? 0 a n = some cs) : cs.length = n ∧ ∀ (i : Nat) (u : Value), cs[i]? = some u → w.cell? (a.add i) = some u := by
  unfold World.cells? at h
  simp only [Nat.zero_le, if_true] at h
  have hl := mapM_len h
  refine ⟨by simpa using hl, fun i u hu => ?_⟩
  have hi : i < n := by
    have := (List.getElem?_eq_some_iff.1 hu).1
    simp at hl
    omega
  have := mapM_get h i i (by simp [hi])
  rw [this]
  exact hu
theorem opens_slice {P : Program} {ty : Ty} {t e : TypeId} (ht : P.underlying t = some (.slice e)) (hc : P.cellsOf t = 1) (he : Opens P ty e) (hz : 0 < ty.sz') : Opens P (.slice ty) t :=
  ⟨hc, fun enc W fuel cs r h => by
    rcases DataW.trod_slice ht h with ⟨rfl, _⟩ | ⟨a, len, cap, elems, rest, n, _, rfl, hcap, hspot, hl, hm, hel, hget, hpl, _⟩
    · exact ⟨[], ⟨none, 0, rfl, Nat.le_refl _, fun h => absurd rfl h⟩, ⟨by simp, by simp⟩⟩
    · have hx : ∀ i, i < len → ∃ x, (∃ c, c.length = ty.sz' ∧ RepC W (topS W .bor) ty x c ∧ ∀ j u, c[j]? = some u → W.cell? (a.add (i * ty.sz' + j)) = some u) ∧ good ty x := by
        intro i hi
        have h1 := hget i hi
        have hi2 : i < elems.length := by omega
        rw [List.getElem?_eq_getElem hi2] at h1
        obtain ⟨c, hc1, hc2⟩ := Option.bind_eq_some_iff.1 h1
        obtain ⟨hcl, hcg⟩ := cells_get hc1
        obtain ⟨x, hK, hG⟩ := he.op enc W n c _ hc2
        refine ⟨x, ⟨c, by rw [hcl, he.sz], hK, fun j u hu => ?_⟩, hG⟩
        have := hcg j u hu
        rw [Addr.add_add, he.sz] at this
        exact this
      obtain ⟨l, hll, hq⟩ := list_choose _ len hx
      refine ⟨l, ⟨some a, cap, by rw [hll], by omega, fun hne => ⟨a, rfl, ?_, fun i p hj => ?_⟩⟩, ⟨by unfold maxLen at *; omega, fun x hx => ?_⟩⟩
      · obtain ⟨y, l', rfl⟩ := List.exists_cons_of_ne_nil hne
        obtain ⟨⟨c, c1, c2, c3⟩, _⟩ := hq 0 y rfl
        obtain ⟨u, hu⟩ : ∃ u, c[0]? = some u := ⟨_, List.getElem?_eq_getElem (by omega)⟩
        have k := World.cell?_spot (c3 0 u hu)
        simpa [Addr.add] using k
      · obtain ⟨⟨c, c1, c2, c3⟩, _⟩ := hq i p hj
        refine ⟨c, c1, fun j v hv => ?_, c2⟩
        have k := c3 j v hv
        have e := add_at k
        rw [e] at k
        rw [← Nat.add_assoc] at k
        exact ⟨k, cell_lt k⟩
      · obtain ⟨i, hi⟩ := List.getElem?_of_mem hx
        exact (hq i x hi).2⟩
structure OpensF (P : Program) (fl : List Field) (off : Nat) (ty : Ty) : Prop where
  op : ∀ {H : Type} (enc : TypeId × Value → H) (W : World) (n : Nat) (cs : List Value), off + ty.sz' ≤ cs.length →
    (∀ (i : Nat) (f : Field), fl[i]? = some f → ∃ r, DataW.trod enc P W 0 (fun _ => true) true n f.type ((cs.drop f.offset).take (P.cellsOf f.type)) = some r) →
    ∃ x : ty.val, RepC W (topS W .bor) ty x ((cs.drop off).take ty.sz') ∧ good ty x
theorem opensF_one {P : Program} {f : Field} {off : Nat} {ty : Ty} (ho : f.offset = off) (h : Opens P ty f.type) : OpensF P [f] off ty := by
  constructor
  intro H enc W n cs hl hf
  obtain ⟨r, hr⟩ := hf 0 f rfl
  rw [ho, h.sz] at hr
  exact h.op enc W n _ _ hr
theorem opensF_cons {P : Program} {f : Field} {fl : List Field} {off : Nat} {a b : Ty} (ho : f.offset = off) (ha : Opens P a f.type) (hb : OpensF P fl (off + a.sz') b) :
    OpensF P (f :: fl) off (.pair a b) := by
  constructor
  intro H enc W n cs hl hf
  have hl' : off + (a.sz' + b.sz') ≤ cs.length := hl
  obtain ⟨r, hr⟩ := hf 0 f rfl
  rw [ho, ha.sz] at hr
  obtain ⟨x, hx, gx⟩ := ha.op enc W n _ _ hr
  obtain ⟨y, hy, gy⟩ := hb.op enc W n cs (by omega) (fun i g hg => hf (i + 1) g (by simpa using hg))
  refine ⟨(x, y), ⟨_, _, ?_, hx, hy⟩, gx, gy⟩
  show (cs.drop off).take (a.sz' + b.sz') = _
  rw [List.take_add, List.drop_drop]
theorem opens_struct {P : Program} {t : TypeId} {fs : Array Field} {ty : Ty} (ht : P.underlying t = some (.struct fs)) (hc : P.cellsOf t = ty.sz') (hf : OpensF P fs.toList 0 ty) : Opens P ty t :=
  ⟨hc, fun enc W fuel cs r h => by
    obtain ⟨xs, n, _, _, hl, hxs, hget⟩ := DataW.trod_struct ht h
    obtain ⟨x, hx, gx⟩ := hf.op enc W n cs (by omega) (fun i f hif => by
      have h1 := hget i f (by simpa using hif)
      have hi : i < xs.length := by
        rw [hxs]
        have := (List.getElem?_eq_some_iff.1 hif).1
        simpa using this
      rw [List.getElem?_eq_getElem hi] at h1
      exact ⟨_, h1⟩)
    refine ⟨x, ?_, gx⟩
    have e : (cs.drop 0).take ty.sz' = cs := by rw [List.drop_zero, List.take_of_length_le (by omega)]
    rw [e] at hx
    exact hx⟩
theorem open_agg {H : Type} {enc : TypeId × Value → H} {P : Program} {W : World} {rc : _root_.Go.Reach} {b0 : Nat} {t : TypeId} {fs : Array Field} {v : Value} {dt : DataW H} {ps : List MemPlace} {ty : Ty}
    (ht : P.underlying t = some (.struct fs)) (ho : Opens P ty t) (hv : Value.okWide P W rc b0 t v) (h : DataW.Trod enc P W 0 (fun _ => true) true t v dt ps) : ∃ (x : ty.val) (cs : Array Value), v = .agg cs ∧ RepC W (topS W .bor) ty x cs.toList ∧ good ty x := by
  unfold Value.okWide at hv
  rw [ht] at hv
  obtain ⟨cs, rfl, _, _⟩ := hv
  obtain ⟨fuel, hf⟩ := h
  obtain ⟨x, hK, hG⟩ := ho.op enc W fuel _ _ hf
  exact ⟨x, cs, rfl, hK, hG⟩
theorem open_row {H : Type} {enc : TypeId × Value → H} {P : Program} {W : World} {rc : _root_.Go.Reach} {b0 : Nat} {t e : TypeId} {v : Value} {dt : DataW H} {ps : List MemPlace} {ty : Ty}
    (ht : P.underlying t = some (.slice e)) (hc : P.cellsOf t = 1) (ho : Opens P ty e) (hz : 0 < ty.sz') (hv : Value.okWide P W rc b0 t v) (h : DataW.Trod enc P W 0 (fun _ => true) true t v dt ps) :
    ∃ (x : List ty.val), RepC W (topS W .imm) (.slice ty) x [v] ∧ x.length ≤ maxLen ∧ ∀ y ∈ x, good ty y := by
  obtain ⟨a, len, cap, rfl⟩ := Go.WideShapes.okWide_slice ht hv
  obtain ⟨fuel, hf⟩ := h
  obtain ⟨x, hK, hG⟩ := (opens_slice ht hc ho hz).op enc W fuel _ _ hf
  exact ⟨x, hK, hG.1, hG.2⟩
def topPl : Pl := ⟨fun _ => none, fun _ _ => undef⟩
theorem no_rng {r : Nat} {u : Option Nat} {b x : Nat} (h : rng ⟨[], []⟩ topPl r u b x) : False := by
  cases u with
  | none => obtain ⟨o, e, _⟩ := h; cases e
  | some j => obtain ⟨o, e, _⟩ := h; simp [rowAt, gr, gt, rowOf] at e
theorem rep_top (w : World) : Rep w (topS w) topPl ⟨[], []⟩ #[] where
  len := rfl
  slots := fun i => by simp [gt, RepV]
  roots := fun r j hj => by simp [gr] at hj
  mem := fun r b o j hm _ => by cases hm
  disj := fun r j r' j' b x h _ => (no_rng h).elim
  apart := fun b x _ ⟨r, u, h⟩ => (no_rng h).elim
  sub := fun _ _ h => h
  live := fun _ _ h => h
theorem agg_top {w : World} {ty : Ty} {x : ty.val} {cs : Array Value} (h : RepC w (topS w .bor) ty x cs.toList) : RepV w (topS w) ⟨[], []⟩ topPl (.agg (enc .imm ty x)) (.agg cs) := by
  simp only [RepV]
  exact ⟨cs, rfl, enc_rep .imm (.inl rfl) h, h.one⟩
theorem call_top {P : Program} {f : FuncId} {e : Entry} (h : EntryOK P f e) {w : World} {ps cs : List PV} {args : List Value} (hr : RepL w (topS w) ⟨[], []⟩ topPl ps args) {v : (tyL (flats e.ins)).val} {r : (tyL (flats (e.rets ++ e.outs))).val} {s2 : St}
    (hh : hands ⟨[], []⟩ e.ptrs e.ins ps = some (cs, ⟨[], []⟩)) (hv : decL (flats e.ins) cs = some v) (hf : e.f v = some r) (hd : done ⟨[], []⟩ ⟨[], []⟩ 0 e ps r = some (.bool true, s2)) :
    Calls P f args.toArray w (fun en w' => en = .returned (.bool true) ∧ Below w.heap.size w w') := by
  refine (h.2 hh hv hf hd (rep_top w) hr).mono ?_
  rintro en w' ⟨x, S', pl', rfl, k1, k2, k3, _⟩
  refine ⟨?_, k3.fr.below fun b y _ ⟨r, u, hx⟩ => ?_⟩
  · have : x = .bool true := by simpa [RepV, RepCell] using k2
    rw [this]
  · exact no_rng hx
end Go.Ab

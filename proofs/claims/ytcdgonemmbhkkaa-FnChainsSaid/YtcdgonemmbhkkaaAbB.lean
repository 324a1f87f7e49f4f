/- An evaluator of the program's code over plain values, and that it is sound: part 2 of 4. Without conditions. -/
import Derived.Test.YtcdgonemmbhkkaaAbA
import Derived.Laws.IdiomStrings
import Derived.Laws.BytesArg
import Derived.Laws.Tables
import Derived.Laws.StructEq
import Derived.Laws.Cover3
import Derived.Tactics
import Derived.LoopN
namespace Go.Ab
open Go.RowKit
set_option linter.unusedVariables false
set_option linter.unusedSimpArgs false
section
variable {P : Program} {D : TypeId → Option TD} {w w' : World} {S : Fl → Cset} {pl : Pl} {s s' : St} {a : Act} {o : Oper} {d : Nat} {oks : List Bool} {v : PV}
theorem Fr.drew {O : Cset} (w : World) : Fr O w w.drew := ⟨rfl, rfl, rfl, Nat.le_refl _, fun b a h => ⟨a, h, .refl _ a⟩⟩
theorem heap_drew (w : World) : w.drew.heap = w.heap := rfl
theorem Rows.row {S : Cset} {t : Ty} {l : List t.val} {news : List Value} {c : Array Value} (h : Rows w S t l news) (hc : ∀ (j : Nat) (u : Value), news[j]? = some u → c[j]? = some u) :
    ∀ (i : Nat) (x : t.val), l[i]? = some x → ∃ row : List Value, row.length = t.sz' ∧ (∀ (j : Nat) (u : Value), row[j]? = some u → c[i * t.sz' + j]? = some u) ∧ RepC w S t x row := fun i x hx => by
  obtain ⟨row, r1, r2, r3⟩ := h.2 i x hx
  exact ⟨row, r1, fun j u hu => hc _ _ (r2 j u hu), r3⟩
theorem OwnRow.rows {S : Cset} {t : Ty} {l : List t.val} {b cap : Nat} {c : Array Value} (hrow : ∀ (i : Nat) (x : t.val), l[i]? = some x → ∃ row : List Value, row.length = t.sz' ∧ (∀ (j : Nat) (u : Value), row[j]? = some u → c[i * t.sz' + j]? = some u) ∧ RepC w S t x row)
    (hle : l.length ≤ cap) (hsz : cap * t.sz' ≤ c.size) : Rows w S t l (c.toList.take (l.length * t.sz')) := by
  have hl : l.length * t.sz' ≤ cap * t.sz' := Nat.mul_le_mul_right _ hle
  refine ⟨by simp; omega, fun i x hx => ?_⟩
  obtain ⟨row, r1, r2, r3⟩ := hrow i x hx
  refine ⟨row, r1, fun j u hu => ?_, r3⟩
  have hi : i < l.length := (List.getElem?_eq_some_iff.1 hx).1
  have hj : j < t.sz' := by rw [← r1]; exact (List.getElem?_eq_some_iff.1 hu).1
  have hlt : i * t.sz' + j < l.length * t.sz' := by
    have : (i + 1) * t.sz' ≤ l.length * t.sz' := Nat.mul_le_mul_right _ (by omega)
    rw [Nat.add_mul] at this
    omega
  rw [List.getElem?_take, if_pos hlt]
  simpa using r2 j u hu
theorem setCells_heap (b : Nat) : ∀ (vs : List Value) (o : Nat) (w : World) (c : Array Value) (e : TypeId) (fz : Nat × Nat), w.heap[b]? = some (.cells c e fz) → o + vs.length ≤ c.size →
    ∃ c', (w.setCells b o vs).heap[b]? = some (.cells c' e fz) ∧ c'.size = c.size ∧ (∀ j, j < o → c'[j]? = c[j]?) ∧ (∀ j, c'[o + vs.length + j]? = c[o + vs.length + j]?) ∧ ∀ (j : Nat) (u : Value), vs[j]? = some u → c'[o + j]? = some u
  | [], o, w, c, e, fz, h, hs => ⟨c, h, rfl, fun _ _ => rfl, fun _ => rfl, by simp⟩
  | v :: vs, o, w, c, e, fz, h, hs => by
    simp only [List.length_cons] at hs
    obtain ⟨c', h1, h2, h3, h5, h4⟩ := setCells_heap b vs (o + 1) (w.setCell ⟨b, o, none⟩ v) (c.setIfInBounds o v) e fz (by simp [World.setCell, Array.getElem?_modify, h]) (by simp; omega)
    refine ⟨c', h1, by simpa using h2, fun j hj => ?_, fun j => ?_, fun j u hu => ?_⟩
    · rw [h3 j (by omega), Array.getElem?_setIfInBounds_ne (by omega)]
    · have := h5 j
      rw [Array.getElem?_setIfInBounds_ne (by omega)] at this
      simpa [show o + (vs.length + 1) + j = o + 1 + vs.length + j by omega] using this
    · cases j with
      | zero =>
        simp only [List.getElem?_cons_zero, Option.some.injEq] at hu
        subst hu
        rw [Nat.add_zero, h3 o (by omega), Array.getElem?_setIfInBounds_self]
        simp; omega
      | succ j =>
        have := h4 j u (by simpa using hu)
        rwa [show o + 1 + j = o + (j + 1) by omega] at this
theorem append_row (hD : Dok P D) (h : Rep w S pl s a.tmps) {ty tx rt : TypeId} {td de : TD} {t : Ty} {l m : List t.val} {v y : Value} {news : List Value} (ht : D ty = some td) (he : elemTy D td = some (t, de)) (hz : 0 < t.sz')
    (hown : OwnRow w (S .imm) t l v) (hn : ∀ b x, rowRange t v b x → ¬ owned s pl b x ∧ ¬ S .bor b x) (hs : Src P t.sz' tx y m.length news w) (hr : Rows w (S .imm) t m news)
    (hroom : ((l.length : Int) + (m.length : Int)) * de.bytes ≤ 140737488355328) (d : Nat) :
    ∃ x w' pl', (Builtin.append_ #[ty, tx] rt #[v, y]).run P w = .ok x w' ∧ Rep w' S pl' (lay s d [.sl .own t (l ++ m)]) a.tmps ∧ RepV w' S (lay s d [.sl .own t (l ++ m)]) pl' (.view d 0) x ∧
      Fr (rowRange t v) w w' ∧ (∀ b x, owned (lay s d [.sl .own t (l ++ m)]) pl' b x → owned s pl b x ∨ rowRange t v b x ∨ w.heap.size ≤ b) ∧ Stay d pl pl' := by
  obtain ⟨e', i, hk, hu, _, rfl, hsz, hti, his, hib, ⟨z, hz1, hz2⟩, hpos⟩ := elem_ok hD ht he w
  have hund := (hD ty td ht).und_slice hk
  have hinfo : P.info? e' = some i := by
    unfold typeInfo at hti
    cases hp : P.info? e' with
    | none => simp [hp] at hti
    | some i' => simp [hp] at hti; rw [hti]
  have hs' : Src P i.size tx y m.length news w := by rw [his]; exact hs
  have nothing : ∀ A n cap, v = .slice A n cap → n ≤ cap → m = [] → ∃ x w' pl', (Builtin.append_ #[ty, tx] rt #[v, y]).run P w = .ok x w' ∧ Rep w' S pl' (lay s d [.sl .own de.row (l ++ m)]) a.tmps ∧ RepV w' S (lay s d [.sl .own de.row (l ++ m)]) pl' (.view d 0) x ∧
      Fr (rowRange de.row v) w w' ∧ (∀ b x, owned (lay s d [.sl .own de.row (l ++ m)]) pl' b x → owned s pl b x ∨ rowRange de.row v b x ∨ w.heap.size ≤ b) ∧ Stay d pl pl' := fun A n cap hv hle hm => by
    subst hm
    have hnews : news = [] := List.length_eq_zero_iff.1 (by rw [hr.1]; simp)
    obtain ⟨pl', g1, g2, g3, g4⟩ := lay_float h d hown (by rw [hv]; rfl) hn
    simp only [List.append_nil]
    refine ⟨v, w, pl', ?_, g1, g2, Fr.refl _ w, fun b x hx => ?_, g4⟩
    · rw [hv]
      refine run_append_nothing w ty tx rt e' i hund hinfo A n cap hle y ?_
      rw [hnews] at hs'
      exact hs'
    · rcases g3 b x hx with h' | h'
      · exact .inl h'
      · exact .inr (.inl h')
  have grow : ∀ A n cap olds, v = .slice A n cap → n = l.length → cap < n + m.length → (Builtin.firstCells i.size n (.slice A n cap)).run P w.drew = .ok olds.toArray w.drew → Rows w (S .imm) de.row l olds →
      ∃ x w' pl', (Builtin.append_ #[ty, tx] rt #[v, y]).run P w = .ok x w' ∧ Rep w' S pl' (lay s d [.sl .own de.row (l ++ m)]) a.tmps ∧ RepV w' S (lay s d [.sl .own de.row (l ++ m)]) pl' (.view d 0) x ∧
      Fr (rowRange de.row v) w w' ∧ (∀ b x, owned (lay s d [.sl .own de.row (l ++ m)]) pl' b x → owned s pl b x ∨ rowRange de.row v b x ∨ w.heap.size ≤ b) ∧ Stay d pl pl' := fun A n cap olds hv hnl hlt hfc holds => by
    have hb : ((l.length + m.length : Nat) : Int) * de.bytes ≤ 140737488355328 := by simpa using hroom
    have hbn : (n + m.length) * i.bytes ≤ 140737488355328 := by
      rw [← hib, ← hnl] at hb
      have hb2 : (((n + m.length) * i.bytes : Nat) : Int) ≤ 140737488355328 := by rw [Int.natCast_mul]; exact hb
      omega
    have hlen : n + m.length ≤ 140737488355328 := by
      have h1 : (n + m.length) * 1 ≤ (n + m.length) * i.bytes := Nat.mul_le_mul_left _ (by omega)
      omega
    have hrun := run_append_grow_src (P := P) w ty tx rt e' i z hund hinfo hz1 A n cap olds hfc y m.length news hs' hlt (by omega) (growslice_fits hlt hbn)
    have hgc := grownCap_ge w (n + m.length) cap e'
    have hrows := holds.append hr
    have hzc : z.cells.size = de.row.sz' := by
      have := (zero_repC (w := w) (S := fun _ _ => True) hz2).len
      simpa using this
    have hfr : Fr (fun _ _ => False) w (w.drew.alloc (.cells ((olds ++ news).toArray ++ Builtin.zeroCells z.cells (grownCap w (n + m.length) cap e' - (n + m.length))) e')) := (Fr.drew w).trans (Fr.alloc _ w.drew _)
    obtain ⟨pl', g1, g2, g3, g4⟩ := lay_row h d (t := de.row) (l := l ++ m) (c := (olds ++ news).toArray ++ Builtin.zeroCells z.cells (grownCap w (n + m.length) cap e' - (n + m.length))) (e := e') (cap := grownCap w (n + m.length) cap e') (fz := (0, 0))
      (by simp; omega)
      (by
        have h1 := holds.1
        have h2 := hr.1
        simp only [Array.size_append, List.size_toArray, List.length_append, h1, h2, size_zeroCells, hzc]
        rw [← hnl, ← Nat.add_mul, ← Nat.add_mul]
        exact Nat.mul_le_mul_right _ (by omega))
      (fun x _ hh => by omega)
      (hrows.row fun j u hu => by
        have hj := (List.getElem?_eq_some_iff.1 hu).1
        rw [Array.getElem?_append_left (by simpa using hj)]
        simpa using hu)
      hfr (by simp [World.alloc, heap_drew])
    refine ⟨_, _, pl', by rw [hv]; exact hrun, g1, ?_, hfr.mono (fun _ _ _ h => h.elim), fun b x hx => ?_, g4⟩
    · rw [List.length_append, ← hnl] at g2
      exact g2
    · rcases g3 b x hx with h' | h'
      · exact .inl h'
      · exact .inr (.inr h')
  rcases hown with ⟨rfl, rfl⟩ | ⟨b, cap, c, e, fz, rfl, hle, hh, hszc, hfz, hrow⟩
  · by_cases hm : m = []
    · exact nothing _ _ _ rfl (by omega) hm
    · have : 0 < m.length := List.length_pos_iff.2 hm
      exact grow none 0 0 [] rfl rfl (by omega) (by simpa using run_firstCells_none (P := P) w.drew i.size 0 0 0) (by simp [Rows])
  · have holds := OwnRow.rows (b := b) hrow hle hszc
    by_cases hlt : cap < l.length + m.length
    · refine grow _ _ _ _ rfl rfl hlt ?_ holds
      rw [his]
      refine run_firstCells_some (P := P) w.drew de.row.sz' l.length (at_ b 0) l.length cap _ holds.1 fun j u hu => ?_
      rw [at_add]
      rw [List.getElem?_take] at hu
      split at hu
      · unfold World.cell? at_
        simp only [heap_drew, hh]
        simpa using hu
      · simp at hu
    · by_cases hm : m = []
      · exact nothing _ _ _ rfl hle hm
      · have hcap : (l.length + m.length) * de.row.sz' ≤ cap * de.row.sz' := Nat.mul_le_mul_right _ (by omega)
        rw [Nat.add_mul] at hcap
        have hnl := hr.1
        have hrange : ∀ j, j < news.length → rowRange de.row (.slice (some (at_ b 0)) l.length cap) b (0 + l.length * de.row.sz' + j) := fun j hj => ⟨_, _, _, rfl, rfl, by omega⟩
        have hcell : ∀ x, x < c.size → (w.cell? ⟨b, x, none⟩).isSome = true := fun x hx => by
          unfold World.cell?
          simp only [hh]
          simp [hx]
        have hrun := run_append_room_src (P := P) w ty tx rt e' i hund hinfo b 0 l.length cap y m.length news hs' (by omega)
          (fun j hj => by rw [his]; exact hcell _ (by omega))
          (fun j hj => by
            rw [his]
            unfold World.frozen?
            simp only [hh]
            have := hfz (0 + l.length * de.row.sz' + j) (by omega)
            simpa using this)
        rw [his] at hrun
        have hfr : Fr (rowRange de.row (.slice (some (at_ b 0)) l.length cap)) w (w.setCells b (0 + l.length * de.row.sz') news) := Fr.setCells news _ w hrange
        have hrep := h.world' hfr hn
        have himm : ∀ b' x u, S .imm b' x → w.cell? (at_ b' x) = some u → (w.setCells b (0 + l.length * de.row.sz') news).cell? (at_ b' x) = some u := fun b' x u hS hu => hfr.cell (fun hO => (hn b' x hO).2 (h.sub b' x hS)) hu
        obtain ⟨c', k1, k2, k3, _, k4⟩ := setCells_heap b news (0 + l.length * de.row.sz') w c e fz hh (by omega)
        have hown' : OwnRow (w.setCells b (0 + l.length * de.row.sz') news) (S .imm) de.row (l ++ m) (.slice (some (at_ b 0)) (l.length + m.length) cap) := by
          refine .inr ⟨b, cap, c', e, fz, by simp, by simp; omega, k1, by omega, hfz, ?_⟩
          refine Rows.row (news := c.toList.take (l.length * de.row.sz') ++ news) ((holds.append hr).mono himm fun _ _ h => h) fun j u hu => ?_
          by_cases hj : j < l.length * de.row.sz'
          · rw [List.getElem?_append_left (by rw [holds.1]; exact hj), List.getElem?_take, if_pos hj] at hu
            rw [k3 j (by omega)]
            simpa using hu
          · rw [List.getElem?_append_right (by rw [holds.1]; omega), holds.1] at hu
            have := k4 _ u hu
            rwa [show 0 + l.length * de.row.sz' + (j - l.length * de.row.sz') = j by omega] at this
        have hsame : ∀ b' x, rowRange de.row (.slice (some (at_ b 0)) (l.length + m.length) cap) b' x → rowRange de.row (.slice (some (at_ b 0)) l.length cap) b' x := fun b' x ⟨q, n', cap', e1, e2, e3⟩ => by
          simp only [Value.slice.injEq, Option.some.injEq] at e1
          obtain ⟨rfl, _, rfl⟩ := e1
          exact ⟨_, _, _, rfl, e2, e3⟩
        obtain ⟨pl', g1, g2, g3, g4⟩ := lay_float hrep d hown' rfl (fun b' x hx => hn b' x (hsame b' x hx))
        refine ⟨_, _, pl', hrun, g1, g2, hfr, fun b' x hx => ?_, g4⟩
        rcases g3 b' x hx with h' | h'
        · exact .inl h'
        · exact .inr (.inl (hsame b' x h'))
theorem take_row (h : Rep w S pl s a.tmps) {r c : Nat} {t : Ty} {l : List t.val} (hg : gt (gr s.r r) c = .sl .own t l) :
    Rep w S pl ⟨s.t, pc s.r r c .any⟩ a.tmps ∧ Fewer s ⟨s.t, pc s.r r c .any⟩ ∧ OwnRow w (S .imm) t l (pl.hv r c) ∧ (pl.hv r c).oneCell' = true ∧
      (∀ b x, rowRange t (pl.hv r c) b x → ¬ owned ⟨s.t, pc s.r r c .any⟩ pl b x ∧ ¬ S .bor b x) ∧ ∀ b x, rowRange t (pl.hv r c) b x → owned s pl b x := by
  have hro : rowAt s r c = some ⟨true, t, l⟩ := by simp [rowAt, hg, rowOf]
  have hv := h.ownAt hro
  have hone := (h.roots r c hv.1).2
  have hrep : RepL w S s pl [.view r c] [pl.hv r c] := by
    simp only [RepL, RepV, RepCell]
    exact ⟨_, [], rfl, ⟨rfl, hv.2.sliceOf⟩, rfl⟩
  obtain ⟨g1, g2, g3, g4⟩ := moves_ok h hrep (by simpa using hone) (s' := ⟨s.t, pc s.r r c .any⟩) (cs := [.sl .own t l]) (by simp [moves, move, hg])
  have hrange : ∀ b x, rowRange t (pl.hv r c) b x → newRng none [.sl .own t l] [pl.hv r c] (some 0) b x := fun b x hx => ⟨⟨true, t, l⟩, rfl, by simpa using hx⟩
  exact ⟨g1, g2, hv.2, hone, fun b x hx => g3.apart 0 b x (hrange b x hx), fun b x hx => g4 0 b x (hrange b x hx)⟩
end
end Go.Ab
namespace Go.Ab
open Go.RowKit
set_option linter.unusedVariables false
set_option linter.unusedSimpArgs false
section
variable {P : Program} {D : TypeId → Option TD} {w w' : World} {S : Fl → Cset} {pl : Pl} {s s' : St} {a : Act} {o : Oper} {d : Nat} {oks : List Bool} {v : PV}
theorem TDok.und_int {t : TypeId} {td : TD} {k : IntKind} (h : TDok P D t td) (hk : td.k = .int k) : P.underlying t = some (.int k) := by
  obtain ⟨u, h1, h2⟩ := h.und
  cases u <;> simp only [TKok] at h2
  all_goals first
    | (have h3 := h2.1; rw [hk] at h3; cases h3; exact h1)
    | (exfalso; have h3 := h2.1; rw [hk] at h3; cases h3; done)
    | (exfalso; obtain ⟨⟨_, h3, _⟩, _⟩ := h2; rw [hk] at h3; cases h3)
theorem op_s2b {e0 e e' : TypeId} {x : Operand} {t0 t : TD} {b : ByteArray} {sz : Nat} {row : Ty} {by' : Int} {ag : Bool} (hD : Dok P D) (ho : o.op = .convert e0 e x) (h : Rep w S pl s a.tmps) (h0 : D e0 = some t0) (ht : D e = some t)
    (hk : t.k = .slice e') (he : D e' = some ⟨.int .u8, sz, row, by', ag⟩) (hs : P.underlying e0 = some .string) (hx : ev s x = .str b) : Good P d o a w S pl s (.view d 0) (lay s d [.sl .own (.int .u8) (s2b b)]) := by
  have h1 := h.ev x
  rw [hx] at h1
  simp only [RepV, RepCell] at h1
  have hd := (hD e t ht).und_slice hk
  have hu := (hD e' _ he).und_int rfl
  have hrun := run_bytes_of_string w e0 e e' b hs hd hu
  have hcap := grownCap_ge w b.size 0 e'
  have hsz : (bytesRow b (grownCap w b.size 0 e')).size = grownCap w b.size 0 e' := by
    unfold bytesRow
    simp only [Array.size_append, Array.size_map, Array.size_replicate]
    show b.size + _ = _
    omega
  have hlen : (s2b b).length = b.size := by
    unfold s2b
    rw [List.length_map, Array.length_toList]
    rfl
  have hfr : Fr (fun _ _ => False) w (w.drew.alloc (.cells (bytesRow b (grownCap w b.size 0 e')) e' ((bytesRow b (grownCap w b.size 0 e')).size, (bytesRow b (grownCap w b.size 0 e')).size + 1))) := (Fr.drew w).trans (Fr.alloc _ w.drew _)
  obtain ⟨pl', g1, g2, g3, g4⟩ := lay_row h d (t := .int .u8) (l := s2b b) (c := bytesRow b (grownCap w b.size 0 e')) (e := e') (cap := grownCap w b.size 0 e') (by rw [hlen]; exact hcap) (by rw [hsz]; simp [Ty.sz'])
    (fz := ((bytesRow b (grownCap w b.size 0 e')).size, (bytesRow b (grownCap w b.size 0 e')).size + 1)) (fun x hx hh => by simp only [Ty.sz', hsz] at hx hh; omega)
    (fun i x hx => by
      refine ⟨[.int .u8 x], rfl, fun j u hu => ?_, by simp [RepC]⟩
      cases j with
      | succ j => simp at hu
      | zero =>
        simp only [List.getElem?_cons_zero, Option.some.injEq] at hu
        subst hu
        unfold s2b at hx
        rw [List.getElem?_map] at hx
        have hi : i < b.data.size := by
          rcases Nat.lt_or_ge i b.data.size with h' | h'
          · exact h'
          · rw [List.getElem?_eq_none (by simpa using h')] at hx
            simp at hx
        unfold bytesRow
        simp only [Ty.sz', Nat.mul_one, Nat.add_zero]
        rw [Array.getElem?_append_left (by simpa using hi), Array.getElem?_map]
        simp [hi] at hx ⊢
        exact hx)
    hfr (by simp [World.alloc, heap_drew])
  rw [hlen] at g2
  refine ⟨_, _, S, pl', .inl ?_, g1, g2, ?_, fun _ => g4.toB _⟩
  · simp only [execOp, ho, h1, Sem.run_bind, hrun, Result.andThen_ok, Sem.run_pure]
  · refine ⟨hfr.mono (fun _ _ _ h => h.elim), fun f _ b x hx => hx, fun b x hx => .inl hx, fun b x hx => .inl hx, fun b x hx => ?_⟩
    rcases g3 b x hx with h' | h'
    · exact .inl h'
    · exact .inr h'
theorem op_b2s {e0 e e' : TypeId} {x : Operand} {t0 t : TD} {l : List Int} {sz : Nat} {row : Ty} {by' : Int} {ag : Bool} (hD : Dok P D) (ho : o.op = .convert e0 e x) (h : Rep w S pl s a.tmps) (h0 : D e0 = some t0) (ht : D e = some t)
    (hk : t.k = .str) (hk0 : t0.k = .slice e') (he : D e' = some ⟨.int .u8, sz, row, by', ag⟩) (hs : source s (.int .u8) (ev s x) = some l) (hne : ∀ b, ev s x ≠ .str b) : Quiet P o a w S pl s (.str (b2s l)) := by
  have hd := (hD e t ht).und_str hk
  have hu := (hD e' _ he).und_int rfl
  have h00 := (hD e0 t0 h0).und_slice hk0
  obtain ⟨news, hsrc, hrows, _⟩ := source_ok (tx := e0) hD h hs (by simp [keeps, flat]) (by simp [Ty.sz']) (by
    unfold mayFeed
    rw [h0]
    simp only [hk0])
  have hnews : news = l.map (Value.int .u8) := by
    apply List.ext_getElem?
    intro i
    have hl := hrows.1
    simp only [Ty.sz', Nat.mul_one] at hl
    by_cases hi : i < l.length
    · obtain ⟨row, r1, r2, r3⟩ := hrows.2 i l[i] (List.getElem?_eq_getElem hi)
      simp only [RepC] at r3
      subst r3
      have := r2 0 _ rfl
      simp only [Ty.sz', Nat.mul_one, Nat.add_zero] at this
      rw [this, List.getElem?_map, List.getElem?_eq_getElem hi]
      rfl
    · rw [List.getElem?_eq_none (by omega), List.getElem?_eq_none (by simp; omega)]
  have hv : ∃ A n c, a.eval x = .slice A n c := by
    have h1 := h.ev x
    unfold source at hs
    cases hp : ev s x with
    | sl f t' l' =>
      rw [hp] at h1
      cases f <;> simp only [RepV, RepCell] at h1
      all_goals (obtain ⟨A, cap, e, _⟩ := h1; simp at e; exact ⟨_, _, _, e⟩)
    | nil => rw [hp] at h1; simp only [RepV, RepCell] at h1; exact ⟨_, _, _, h1⟩
    | view r c => rw [hp] at h1; simp only [RepV, RepCell] at h1; exact h1.2
    | sub r c lo hi => rw [hp] at h1; simp only [RepV, RepCell] at h1; exact h1.1
    | str b => exact absurd hp (hne b)
    | _ => simp [hp, look] at hs
  obtain ⟨A, n, c, hv⟩ := hv
  rw [hv] at hsrc
  have hlen : n = l.length := by
    have := hsrc.len w
    simpa [Builtin.lenOf] using this
  refine ⟨.string (b2s l), ?_, by simp [RepV, RepCell]⟩
  have hconv : (convert e0 e (.slice A n c)).run P w = .ok (.string (b2s l)) w := by
    cases A with
    | none =>
      have hc := hsrc.cells
      simp only [Builtin.firstCells, Sem.run_pure, Result.ok.injEq, and_true] at hc
      have : news = [] := by simpa using hc.symm
      rw [this] at hnews
      have : l = [] := by simpa using hnews.symm
      subst this
      exact run_convert_bytes_nil w e0 e' h00 hu n c e hd
    | some q =>
      have hc := hsrc.cells
      simp only [Builtin.firstCells, Ty.sz', Nat.mul_one, hnews] at hc
      rw [hlen, run_convert_bytes_string w e0 e e' (some q) l.length c h00 hu hd, run_bytesToString w q l.length c l hc, foldl_push_bytes]
      simp [b2s, ByteArray.empty, ByteArray.emptyWithCapacity]
      rfl
  simp only [execOp, ho, hv, Sem.run_bind, hconv, Result.andThen_ok, Sem.run_pure]
end
end Go.Ab
namespace Go.Ab
open Go.RowKit
set_option linter.unusedVariables false
set_option linter.unusedSimpArgs false
section
variable {P : Program} {D : TypeId → Option TD} {w w' : World} {S : Fl → Cset} {pl : Pl} {s s' : St} {a : Act} {o : Oper} {d : Nat} {oks : List Bool} {v : PV}
theorem rowOf_pv (o : Row) : rowOf o.pv = some o := by
  obtain ⟨own, t, l⟩ := o
  cases own <;> rfl
theorem owned_write {r c : Nat} {o o' : Row} (hro : rowAt s r c = some o) (ht : o'.t = o.t) {r' : Nat} {j : Option Nat} {b x : Nat} (h : rng ⟨s.t, pc s.r r c o'.pv⟩ pl r' j b x) : rng s pl r' j b x := by
  cases j with
  | none => simpa [Go.Ab.rng, len_pc] using h
  | some j =>
    obtain ⟨o2, h1, h2⟩ := h
    rw [rowAt_pc] at h1
    split at h1
    · rename_i hh
      obtain ⟨rfl, rfl, _⟩ := hh
      rw [rowOf_pv] at h1
      obtain rfl := Option.some.inj h1
      exact ⟨o, hro, by rw [← ht]; exact h2⟩
    · exact ⟨o2, h1, h2⟩
theorem Rep.writeRow {a : Array Value} (h : Rep w S pl s a) {r c : Nat} {o o' : Row} (hro : rowAt s r c = some o) (ht : o'.t = o.t) (hl : o'.l.length = o.l.length) (fr : Fr (rowRange o.t (pl.hv r c)) w w')
    (hown : OwnRow w' (S .imm) o'.t o'.l (pl.hv r c)) : Rep w' S pl ⟨s.t, pc s.r r c o'.pv⟩ a := by
  have hin : ∀ b x, rowRange o.t (pl.hv r c) b x → rng s pl r (some c) b x := fun b x hx => ⟨o, hro, hx⟩
  have hc : ∀ f, f = .imm ∨ f = .bor → ∀ b x u, S f b x → w.cell? (at_ b x) = some u → w'.cell? (at_ b x) = some u := fun f hf b x u hS hu =>
    fr.cell (fun hO => h.apart b x (by rcases hf with rfl | rfl; exact h.sub _ _ hS; exact hS) ⟨r, some c, hin b x hO⟩) hu
  have hk : Kept w w' S S s ⟨s.t, pc s.r r c o'.pv⟩ pl pl (fun _ _ => True) (fun _ => True) := ⟨hc, fun _ _ _ _ h => h, fun _ _ _ => rfl, fun r' c' o2 _ ho => by
    rw [rowAt_pc] at ho
    split at ho
    · rename_i hh
      obtain ⟨rfl, rfl, _⟩ := hh
      rw [rowOf_pv] at ho
      obtain rfl := Option.some.inj ho
      exact ⟨o, hro, ht.symm, hl.symm⟩
    · exact ⟨o2, ho, rfl, rfl⟩, fun _ _ => rfl⟩
  have k : ∀ p v, RepV w S s pl p v → RepV w' S ⟨s.t, pc s.r r c o'.pv⟩ pl p v := fun p v hv => RepV.keep hk (okV.all (fun _ _ => trivial) (fun _ => trivial) p) hv
  refine ⟨h.len, fun i => k _ _ (h.slots i), fun r' j hj => ?_, fun r' b x j hm hj => ?_, fun r1 j1 r2 j2 b x h1 h2 => h.disj r1 j1 r2 j2 b x (owned_write hro ht h1) (owned_write hro ht h2), fun b x hb ⟨r1, j1, ho⟩ => h.apart b x hb ⟨r1, j1, owned_write hro ht ho⟩, h.sub, fun b x hb => Nat.lt_of_lt_of_le (h.live b x hb) fr.size, h.stat.step fr (fun b x hx hS => h.apart b x (h.sub _ _ hS) ⟨r, some c, hin b x hx⟩) (fun _ _ h => h)⟩
  · rw [len_pc] at hj
    have hc' := (h.ownAt hro).1
    refine ⟨?_, (h.roots r' j hj).2⟩
    rw [gt_pc]
    by_cases hrc : r' = r ∧ j = c
    · obtain ⟨rfl, rfl⟩ := hrc
      rw [if_pos ⟨rfl, rfl, hc'⟩]
      unfold RepRoot
      rw [rowOf_pv]
      exact hown
    · rw [if_neg (fun hh => hrc ⟨hh.1, hh.2.1⟩)]
      refine (h.roots r' j hj).1.turn (fun o2 ho2 hoo => ?_) (k _ _)
      refine hoo.keep fr (fun b x hx hO => ?_) (hc .imm (.inl rfl)) (fun _ _ h => h)
      obtain ⟨e1, e2⟩ := h.disj r' (some j) r (some c) b x ⟨o2, ho2, hx⟩ (hin b x hO)
      exact hrc ⟨e1, Option.some.inj e2⟩
  · rw [len_pc] at hj
    obtain ⟨h1, h2⟩ := h.mem r' b x j hm hj
    refine ⟨fr.cell (fun hO => ?_) h1, by rw [fr.frozen (a := at_ b (x + j)) (cell_lt h1)]; exact h2⟩
    have := h.disj r' none r (some c) b (x + j) ⟨x, hm, by omega, by omega⟩ (hin _ _ hO)
    exact absurd this.2 (by simp)
theorem Rows.take {S : Cset} {t : Ty} {l : List t.val} {news : List Value} (h : Rows w S t l news) (k : Nat) : Rows w S t (l.take k) (news.take (k * t.sz')) := by
  refine ⟨?_, fun i x hx => ?_⟩
  · rw [List.length_take, h.1, List.length_take]
    rcases Nat.le_total k l.length with hk | hk
    · rw [Nat.min_eq_left hk, Nat.min_eq_left (Nat.mul_le_mul_right _ hk)]
    · rw [Nat.min_eq_right hk, Nat.min_eq_right (Nat.mul_le_mul_right _ hk)]
  · rw [List.getElem?_take] at hx
    split at hx
    · rename_i hik
      obtain ⟨row, r1, r2, r3⟩ := h.2 i x hx
      refine ⟨row, r1, fun j u hu => ?_, r3⟩
      have hj : j < t.sz' := by rw [← r1]; exact (List.getElem?_eq_some_iff.1 hu).1
      have : (i + 1) * t.sz' ≤ k * t.sz' := Nat.mul_le_mul_right _ (by omega)
      rw [Nat.add_mul] at this
      rw [List.getElem?_take, if_pos (by omega)]
      exact r2 j u hu
    · simp at hx
theorem OwnRow.splice {S : Cset} {t : Ty} {l m : List t.val} {b cap : Nat} {c : Array Value} {e : TypeId} {fz : Nat × Nat} (hle : l.length ≤ cap) (hh : w.heap[b]? = some (.cells c e fz)) (hsz : cap * t.sz' ≤ c.size)
    (hfz : ∀ x, x < cap * t.sz' → ¬ (fz.1 ≤ x ∧ x < fz.2)) (hrow : ∀ (i : Nat) (x : t.val), l[i]? = some x → ∃ row : List Value, row.length = t.sz' ∧ (∀ (j : Nat) (u : Value), row[j]? = some u → c[i * t.sz' + j]? = some u) ∧ RepC w S t x row)
    {news : List Value} (hr : Rows w S t m news) {p : Nat} (hp : p + m.length ≤ l.length) (hS : ∀ b' x u, S b' x → w.cell? (at_ b' x) = some u → (w.setCells b (p * t.sz') news).cell? (at_ b' x) = some u) :
    OwnRow (w.setCells b (p * t.sz') news) S t (l.take p ++ m ++ l.drop (p + m.length)) (.slice (some (at_ b 0)) l.length cap) := by
  have hpm : (p + m.length) * t.sz' ≤ cap * t.sz' := Nat.mul_le_mul_right _ (by omega)
  have hnl := hr.1
  rw [Nat.add_mul] at hpm
  obtain ⟨c', k1, k2, k3, k5, k4⟩ := setCells_heap b news (p * t.sz') w c e fz hh (by omega)
  have hlen : (l.take p ++ m ++ l.drop (p + m.length)).length = l.length := by simp; omega
  refine .inr ⟨b, cap, c', e, fz, by rw [hlen], by rw [hlen]; exact hle, k1, by omega, hfz, fun i x hx => ?_⟩
  have hcell : ∀ {row : List Value} {i : Nat}, row.length = t.sz' → ∀ {j : Nat} {u : Value}, row[j]? = some u → j < t.sz' := fun {row i} hl {j u} hu => by rw [← hl]; exact (List.getElem?_eq_some_iff.1 hu).1
  by_cases h1 : i < p
  · rw [List.append_assoc, List.getElem?_append_left (by simp; omega), List.getElem?_take, if_pos h1] at hx
    obtain ⟨row, r1, r2, r3⟩ := hrow i x hx
    refine ⟨row, r1, fun j u hu => ?_, RepC.mono hS (fun _ _ h => h) r3⟩
    have hj := hcell (i := i) r1 hu
    have : (i + 1) * t.sz' ≤ p * t.sz' := Nat.mul_le_mul_right _ (by omega)
    rw [Nat.add_mul] at this
    rw [k3 _ (by omega)]
    exact r2 j u hu
  · by_cases h2 : i < p + m.length
    · rw [List.getElem?_append_left (by simp; omega), List.getElem?_append_right (by simp; omega)] at hx
      have hpl : (l.take p).length = p := by simp; omega
      rw [hpl] at hx
      obtain ⟨row, r1, r2, r3⟩ := hr.2 _ x hx
      refine ⟨row, r1, fun j u hu => ?_, RepC.mono hS (fun _ _ h => h) r3⟩
      have := k4 _ u (r2 j u hu)
      have he : i * t.sz' = p * t.sz' + (i - p) * t.sz' := by rw [← Nat.add_mul]; congr 1; omega
      rw [he, Nat.add_assoc]
      exact this
    · rw [List.getElem?_append_right (by simp; omega)] at hx
      have hpl : (l.take p ++ m).length = p + m.length := by simp; omega
      rw [hpl, List.getElem?_drop, show p + m.length + (i - (p + m.length)) = i by omega] at hx
      obtain ⟨row, r1, r2, r3⟩ := hrow i x hx
      refine ⟨row, r1, fun j u hu => ?_, RepC.mono hS (fun _ _ h => h) r3⟩
      have he : i * t.sz' = p * t.sz' + m.length * t.sz' + (i - (p + m.length)) * t.sz' := by rw [← Nat.add_mul, ← Nat.add_mul]; congr 1; omega
      have := k5 ((i - (p + m.length)) * t.sz' + j)
      rw [hnl, ← Nat.add_assoc, ← he] at this
      rw [this]
      exact r2 j u hu
theorem run_copy {ty tx rt elem : TypeId} {size n : Nat} {base : Option Addr} {dLen dCap : Nat} {x : Value} {news : List Value} (hd : P.underlying ty = some (.slice elem)) (hz : (sizeOf elem).run P w = .ok size w) (hs : Src P size tx x n news w) (hf : Firsts P size x n news w)
    (hst : ∀ q, base = some q → (storeCells q (news.take (min n dLen * size))).run P w = .ok () w') (hn : base = none → w' = w) :
    (Builtin.copy_ #[ty, tx] rt #[.slice base dLen dCap, x]).run P w = .ok (goInt (min n dLen : Nat)) w' := by
  have h1 := hf (min n dLen) (Nat.min_le_left _ _)
  cases base with
  | none =>
    rw [hn rfl]
    simp [Builtin.copy_, run_underlying hd, hs.len, hz, h1]
  | some q =>
    have := hst q rfl
    simp [Builtin.copy_, run_underlying hd, hs.len, hz, h1, this]
theorem setCells_nil (b q : Nat) : w.setCells b q [] = w := rfl
theorem copy_row (h : Rep w S pl s a.tmps) {r c : Nat} {o : Row} (hro : rowAt s r c = some o) {m : List o.t.val} {news : List Value} (hr : Rows w (S .imm) o.t m news) (hz : 0 < o.t.sz') {p : Nat} (hp : p + m.length ≤ o.l.length) :
    ∃ w', (∀ q, (m ≠ [] → ∃ n cap, pl.hv r c = .slice (some (at_ q.block 0)) n cap ∧ q = at_ q.block (p * o.t.sz')) → (storeCells q news).run P w = .ok () w') ∧ (m = [] → w' = w) ∧
      Rep w' S pl ⟨s.t, pc s.r r c (Row.pv ⟨o.own, o.t, o.l.take p ++ m ++ o.l.drop (p + m.length)⟩)⟩ a.tmps ∧ Fr (rowRange o.t (pl.hv r c)) w w' := by
  have hlen : (o.l.take p ++ m ++ o.l.drop (p + m.length)).length = o.l.length := by simp; omega
  by_cases hm : m = []
  · subst hm
    have hnews : news = [] := List.length_eq_zero_iff.1 (by rw [hr.1]; simp)
    subst hnews
    refine ⟨w, fun q _ => rfl, fun _ => rfl, ?_, Fr.refl _ w⟩
    have hl : o.l.take p ++ [] ++ o.l.drop (p + List.length ([] : List o.t.val)) = o.l := by simp
    refine h.writeRow hro rfl hlen (Fr.refl _ w) ?_
    show OwnRow w (S .imm) o.t (o.l.take p ++ [] ++ o.l.drop (p + List.length ([] : List o.t.val))) (pl.hv r c)
    rw [hl]
    exact (h.ownAt hro).2
  · have hpos : 0 < m.length := List.length_pos_iff.2 hm
    rcases (h.ownAt hro).2 with ⟨_, e⟩ | ⟨b, cap, cs, e, fz, hv, hle, hh, hsz, hfz, hrow⟩
    · rw [e, List.length_nil] at hp; omega
    · have hnl := hr.1
      have hpm : (p + m.length) * o.t.sz' ≤ cap * o.t.sz' := Nat.mul_le_mul_right _ (by omega)
      rw [Nat.add_mul] at hpm
      have hrange : ∀ j, j < news.length → rowRange o.t (pl.hv r c) b (p * o.t.sz' + j) := fun j hj => ⟨_, _, _, hv, rfl, by omega⟩
      have hfr : Fr (rowRange o.t (pl.hv r c)) w (w.setCells b (p * o.t.sz') news) := Fr.setCells news _ w hrange
      have himm : ∀ b' x u, S .imm b' x → w.cell? (at_ b' x) = some u → (w.setCells b (p * o.t.sz') news).cell? (at_ b' x) = some u := fun b' x u hS hu => hfr.cell (fun hO => h.apart b' x (h.sub b' x hS) ⟨r, some c, o, hro, hO⟩) hu
      have hown := OwnRow.splice hle hh hsz hfz hrow hr hp himm
      rw [← hv] at hown
      refine ⟨_, fun q hq => ?_, fun e => absurd e hm, h.writeRow hro rfl hlen hfr hown, hfr⟩
      obtain ⟨n', cap', e1, e2⟩ := hq hm
      rw [hv] at e1
      simp only [Value.slice.injEq, Option.some.injEq, at_, Addr.mk.injEq] at e1
      obtain ⟨⟨rfl, _⟩, _⟩ := e1
      rw [e2]
      have hcell : ∀ x, x < cs.size → (w.cell? ⟨q.block, x, none⟩).isSome = true := fun x hx => by
        unfold World.cell?
        simp only [hh]
        simp [hx]
      have := run_storeCells_cells (P := P) q.block (p * o.t.sz') news 0 w (fun j hj => hcell _ (by omega)) (fun j hj => by
        unfold World.frozen?
        simp only [hh]
        have := hfz (p * o.t.sz' + 0 + j) (by omega)
        simpa using this) (hr.one hz)
      simpa [at_] using this
theorem op_copy {s' : St} {x y : Operand} {ty tx : TypeId} (hD : Dok P D) (ho : o.op = .call ⟨.builtin .copy, #[x, y], #[ty, tx]⟩) (h : Rep w S pl s a.tmps)
    (hf : Go.Ab.copy D s ty tx (ev s x) (ev s y) = some (oks, v, s')) : Good P d o a w S pl s v s' := by
  unfold Go.Ab.copy at hf
  cases htd : D ty with
  | none => simp [htd] at hf
  | some td =>
  simp only [htd] at hf
  cases hel : elemTy D td with
  | none => simp [hel] at hf
  | some q =>
  obtain ⟨t, de⟩ := q
  simp only [hel] at hf
  cases hso : source s t (ev s y) with
  | none => simp [hso] at hf
  | some m =>
  simp only [hso] at hf
  split at hf
  · rename_i hc
    obtain ⟨hfl, hz, hmf⟩ := hc
    obtain ⟨news, hsrc, hrows, hfirst⟩ := source_ok hD h hso (by simp [keeps, hfl]) hz hmf
    obtain ⟨e', i, hk, hu, _, _, hsz, _⟩ := elem_ok hD htd hel w
    have hund := (hD ty td htd).und_slice hk
    have h1 := h.ev x
    obtain ⟨rt, hexec⟩ : ∃ rt, (execOp a.eval o).run P w = ((Builtin.copy_ #[ty, tx] rt #[a.eval x, a.eval y]).run P w).andThen fun x w' => .ok (.value x) w' := by
      refine ⟨o.type, ?_⟩
      simp [execOp, ho, resolve, Deferred.ofValue, invoke, builtin]
    have fin : ∀ {r c : Nat} {o' : Row} {base : Option Addr} {dLen dCap p : Nat} (ht : o'.t = t), rowAt s r c = some o' → a.eval x = .slice base dLen dCap → p + dLen ≤ o'.l.length →
        (0 < dLen → ∃ q n cap, base = some q ∧ pl.hv r c = .slice (some (at_ q.block 0)) n cap ∧ q = at_ q.block (p * t.sz')) →
        Good P d o a w S pl s (.int .i64 ((min m.length dLen : Nat) : Int)) ⟨s.t, pc s.r r c (Row.pv ⟨o'.own, t, (ht ▸ o'.l).take p ++ m.take dLen ++ (ht ▸ o'.l).drop (p + min m.length dLen)⟩)⟩ := fun {r c o' base dLen dCap p} ht hro hv hp hq => by
      subst ht
      have hml : (m.take dLen).length = min m.length dLen := by simp [Nat.min_comm]
      obtain ⟨w', k1, k2, k3, k4⟩ := copy_row (P := P) h hro (hrows.take dLen) hz (p := p) (by rw [hml]; omega)
      rw [hml] at k3
      have hnews : news.take (dLen * o'.t.sz') = news.take (min m.length dLen * o'.t.sz') := by
        rcases Nat.le_total m.length dLen with hle | hle
        · rw [Nat.min_eq_left hle, List.take_of_length_le (by rw [hrows.1]; exact Nat.mul_le_mul_right _ hle), List.take_of_length_le (by rw [hrows.1]; exact Nat.le_refl _)]
        · rw [Nat.min_eq_right hle]
      have hrun := run_copy (rt := rt) (dCap := dCap) (w' := w') hund hsz hsrc hfirst (dLen := dLen) (base := base) (fun q hb => by
        rw [← hnews]
        refine k1 q fun hne => ?_
        have hpos : 0 < dLen := by
          rcases Nat.eq_zero_or_pos dLen with e | e
          · subst e; simp at hne
          · exact e
        obtain ⟨q', n', cap', e1, e2, e3⟩ := hq hpos
        rw [hb] at e1
        obtain rfl := Option.some.inj e1
        exact ⟨n', cap', e2, e3⟩) (fun hb => k2 (by
          rcases Nat.eq_zero_or_pos dLen with e | e
          · subst e; simp
          · obtain ⟨q', n', cap', e1, _⟩ := hq e
            rw [hb] at e1
            cases e1))
      refine ⟨_, w', S, pl, .inl (by rw [hexec, hv, hrun]; rfl), k3, by simp [RepV, RepCell, goInt], ⟨k4.mono fun b x _ hx => ⟨r, some c, o', hro, hx⟩, fun f _ b x hx => hx, fun b x hx => .inl hx, fun b x hx => .inl hx, fun b x ⟨r1, j1, hx⟩ => .inl ⟨r1, j1, owned_write hro (by rfl) hx⟩⟩, fun _ => (Stay.refl d pl).toB _⟩
    split at hf
    · rename_i r c hpx
      cases hro : rowAt s r c with
      | none => simp [hro] at hf
      | some o' =>
        simp only [hro] at hf
        split at hf
        · rename_i ht
          simp only [Option.some.injEq, Prod.mk.injEq] at hf
          obtain ⟨rfl, rfl, rfl⟩ := hf
          rw [hpx] at h1
          simp only [RepV, RepCell] at h1
          obtain ⟨ow, ot, ol⟩ := o'
          simp only at ht
          subst ht
          have hown := (h.ownAt hro).2
          obtain ⟨base, dLen, dCap, e1⟩ := hown.sliceOf
          have hdl : dLen = ol.length ∧ (0 < dLen → ∃ b, base = some (at_ b 0)) := by
            rcases hown with ⟨e, e2⟩ | ⟨b, cap, cs, e, fz, hv, hle, hh, hszc, hfz, hrow⟩
            · rw [e] at e1
              simp only [Value.slice.injEq] at e1
              simp only at e2
              obtain ⟨rfl, rfl, rfl⟩ := e1
              simp [e2]
            · rw [hv] at e1
              simp only [Value.slice.injEq] at e1
              obtain ⟨rfl, rfl, rfl⟩ := e1
              exact ⟨rfl, fun _ => ⟨b, rfl⟩⟩
          have := fin (p := 0) rfl hro (h1.1.trans e1) (by simp [hdl.1]) (fun hpos => by
            obtain ⟨b, rfl⟩ := hdl.2 hpos
            exact ⟨_, dLen, dCap, rfl, e1, by simp [at_]⟩)
          simp only [List.take_zero, List.nil_append, Nat.zero_add, hdl.1] at this
          have hdrop : ol.drop (min m.length ol.length) = ol.drop m.length := by
            rcases Nat.le_total m.length ol.length with hle | hle
            · rw [Nat.min_eq_left hle]
            · rw [Nat.min_eq_right hle, List.drop_eq_nil_of_le (Nat.le_refl _), List.drop_eq_nil_of_le hle]
          rw [hdrop] at this
          exact this
        · simp at hf
    · rename_i r c lo hi hpx
      cases hro : rowAt s r c with
      | none => simp [hro] at hf
      | some o' =>
        simp only [hro] at hf
        split at hf
        · rename_i ht
          simp only [Option.some.injEq, Prod.mk.injEq] at hf
          obtain ⟨rfl, rfl, rfl⟩ := hf
          rw [hpx] at h1
          simp only [RepV, RepCell] at h1
          obtain ⟨A, n, cap, A', e1, e2, e3, e4, e5, e6, e7⟩ := h1.2 o' hro
          have hdd : hi.toNat - lo.toNat = (hi - lo).toNat := by omega
          rw [hdd] at e5
          refine fin ht hro e5 (by omega) (fun hpos => ?_)
          have hA := e7 (by omega)
          rcases (h.ownAt hro).2 with ⟨e, e2⟩ | ⟨b, cap', cs, e, fz, hv, hle, hh, hszc, hfz, hrow⟩
          · rw [e2] at e4; simp at e4; omega
          · rw [hv] at e1
            simp only [Value.slice.injEq] at e1
            obtain ⟨rfl, rfl, rfl⟩ := e1
            simp only [Option.map_some, at_add, Nat.zero_add] at hA
            refine ⟨_, _, _, hA, hv, ?_⟩
            subst ht
            rfl
        · simp at hf
    · simp at hf
  · simp at hf
theorem zero_rows {S : Cset} {t : Ty} {z : Array Value} (h : zOkL (zero t) z.toList = true) (n : Nat) : Rows w S t (List.replicate n t.dflt) (Builtin.zeroCells z n).toList := by
  have hzl : z.size = t.sz' := by
    have := (zero_repC (w := w) (S := fun _ _ => True) h).len
    simpa using this
  refine ⟨by simp [Builtin.zeroCells, hzl], fun i x hx => ?_⟩
  have hi : i < n := by have := (List.getElem?_eq_some_iff.1 hx).1; simpa using this
  rw [List.getElem?_replicate, if_pos hi] at hx
  obtain rfl := Option.some.inj hx
  refine ⟨z.toList, by simpa using hzl, fun j u hu => ?_, zero_repC h⟩
  have hj : j < t.sz' := by
    have := (List.getElem?_eq_some_iff.1 hu).1
    rw [← hzl]
    simpa using this
  have hlt : i * t.sz' + j < n * t.sz' := by
    have : (i + 1) * t.sz' ≤ n * t.sz' := Nat.mul_le_mul_right _ (by omega)
    rw [Nat.add_mul] at this
    omega
  have hmod : (i * t.sz' + j) % z.size = j := by rw [hzl, Nat.add_comm, Nat.add_mul_mod_self_right, Nat.mod_eq_of_lt hj]
  unfold Builtin.zeroCells
  rw [Array.getElem?_toList, Array.getElem?_map, Array.getElem?_range]
  simp only [hzl] at *
  simp only [hlt, if_true, Option.map_some, hmod]
  have hu' : z[j]? = some u := by simpa using hu
  rw [← hu']
  simp [getElem!_def, hu']
theorem op_clear {s' : St} {x : Operand} {ty : TypeId} (hD : Dok P D) (ho : o.op = .call ⟨.builtin .clear, #[x], #[ty]⟩) (h : Rep w S pl s a.tmps)
    (hf : Go.Ab.clearS D s ty (ev s x) = some (oks, v, s')) : Good P d o a w S pl s v s' := by
  unfold Go.Ab.clearS at hf
  cases htd : D ty with
  | none => simp [htd] at hf
  | some td =>
  simp only [htd] at hf
  cases hel : elemTy D td with
  | none => simp [hel] at hf
  | some q =>
  obtain ⟨t, de⟩ := q
  simp only [hel] at hf
  split at hf
  · rename_i hz
    obtain ⟨e', i, hk, hu, _, hrow, hsz, hti, _, _, ⟨z, hz1, hz2⟩, _⟩ := elem_ok hD htd hel w
    have hund := (hD ty td htd).und_slice hk
    have h1 := h.ev x
    have hexec : (execOp a.eval o).run P w = ((Builtin.clear_ #[ty] o.type #[a.eval x]).run P w).andThen fun x w' => .ok (.value x) w' := by
      simp [execOp, ho, resolve, Deferred.ofValue, invoke, builtin]
    have hzv : (zeroValue e').run P w = .ok z w := by simp [zeroValue, hti, hz1]
    have fin : ∀ {r c : Nat} {o' : Row} {base : Option Addr} {dLen dCap p : Nat}, o'.t = t → rowAt s r c = some o' → a.eval x = .slice base dLen dCap → p + dLen ≤ o'.l.length →
        (0 < dLen → ∃ q n cap, base = some q ∧ pl.hv r c = .slice (some (at_ q.block 0)) n cap ∧ q = at_ q.block (p * t.sz')) →
        Good P d o a w S pl s .any ⟨s.t, pc s.r r c (Row.pv ⟨o'.own, o'.t, o'.l.take p ++ List.replicate dLen o'.t.dflt ++ o'.l.drop (p + dLen)⟩)⟩ := fun {r c o' base dLen dCap p} ht hro hv hp hq => by
      subst ht
      rw [← hrow] at hz2
      obtain ⟨w', k1, k2, k3, k4⟩ := copy_row (P := P) h hro (zero_rows hz2 dLen) hz (p := p) (by simpa using hp)
      rw [List.length_replicate] at k3
      have hrun : (Builtin.clear_ #[ty] o.type #[.slice base dLen dCap]).run P w = .ok (.tuple #[]) w' := by
        rcases Nat.eq_zero_or_pos dLen with e0 | e0
        · subst e0
          obtain rfl := k2 (by simp)
          cases base <;> simp [Builtin.clear_, run_underlying hund]
        · obtain ⟨q, n', cap', e1, e2, e3⟩ := hq e0
          have hst := k1 q (fun _ => ⟨n', cap', e2, e3⟩)
          subst e1
          obtain ⟨m, rfl⟩ : ∃ m, dLen = m + 1 := ⟨dLen - 1, by omega⟩
          simp [Builtin.clear_, run_underlying hund, hzv, hst]
      refine ⟨_, w', S, pl, .inl (by rw [hexec, hv, hrun]; rfl), k3, by simp [RepV], ⟨k4.mono fun b x _ hx => ⟨r, some c, o', hro, hx⟩, fun f _ b x hx => hx, fun b x hx => .inl hx, fun b x hx => .inl hx, fun b x ⟨r1, j1, hx⟩ => .inl ⟨r1, j1, owned_write hro (by rfl) hx⟩⟩, fun _ => (Stay.refl d pl).toB _⟩
    split at hf
    · rename_i r c hpx
      cases hro : rowAt s r c with
      | none => simp [hro] at hf
      | some o' =>
        simp only [hro] at hf
        split at hf
        · rename_i ht
          simp only [Option.some.injEq, Prod.mk.injEq] at hf
          obtain ⟨rfl, rfl, rfl⟩ := hf
          rw [hpx] at h1
          simp only [RepV, RepCell] at h1
          have hown := (h.ownAt hro).2
          obtain ⟨base, dLen, dCap, e1⟩ := hown.sliceOf
          have hdl : dLen = o'.l.length ∧ (0 < dLen → ∃ b, base = some (at_ b 0)) := by
            rcases hown with ⟨e, e2⟩ | ⟨b, cap, cs, e, fz, hv, hle, hh, hszc, hfz, hrow⟩
            · rw [e] at e1
              simp only [Value.slice.injEq] at e1
              obtain ⟨rfl, rfl, rfl⟩ := e1
              simp [e2]
            · rw [hv] at e1
              simp only [Value.slice.injEq] at e1
              obtain ⟨rfl, rfl, rfl⟩ := e1
              exact ⟨rfl, fun _ => ⟨b, rfl⟩⟩
          have := fin (p := 0) ht hro (h1.1.trans e1) (by simp [hdl.1]) (fun hpos => by
            obtain ⟨b, rfl⟩ := hdl.2 hpos
            exact ⟨_, dLen, dCap, rfl, e1, by simp [at_]⟩)
          simp only [List.take_zero, List.nil_append, Nat.zero_add, hdl.1, List.drop_length, List.append_nil] at this
          exact this
        · simp at hf
    · rename_i r c lo hi hpx
      cases hro : rowAt s r c with
      | none => simp [hro] at hf
      | some o' =>
        simp only [hro] at hf
        split at hf
        · rename_i ht
          simp only [Option.some.injEq, Prod.mk.injEq] at hf
          obtain ⟨rfl, rfl, rfl⟩ := hf
          rw [hpx] at h1
          simp only [RepV, RepCell] at h1
          obtain ⟨A, n, cap, A', e1, e2, e3, e4, e5, e6, e7⟩ := h1.2 o' hro
          have hdd : hi.toNat - lo.toNat = (hi - lo).toNat := by omega
          rw [hdd] at e5
          refine fin ht hro e5 (by omega) (fun hpos => ?_)
          have hA := e7 (by omega)
          rcases (h.ownAt hro).2 with ⟨e, e2⟩ | ⟨b, cap', cs, e, fz, hv, hle, hh, hszc, hfz, hrow⟩
          · rw [e2] at e4; simp at e4; omega
          · rw [hv] at e1
            simp only [Value.slice.injEq] at e1
            obtain ⟨rfl, rfl, rfl⟩ := e1
            simp only [Option.map_some, at_add, Nat.zero_add] at hA
            refine ⟨_, _, _, hA, hv, ?_⟩
            subst ht
            rfl
        · simp at hf
    · simp at hf
  · simp at hf
theorem shift_row (hD : Dok P D) (h : Rep w S pl s a.tmps) {ty tx rt : TypeId} {td de : TD} {t : Ty} {l m : List t.val} {r c : Nat} {hi : Int} {v y : Value} {news : List Value} (ht : D ty = some td) (he : elemTy D td = some (t, de)) (hz : 0 < t.sz')
    (hro : rowAt s r c = some ⟨true, t, l⟩) (hv : RepV w S s pl (.sub r c 0 hi) v) (hs : Src P t.sz' tx y m.length news w) (hr : Rows w (S .imm) t m news) (hroom : hi + (m.length : Int) ≤ (l.length : Int)) :
    ∃ x w', (Builtin.append_ #[ty, tx] rt #[v, y]).run P w = .ok x w' ∧ Rep w' S pl ⟨s.t, pc s.r r c (Row.pv ⟨true, t, l.take hi.toNat ++ m ++ l.drop (hi.toNat + m.length)⟩)⟩ a.tmps ∧
      RepV w' S ⟨s.t, pc s.r r c (Row.pv ⟨true, t, l.take hi.toNat ++ m ++ l.drop (hi.toNat + m.length)⟩)⟩ pl (.sub r c 0 (hi + (m.length : Int))) x ∧ Fr (rowRange t (pl.hv r c)) w w' := by
  obtain ⟨e', i, hk, hu, _, rfl, hsz, hti, his, hib, ⟨z, hz1, hz2⟩, hpos⟩ := elem_ok hD ht he w
  have hund := (hD ty td ht).und_slice hk
  have hinfo : P.info? e' = some i := by
    unfold typeInfo at hti
    cases hp : P.info? e' with
    | none => simp [hp] at hti
    | some i' => simp [hp] at hti; rw [hti]
  have hs' : Src P i.size tx y m.length news w := by rw [his]; exact hs
  simp only [RepV, RepCell] at hv
  obtain ⟨A0, n, cap, A, e1, e2, e3, e4, e5, e6, e7⟩ := hv.2 _ hro
  obtain rfl := e6 trivial
  simp only [Int.toNat_zero, Nat.sub_zero] at e5 e4
  have hown := (h.ownAt hro).2
  have hcl := (h.ownAt hro).1
  simp only at hown
  have hpl : hi.toNat + m.length ≤ l.length := by omega
  have hlen : (l.take hi.toNat ++ m ++ l.drop (hi.toNat + m.length)).length = l.length := by simp; omega
  have htel : ∀ {x : Value} {w' : World}, x = .slice A (hi.toNat + m.length) cap → RepV w' S ⟨s.t, pc s.r r c (Row.pv ⟨true, de.row, l.take hi.toNat ++ m ++ l.drop (hi.toNat + m.length)⟩)⟩ pl (.sub r c 0 (hi + (m.length : Int))) x := fun {x w'} hx => by
    simp only [RepV, RepCell]
    refine ⟨⟨_, _, _, hx⟩, fun o ho => ?_⟩
    rw [rowAt_pc, if_pos ⟨rfl, rfl, hcl⟩, rowOf_pv] at ho
    obtain rfl := Option.some.inj ho
    refine ⟨A, n, cap, A, e1, by omega, by omega, by simp only; rw [hlen]; omega, ?_, fun _ => rfl, fun _ => ?_⟩
    · rw [hx]
      congr 1
      omega
    · simp only [Int.toNat_zero, Nat.zero_mul]
      cases A with
      | none => rfl
      | some q => simp [Addr.add]
  by_cases hm : m = []
  · subst hm
    have hnews : news = [] := List.length_eq_zero_iff.1 (by rw [hr.1]; simp)
    have hcap : hi.toNat ≤ cap := by
      rw [e1] at hown
      rcases hown with ⟨e, hl⟩ | ⟨b, cap', cs, e, fz, e, hle, _⟩
      · rw [hl] at hpl; simp at hpl; omega
      · cases e; omega
    have hl : l.take hi.toNat ++ [] ++ l.drop (hi.toNat + List.length ([] : List de.row.val)) = l := by simp
    refine ⟨v, w, ?_, h.writeRow hro rfl hlen (Fr.refl _ w) ?_, ?_, Fr.refl _ w⟩
    · rw [e5]
      refine run_append_nothing w ty tx rt e' i hund hinfo A hi.toNat cap hcap y ?_
      rw [hnews] at hs'
      exact hs'
    · show OwnRow w (S .imm) de.row (l.take hi.toNat ++ [] ++ l.drop (hi.toNat + List.length ([] : List de.row.val))) (pl.hv r c)
      rw [hl]
      exact hown
    · exact htel (by rw [e5]; simp)
  · have hmp : 0 < m.length := List.length_pos_iff.2 hm
    rcases hown with ⟨_, e⟩ | ⟨b, cap', cs, e, fz, hv', hle, hh, hszc, hfz, hrow⟩
    · rw [e, List.length_nil] at hpl; omega
    · rw [e1] at hv'
      simp only [Value.slice.injEq] at hv'
      obtain ⟨rfl, rfl, rfl⟩ := hv'
      have hnl := hr.1
      have hpm : (hi.toNat + m.length) * de.row.sz' ≤ cap * de.row.sz' := Nat.mul_le_mul_right _ (by omega)
      rw [Nat.add_mul] at hpm
      have hrange : ∀ j, j < news.length → rowRange de.row (pl.hv r c) b (hi.toNat * de.row.sz' + j) := fun j hj => ⟨_, _, _, e1, rfl, by omega⟩
      have hfr : Fr (rowRange de.row (pl.hv r c)) w (w.setCells b (hi.toNat * de.row.sz') news) := Fr.setCells news _ w hrange
      have himm : ∀ b' x u, S .imm b' x → w.cell? (at_ b' x) = some u → (w.setCells b (hi.toNat * de.row.sz') news).cell? (at_ b' x) = some u := fun b' x u hS hu => hfr.cell (fun hO => h.apart b' x (h.sub b' x hS) ⟨r, some c, _, hro, hO⟩) hu
      have hsp := OwnRow.splice hle hh hszc hfz hrow hr hpl himm
      have hcell : ∀ x, x < cs.size → (w.cell? ⟨b, x, none⟩).isSome = true := fun x hx => by
        unfold World.cell?
        simp only [hh]
        simp [hx]
      have hrun := run_append_room_src (P := P) w ty tx rt e' i hund hinfo b 0 hi.toNat cap y m.length news hs' (by omega)
        (fun j hj => by rw [his]; exact hcell _ (by omega))
        (fun j hj => by
          rw [his]
          unfold World.frozen?
          simp only [hh]
          have := hfz (0 + hi.toNat * de.row.sz' + j) (by omega)
          simpa using this)
      rw [his, Nat.zero_add] at hrun
      refine ⟨_, _, ?_, h.writeRow hro rfl hlen hfr ?_, htel rfl, hfr⟩
      · rw [e5]; exact hrun
      · rw [e1]; exact hsp
theorem op_append {s' : St} {x y : Operand} {ts : Array TypeId} {ty tx : TypeId} {l : List TypeId} (hD : Dok P D) (ho : o.op = .call ⟨.builtin .append, #[x, y], #[ty, tx]⟩) (h : Rep w S pl s a.tmps)
    (hf : Go.Ab.append D s d ty tx (ev s x) (ev s y) = some (oks, v, s')) (hok : ∀ b ∈ oks, b = true) : Good P d o a w S pl s v s' := by
  unfold Go.Ab.append at hf
  cases htd : D ty with
  | none => simp [htd] at hf
  | some td =>
  simp only [htd] at hf
  cases hel : elemTy D td with
  | none => simp [hel] at hf
  | some q =>
  obtain ⟨t, de⟩ := q
  simp only [hel] at hf
  cases hso : source s t (ev s y) with
  | none => simp [hso] at hf
  | some m =>
  simp only [hso] at hf
  split at hf
  · rename_i hc
    obtain ⟨hkp, hz, hmf⟩ := hc
    obtain ⟨news, hsrc, hrows, _⟩ := source_ok hD h hso hkp hz hmf
    have h1 := h.ev x
    obtain ⟨rt, hexec⟩ : ∃ rt, (execOp a.eval o).run P w = ((Builtin.append_ #[ty, tx] rt #[a.eval x, a.eval y]).run P w).andThen fun x w' => .ok (.value x) w' := by
      refine ⟨o.type, ?_⟩
      simp [execOp, ho, resolve, Deferred.ofValue, invoke, builtin]
    generalize hpx : ev s x = px at *
    have fin : ∀ {s0 : St} {l : List t.val} {v0 : Value}, a.eval x = v0 → Rep w S pl s0 a.tmps → Fewer s s0 → OwnRow w (S .imm) t l v0 → (∀ b x, rowRange t v0 b x → ¬ owned s0 pl b x ∧ ¬ S .bor b x) → (∀ b x, rowRange t v0 b x → owned s pl b x) →
        ((l.length : Int) + (m.length : Int)) * de.bytes ≤ 140737488355328 → Good P d o a w S pl s (.view d 0) (lay s0 d [.sl .own t (l ++ m)]) := fun {s0 l v0} hv hr hfw hown hn hin hroom => by
      obtain ⟨xr, w', pl', k1, k2, k3, k4, k5, k6⟩ := append_row (rt := rt) hD hr htd hel hz hown hn hsrc hrows hroom d
      refine ⟨xr, w', S, pl', .inl ?_, k2, k3, ⟨k4.mono fun b x _ hx => hin b x hx, fun f _ b x hx => hx, fun b x hx => .inl hx, fun b x hx => .inl hx, fun b x hx => ?_⟩, fun _ => k6.toB _⟩
      · rw [hexec, hv, k1]
        rfl
      · rcases k5 b x hx with h' | h' | h'
        · exact .inl (hfw.owned h')
        · exact .inl (hin b x h')
        · exact .inr h'
    have room : ∀ {n : Int}, roomy n de.bytes = true → n * de.bytes ≤ 140737488355328 := fun {n} hh => by
      unfold roomy at hh
      rw [M0_eq] at hh
      exact of_decide_eq_true hh
    split at hf
    · simp only [lay1, Option.some.injEq, Prod.mk.injEq] at hf
      obtain ⟨rfl, rfl, rfl⟩ := hf
      simp only [RepV, RepCell] at h1
      have hn : ∀ b x, ¬ rowRange t (.slice none 0 0) b x := fun b x ⟨q, n', cap', e1, _⟩ => by simp at e1
      have := fin (l := []) h1 h (Fewer.refl s) (.inl ⟨rfl, rfl⟩) (fun b x hx => (hn b x hx).elim) (fun b x hx => (hn b x hx).elim) (by simpa using room (hok _ (by simp)))
      simpa using this
    · rename_i r c
      split at hf
      · rename_i t' l' hg
        split at hf
        · rename_i e
          subst e
          simp only [lay1, Option.some.injEq, Prod.mk.injEq] at hf
          obtain ⟨rfl, rfl, rfl⟩ := hf
          simp only [RepV, RepCell] at h1
          obtain ⟨q1, q2, q3, q4, q5, q6⟩ := take_row h hg
          exact fin h1.1 q1 q2 q3 q5 q6 (room (hok _ (by simp)))
        · simp at hf
      · simp at hf
    · rename_i r c hi
      split at hf
      · rename_i t' l' hg
        split at hf
        · rename_i e
          subst e
          cases hop : ownPart r c (ev s y) with
          | true =>
            rw [hop, cond_true] at hf
            simp only [Option.some.injEq, Prod.mk.injEq] at hf
            obtain ⟨rfl, rfl, rfl⟩ := hf
            have hro : rowAt s r c = some ⟨true, t', l'⟩ := by simp [rowAt, hg, rowOf]
            obtain ⟨xr, w', k1, k2, k3, k4⟩ := shift_row (rt := rt) hD h htd hel hz hro h1 hsrc hrows (of_decide_eq_true (hok _ (by simp)))
            refine ⟨xr, w', S, pl, .inl ?_, k2, k3, ⟨k4.mono fun b x _ hx => ⟨r, some c, _, hro, hx⟩, fun f _ b x hx => hx, fun b x hx => .inl hx, fun b x hx => .inl hx, fun b x ⟨r1, j1, hx⟩ => .inl ⟨r1, j1, owned_write hro (by rfl) hx⟩⟩, fun _ => (Stay.refl d pl).toB _⟩
            rw [hexec, k1]
            rfl
          | false =>
          rw [hop, cond_false] at hf
          simp only [lay1, Option.some.injEq, Prod.mk.injEq] at hf
          obtain ⟨rfl, rfl, rfl⟩ := hf
          simp only [RepV, RepCell] at h1
          obtain ⟨q1, q2, q3, q4, q5, q6⟩ := take_row h hg
          obtain ⟨A, n, cap, A', e1, e2, e3, e4, e5, e6, _⟩ := h1.2 ⟨true, t', l'⟩ (by simp [rowAt, hg, rowOf])
          simp only at e4
          obtain rfl := e6 trivial
          rw [e1] at q3 q5 q6
          simp only [Int.toNat_zero, Nat.sub_zero] at e5
          have hle : hi.toNat ≤ l'.length := by omega
          have hsame : ∀ b' x, rowRange t' (.slice A' hi.toNat cap) b' x → rowRange t' (.slice A' n cap) b' x := fun b' x ⟨q, n', cap', e1, e2, e3⟩ => by
            simp only [Value.slice.injEq] at e1
            obtain ⟨rfl, _, rfl⟩ := e1
            exact ⟨_, _, _, rfl, e2, e3⟩
          refine fin (l := l'.take hi.toNat) e5 q1 q2 (q3.take hle) (fun b x hx => q5 b x (hsame b x hx)) (fun b x hx => q6 b x (hsame b x hx)) ?_
          have := room (n := hi + (m.length : Int)) (hok _ (by simp))
          rw [List.length_take, Nat.min_eq_left hle, Int.toNat_of_nonneg e3]
          exact this
        · simp at hf
      · simp at hf
    · simp at hf
  · simp at hf
end
end Go.Ab
namespace Go.Ab
open Go.RowKit
set_option linter.unusedVariables false
set_option linter.unusedSimpArgs false
section
variable {P : Program} {D : TypeId → Option TD} {w w' : World} {S : Fl → Cset} {pl : Pl} {s s' : St} {a : Act} {o : Oper} {d : Nat} {oks : List Bool} {v : PV}
theorem get_splice {α : Type} (l v : List α) (o : Nat) (h : o + v.length ≤ l.length) (j : Nat) : (l.take o ++ (v ++ l.drop (o + v.length)))[j]? = if o ≤ j ∧ j < o + v.length then v[j - o]? else l[j]? := by
  by_cases h1 : j < o
  · rw [if_neg (by omega), List.getElem?_append_left (by simp; omega), List.getElem?_take, if_pos h1]
  · rw [List.getElem?_append_right (by simp; omega)]
    have hl : (l.take o).length = o := by simp; omega
    rw [hl]
    by_cases h2 : j < o + v.length
    · rw [if_pos ⟨by omega, h2⟩, List.getElem?_append_left (by omega)]
    · rw [if_neg (by omega), List.getElem?_append_right (by omega), List.getElem?_drop]
      congr 1
      omega
theorem enc_len (f : Fl) : ∀ (t : Ty) (x : t.val), (enc f t x).length = t.sz'
  | .int _, _ => rfl
  | .bool, _ => rfl
  | .str, _ => rfl
  | .slice _, _ => rfl
  | .pair a b, x => by simp [enc, Ty.sz', enc_len f a, enc_len f b]
  | .unit, _ => rfl
  | .sum _ _, _ => rfl
  | .opq, _ => rfl
theorem op_storeE {e : TypeId} {x y : Operand} {t : TD} {ps cs : List PV} {s1 : St} {r c : Nat} {i : Int} {q : Nat} {o' : Row} {z : o'.t.val} (hD : Dok P D) (ho : o.op = .store e y x) (h : Rep w S pl s a.tmps) (ht : D e = some t) (hc : cells (ev s x) = some ps) (hl : ps.length = t.sz)
    (hy : ev s y = .eptr r c i q) (hm : moves s ps = (cs, s1)) (hro : rowAt s1 r c = some o') (hlen : q + cs.length ≤ o'.t.sz') (hd : dec o'.t (psplice (enc .imm o'.t (rd o'.t o'.l i)) q cs) = some (z, [])) :
    Good P d o a w S pl s .any ⟨s1.t, pc s1.r r c (Row.pv ⟨o'.own, o'.t, o'.l.set i.toNat z⟩)⟩ := by
  obtain ⟨r1, r2⟩ := (h.ev x).cells hc
  obtain ⟨g1, g2, g3, g4⟩ := moves_ok h r1 r2 hm
  have h2 := h.ev y
  rw [hy] at h2
  simp only [RepV, RepCell] at h2
  obtain ⟨i0, i1, b, n0, cap0, e1, e2⟩ := h2.2 o' (g2.row _ _ _ hro)
  rcases (g1.ownAt hro).2 with ⟨e3, _⟩ | ⟨b', cap, c0, el, fz, hv, hle, hh, hsz, hfz, hrow⟩
  · rw [e3] at e1; simp at e1
  rw [hv] at e1
  simp only [Value.slice.injEq, Option.some.injEq, at_, Addr.mk.injEq] at e1
  obtain ⟨⟨rfl, _⟩, _⟩ := e1
  have hi : i.toNat < o'.l.length := by omega
  obtain ⟨row, k1, k2, k3⟩ := hrow i.toNat o'.l[i.toNat] (List.getElem?_eq_getElem hi)
  have hrd : rd o'.t o'.l i = o'.l[i.toNat] := by simp [rd, List.getD, hi]
  rw [hrd] at hd
  have hvl := g3.len
  have hS : ∀ b z, (fun b z => ∃ j, newRng none cs (a.eval x).cells.toList (some j) b z) b z → ¬ owned s1 pl b z ∧ b < w.heap.size := fun b z ⟨k, hk⟩ => by
    refine ⟨(g3.apart k b z hk).1, ?_⟩
    obtain ⟨r, j', hj'⟩ := g4 k b z hk
    exact h.rng_lt hj'
  have g5 := g1.grow (R := fun b z => ∃ j, newRng none cs (a.eval x).cells.toList (some j) b z) hS
  have henc : RepL w S s1 pl (enc .imm o'.t o'.l[i.toNat]) row := enc_rep .imm (.inl rfl) k3
  have hel := enc_len .imm o'.t o'.l[i.toNat]
  have hcl : q + cs.length ≤ (enc .imm o'.t o'.l[i.toNat]).length := by omega
  have hroot : RootL w S s1 pl (addS S (fun b z => ∃ j, newRng none cs (a.eval x).cells.toList (some j) b z) .imm) (psplice (enc .imm o'.t o'.l[i.toNat]) q cs) (row.take q ++ ((a.eval x).cells.toList ++ row.drop (q + (a.eval x).cells.toList.length))) := by
    have hidx : ∀ j, (row.take q ++ ((a.eval x).cells.toList ++ row.drop (q + (a.eval x).cells.toList.length))).getD j undef = if q ≤ j ∧ j < q + cs.length then (a.eval x).cells.toList.getD (j - q) undef else row.getD j undef := fun j => by
      rw [List.getD_eq_getElem?_getD, get_splice _ _ _ (by rw [hvl]; omega), hvl]
      split <;> rw [List.getD_eq_getElem?_getD]
    refine RootL.of ?_ (fun j hj => ?_) (fun j b z hj => ?_)
    · rw [len_psplice _ _ _ hcl]
      simp
      simp at hvl
      omega
    · rw [len_psplice _ _ _ hcl] at hj
      rw [hidx, gt_psplice _ _ _ hcl]
      split
      · exact g3.rep _ (by omega)
      · have hjr : j < row.length := by omega
        have hget : row[j]? = some (row.getD j undef) := by simp [List.getD, hjr]
        have hrv := henc.get j _ hget
        refine ⟨?_, ?_⟩
        · unfold RepRoot
          rw [rowOf_rep hrv]
          exact hrv
        · rw [List.getD_eq_getElem?_getD, List.getElem?_eq_getElem hjr]
          exact k3.one _ (List.getElem_mem hjr)
    · obtain ⟨o2, h1, h2⟩ := hj
      simp only at h2
      rw [hidx] at h2
      rw [gt_psplice _ _ _ hcl] at h1
      split at h1
      · rename_i hin
        rw [if_pos hin] at h2
        exact .inr ⟨_, o2, h1, h2⟩
      · exfalso
        rcases Nat.lt_or_ge j row.length with hjr | hjr
        · have hrv := henc.get j row[j] (List.getElem?_eq_getElem hjr)
          rw [rowOf_rep hrv] at h1
          cases h1
        · rw [gt_big _ _ (by omega)] at h1
          simp [rowOf] at h1
  obtain ⟨v1, v2, f1, f2, f3⟩ := dec_rep (fun b z hb => .inl hb) hroot hd
  simp only [RootL] at f3
  subst f3
  simp only [List.append_nil] at f1
  have hpm : (i.toNat + 1) * o'.t.sz' ≤ cap * o'.t.sz' := Nat.mul_le_mul_right _ (by omega)
  rw [Nat.add_mul] at hpm
  have hrange : ∀ j, j < (a.eval x).cells.toList.length → rowRange o'.t (pl.hv r c) b' (i.toNat * o'.t.sz' + q + j) := fun j hj => ⟨_, _, _, hv, rfl, by omega⟩
  have hfr : Fr (rowRange o'.t (pl.hv r c)) w (w.setCells b' (i.toNat * o'.t.sz' + q) (a.eval x).cells.toList) := Fr.setCells _ _ w hrange
  have himm : ∀ b x1 u, addS S (fun b z => ∃ j, newRng none cs (a.eval x).cells.toList (some j) b z) .imm b x1 → w.cell? (at_ b x1) = some u → (w.setCells b' (i.toNat * o'.t.sz' + q) (a.eval x).cells.toList).cell? (at_ b x1) = some u := fun b x1 u hS1 hu =>
    hfr.cell (fun hO => g5.apart b x1 (g5.sub b x1 hS1) ⟨r, some c, o', hro, hO⟩) hu
  obtain ⟨c', q1, q2, q3, q5, q4⟩ := setCells_heap b' (a.eval x).cells.toList (i.toNat * o'.t.sz' + q) w c0 el fz hh (by omega)
  have hsl : (o'.l.set i.toNat z).length = o'.l.length := by simp
  have hown : OwnRow (w.setCells b' (i.toNat * o'.t.sz' + q) (a.eval x).cells.toList) (addS S (fun b z => ∃ j, newRng none cs (a.eval x).cells.toList (some j) b z) .imm) o'.t (o'.l.set i.toNat z) (pl.hv r c) := by
    refine .inr ⟨b', cap, c', el, fz, by rw [hsl]; exact hv, by omega, q1, by omega, hfz, fun k x1 hx1 => ?_⟩
    have hkl : k < o'.l.length := by rw [← hsl]; exact (List.getElem?_eq_some_iff.1 hx1).1
    by_cases hk : k = i.toNat
    · subst hk
      rw [List.getElem?_set_self hkl] at hx1
      obtain rfl := Option.some.inj hx1
      refine ⟨v1, f2.len, fun j u hu => ?_, RepC.mono himm (fun _ _ h => h) f2⟩
      rw [← f1, get_splice _ _ _ (by rw [hvl]; omega)] at hu
      split at hu
      · have := q4 _ u hu
        rwa [show i.toNat * o'.t.sz' + q + (j - q) = i.toNat * o'.t.sz' + j by omega] at this
      · rename_i hn
        have hu2 := k2 j u hu
        by_cases hjq : j < q
        · rw [q3 _ (by omega)]
          exact hu2
        · have := q5 (j - (q + (a.eval x).cells.toList.length))
          rw [show i.toNat * o'.t.sz' + q + (a.eval x).cells.toList.length + (j - (q + (a.eval x).cells.toList.length)) = i.toNat * o'.t.sz' + j by omega] at this
          rw [this]
          exact hu2
    · rw [List.getElem?_set_ne (by omega)] at hx1
      obtain ⟨row', p1, p2, p3⟩ := hrow k x1 hx1
      refine ⟨row', p1, fun j u hu => ?_, RepC.mono himm (fun _ _ h => h) (RepC.mono (fun _ _ _ _ h => h) (fun _ _ h => .inl h) p3)⟩
      have hj : j < o'.t.sz' := by rw [← p1]; exact (List.getElem?_eq_some_iff.1 hu).1
      have hu2 := p2 j u hu
      rcases Nat.lt_or_gt_of_ne hk with hlt | hgt
      · have : (k + 1) * o'.t.sz' ≤ i.toNat * o'.t.sz' := Nat.mul_le_mul_right _ (by omega)
        rw [Nat.add_mul] at this
        rw [q3 _ (by omega)]
        exact hu2
      · have : (i.toNat + 1) * o'.t.sz' ≤ k * o'.t.sz' := Nat.mul_le_mul_right _ (by omega)
        rw [Nat.add_mul] at this
        have h5 := q5 (k * o'.t.sz' + j - (i.toNat * o'.t.sz' + q + (a.eval x).cells.toList.length))
        rw [show i.toNat * o'.t.sz' + q + (a.eval x).cells.toList.length + (k * o'.t.sz' + j - (i.toNat * o'.t.sz' + q + (a.eval x).cells.toList.length)) = k * o'.t.sz' + j by omega] at h5
        rw [h5]
        exact hu2
  have hres := g5.writeRow (o' := ⟨o'.own, o'.t, o'.l.set i.toNat z⟩) hro rfl hsl hfr hown
  have hlv : (a.eval x).cells.toList.length = t.sz := by rw [r1.len, hl]
  have hcell : ∀ x1, x1 < c0.size → (w.cell? ⟨b', x1, none⟩).isSome = true := fun x1 hx => by
    unfold World.cell?
    simp only [hh]
    simp [hx]
  have hrun := run_storeV (w := w) (hD e t ht) (b := b') (q := i.toNat * o'.t.sz' + q) hlv r2 (fun j hj => hcell _ (by omega)) (fun j hj => by
    unfold World.frozen?
    simp only [hh]
    have := hfz (i.toNat * o'.t.sz' + q + j) (by omega)
    simpa using this)
  refine ⟨undef, _, _, pl, .inr ⟨?_, rfl⟩, hres, by simp [RepV], ?_, fun _ => (Stay.refl d pl).toB _⟩
  · simp only [at_] at hrun e2
    simp [execOp, ho, Instr.storeAt, Instr.sureAddr, e2, at_, hrun]
  · refine ⟨hfr.mono fun b x1 _ hx => g2.owned ⟨r, some c, o', hro, hx⟩, fun f _ b x1 hx => .inl hx, fun b x1 hx => ?_, fun b x1 hx => ?_, fun b x1 ⟨r1, j1, hx⟩ => .inl (g2.owned ⟨r1, j1, owned_write hro (by rfl) hx⟩)⟩
    · rcases hx with hx | ⟨j, hj⟩
      · exact .inl hx
      · exact .inr (.inl (g4 j b x1 hj))
    · rcases hx with hx | ⟨j, hj⟩
      · exact .inl hx
      · exact .inr (.inl (g4 j b x1 hj))
end
end Go.Ab
namespace Go.Ab
open Go.RowKit
set_option linter.unusedVariables false
set_option linter.unusedSimpArgs false
section
variable {P : Program} {D : TypeId → Option TD} {w w' : World} {S : Fl → Cset} {pl : Pl} {s s' : St} {a : Act} {o : Oper} {d : Nat} {oks : List Bool} {v : PV}
theorem setCell_same {b o : Nat} {v : Value} (h : w.cell? (at_ b o) = some v) : w.setCell (at_ b o) v = w := by
  have hh : w.heap.modify b (fun x => match x with
      | .cells cells e frozen => .cells (cells.setIfInBounds o v) e frozen
      | x => x) = w.heap := by
    apply Array.ext_getElem?
    intro i
    rw [Array.getElem?_modify]
    split
    · rename_i e
      subst e
      unfold World.cell? at_ at h
      simp only at h
      cases hb : w.heap[b]? with
      | none => rfl
      | some x =>
        rw [hb] at h
        cases x with
        | cells c e f =>
          simp at h
          simp only [Option.map_some]
          congr 1
          congr 1
          apply Array.ext_getElem?
          intro j
          rw [Array.getElem?_setIfInBounds]
          split
          · rename_i e2
            subst e2
            split
            · exact h.symm
            · rw [Array.getElem?_eq_none (by omega)]
          · rfl
        | _ => rfl
    · rfl
  unfold World.setCell at_
  simp only
  cases w
  simp only at hh ⊢
  congr 1
theorem setCells_same {b : Nat} : ∀ (vs : List Value) (o : Nat), (∀ (j : Nat) (u : Value), vs[j]? = some u → w.cell? (at_ b (o + j)) = some u) → w.setCells b o vs = w
  | [], o, _ => rfl
  | v :: vs, o, h => by
    have h0 := h 0 v rfl
    show (w.setCell (at_ b o) v).setCells b (o + 1) vs = w
    rw [setCell_same (by simpa using h0)]
    exact setCells_same vs (o + 1) fun j u hu => by
      have := h (j + 1) u (by simpa using hu)
      rwa [show o + (j + 1) = o + 1 + j by omega] at this
theorem setCells_one {b : Nat} : ∀ (vs : List Value) (o i : Nat) (w : World) (v : Value), vs[i]? = some v → (∀ (j : Nat) (u : Value), j ≠ i → vs[j]? = some u → w.cell? (at_ b (o + j)) = some u) → w.setCells b o vs = w.setCell (at_ b (o + i)) v
  | [], o, i, w, v, h, _ => by simp at h
  | u :: vs, o, 0, w, v, hv, h => by
    simp only [List.getElem?_cons_zero, Option.some.injEq] at hv
    subst hv
    show (w.setCell (at_ b o) u).setCells b (o + 1) vs = _
    refine setCells_same vs (o + 1) fun j u' hu => ?_
    rw [World.cell?_setCell_other _ _ _ _ (by simp [at_]; omega)]
    have := h (j + 1) u' (by omega) (by simpa using hu)
    rwa [show o + (j + 1) = o + 1 + j by omega] at this
  | u :: vs, o, i + 1, w, v, hv, h => by
    have h0 := h 0 u (by omega) rfl
    show (w.setCell (at_ b o) u).setCells b (o + 1) vs = _
    rw [setCell_same (by simpa using h0), setCells_one vs (o + 1) i w v (by simpa using hv) fun j u' hj hu => by
      have := h (j + 1) u' (by omega) (by simpa using hu)
      rwa [show o + (j + 1) = o + 1 + j by omega] at this]
    rw [show o + 1 + i = o + (i + 1) by omega]
theorem putAt_len (i : Int) (v : PV) : ∀ (j : Nat) (l : List PV), (putAt i v j l).length = l.length
  | _, [] => rfl
  | j, x :: l => by simp [putAt, putAt_len i v (j + 1) l]
theorem putAt_rep {i : Int} {p : PV} {u : Value} (hp : RepV w S s pl p u) : ∀ (l : List PV) (j : Nat) (vs : List Value), RepL w S s pl l vs → (0 ≤ i) → RepL w S s pl (putAt i p j l) (if j ≤ i.toNat then vs.set (i.toNat - j) u else vs)
  | [], j, vs, h, hi => by
    simp only [RepL] at h
    subst h
    simp [putAt, RepL]
  | x :: l, j, vs, h, hi => by
    simp only [RepL] at h
    obtain ⟨v0, us, rfl, h1, h2⟩ := h
    have ih := putAt_rep hp l (j + 1) us h2 hi
    simp only [putAt, RepL]
    by_cases hj : j ≤ i.toNat
    · rw [if_pos hj]
      by_cases he : i.toNat = j
      · rw [if_neg (by omega)] at ih
        refine ⟨u, us, by rw [he]; simp, ?_, ih⟩
        have : (i == (j : Int)) = true := by simp; omega
        rw [this]
        exact mixC_true hp
      · rw [if_pos (by omega)] at ih
        refine ⟨v0, us.set (i.toNat - (j + 1)) u, ?_, ?_, ih⟩
        · rw [show i.toNat - j = (i.toNat - (j + 1)) + 1 by omega]
          simp
        · have : (i == (j : Int)) = false := by simp; omega
          rw [this]
          exact mixC_false h1
    · rw [if_neg hj]
      rw [if_neg (by omega)] at ih
      refine ⟨v0, us, rfl, ?_, ih⟩
      have : (i == (j : Int)) = false := by simp; omega
      rw [this]
      exact mixC_false h1
theorem op_storeA {e : TypeId} {x y : Operand} {t : TD} {p : PV} {r c n : Nat} {i : Int} (hD : Dok P D) (ho : o.op = .store e y x) (h : Rep w S pl s a.tmps) (ht : D e = some t) (hc : cells (ev s x) = some [p]) (hl : 1 = t.sz)
    (hy : ev s y = .aptr r c n 1 i) (hlen : c + n ≤ (gr s.r r).length) : Good P d o a w S pl s .any (rewrite s r c (putAt i p 0 (seen r c (ptake n (pdrop c (gr s.r r))))) psplice n) := by
  obtain ⟨r1, r2⟩ := (h.ev x).cells hc
  have h2 := h.ev y
  rw [hy] at h2
  simp only [RepV, RepCell, Nat.mul_one] at h2
  obtain ⟨b, q, hmem, i0, i1, e1⟩ := h2
  obtain ⟨u, hu, hpu⟩ : ∃ u, (a.eval x).cells.toList = [u] ∧ RepV w S s pl p u := by
    simp only [RepL] at r1
    obtain ⟨u, us, e, h1, rfl⟩ := r1
    exact ⟨u, e, h1⟩
  have hpl : (ptake n (pdrop c (gr s.r r))).length = n := by rw [ptake_eq, pdrop_eq]; simp; omega
  let old : List Value := (List.range n).map fun j => pl.hv r (c + j)
  have hold : old.length = n := by simp [old]
  have holdg : ∀ (j : Nat) (u : Value), old[j]? = some u → j < n ∧ u = pl.hv r (c + j) := fun j u hj => by
    have hjn : j < n := by rw [← hold]; exact (List.getElem?_eq_some_iff.1 hj).1
    simp [old, hjn] at hj
    exact ⟨hjn, hj.symm⟩
  have hseen := seen_rep h r (ptake n (pdrop c (gr s.r r))) c old (by rw [hold, hpl]) (fun j hj => by
    rw [hpl] at hj
    refine ⟨?_, by omega⟩
    rw [ptake_eq, pdrop_eq, gt_take, gt_drop, if_pos hj]) (fun j u hj => (holdg j u hj).2)
  have hput := putAt_rep hpu _ 0 old hseen i0
  simp only [Nat.zero_le, if_true, Nat.sub_zero] at hput
  have hin : i.toNat < n := by omega
  have hone : ∀ z ∈ old.set i.toNat u, z.oneCell' = true := fun z hz => by
    rcases List.mem_or_eq_of_mem_set hz with hz | rfl
    · obtain ⟨j, hj⟩ := List.getElem?_of_mem hz
      obtain ⟨hjn, rfl⟩ := holdg j z hj
      exact (h.roots r (c + j) (by omega)).2
    · exact r2 _ (by rw [hu]; simp)
  have hf := Float.of_repL hput hone
  have hsl : (seen r c (ptake n (pdrop c (gr s.r r)))).length = n := by rw [← hseen.len, hold]
  have hcl : (putAt i p 0 (seen r c (ptake n (pdrop c (gr s.r r))))).length = n := by rw [putAt_len, hsl]
  obtain ⟨pl', k1, k2, k5⟩ := h.rewrite hf hmem (by rw [hcl]; exact hlen)
  rw [hcl] at k1 k2 k5
  have hcell : ∀ j, j < n → w.cell? (at_ b (q + c + j)) = some (pl.hv r (c + j)) ∧ w.frozen? (at_ b (q + c + j)) = false := fun j hj => by
    have := h.mem r b q (c + j) hmem (by omega)
    rwa [← Nat.add_assoc] at this
  have hw : w.setCells b (q + c) (old.set i.toNat u) = w.setCells b (q + c + i.toNat) [u] := by
    rw [setCells_one (old.set i.toNat u) (q + c) i.toNat w u (by rw [List.getElem?_set_self (by omega)]) (fun j u' hj hu' => by
      rw [List.getElem?_set_ne (by omega)] at hu'
      obtain ⟨hjn, rfl⟩ := holdg j u' hu'
      exact (hcell j hjn).1)]
    rfl
  rw [hw] at k1
  have hrun := run_storeV (w := w) (v := a.eval x) (hD e t ht) (b := b) (q := q + c + i.toNat) (by rw [hu]; exact hl) r2 (fun j hj => by
    rw [hu] at hj
    obtain rfl : j = 0 := by simpa using hj
    have := (hcell _ hin).1
    unfold at_ at this
    simp [this]) (fun j hj => by
    rw [hu] at hj
    obtain rfl : j = 0 := by simpa using hj
    exact (hcell _ hin).2)
  rw [hu] at hrun
  refine ⟨undef, _, S, pl', .inr ⟨?_, rfl⟩, k1, by simp [RepV], ?_, fun _ => (by rw [ho]; simp only [bxS, hy]; exact k5 d)⟩
  · simp [execOp, ho, Instr.storeAt, Instr.sureAddr, e1, hrun]
  · refine ⟨Fr.setCells _ _ w fun j hj => ⟨r, none, q, hmem, by omega, ?_⟩, fun _ _ _ _ h => h, fun _ _ h => .inl h, fun _ _ h => .inl h, fun b' x' hx' => ?_⟩
    · simp at hj
      omega
    · rcases k2 b' x' hx' with h' | ⟨j, o2, h1, _⟩
      · exact .inl h'
      · exfalso
        rcases Nat.lt_or_ge j n with hj | hj
        · have hrv := hput.get j _ (List.getElem?_eq_getElem (by simp [hold]; exact hj))
          rw [rowOf_rep hrv] at h1
          cases h1
        · rw [gt_big _ _ (by rw [hcl]; exact hj)] at h1
          simp [rowOf] at h1
end
end Go.Ab
namespace Go.Ab
open Go.RowKit
set_option linter.unusedVariables false
set_option linter.unusedSimpArgs false
section
variable {P : Program} {D : TypeId → Option TD} {w w' : World} {S : Fl → Cset} {pl : Pl} {s s' : St} {a : Act} {o : Oper} {d : Nat} {oks : List Bool} {v : PV}
theorem TDok.has_info {t : TypeId} {td : TD} (h : TDok P D t td) : ∃ i, P.info? t = some i ∧ i.size = td.sz := by
  obtain ⟨i, h1, h2, _⟩ := h.info
  exact ⟨i, h1, h2⟩
theorem fill_ok (h : Rep w S pl s a.tmps) {place : Nat → Option (Nat × Nat)} {place' : Nat → Option (Nat × Nat)} (hp : ∀ i q, place i = some q → place' i = some q) : ∀ (l : List (Nat × Operand)) (cs cs' : List PV) (vs : Array Value),
    RepL w S s pl cs vs.toList → (∀ u ∈ vs.toList, u.oneCell' = true) → fillS place s l cs = some cs' →
    ∃ vs', Instr.fill place' vs (l.map fun q => (q.1, a.eval q.2)) = some vs' ∧ RepL w S s pl cs' vs'.toList ∧ ∀ u ∈ vs'.toList, u.oneCell' = true
  | [], cs, cs', vs, hr, h1, hf => by
    simp only [fillS, Option.some.injEq] at hf
    subst hf
    exact ⟨vs, rfl, hr, h1⟩
  | (i, x) :: l, cs, cs', vs, hr, h1, hf => by
    simp only [fillS] at hf
    cases hpi : place i with
    | none => simp [hpi] at hf
    | some q =>
      obtain ⟨off, z⟩ := q
      simp only [hpi] at hf
      cases hc : cells (ev s x) with
      | none => simp [hc] at hf
      | some ps =>
        simp only [hc] at hf
        split at hf
        · rename_i hh
          obtain ⟨hz, hle⟩ := hh
          rw [plen_eq] at hz hle
          obtain ⟨r1, r2⟩ := (h.ev x).cells hc
          have hl := hr.len
          have hvl := r1.len
          have hsz : (a.eval x).cells.size = z := by rw [← hz, ← hvl]; simp
          have hvs : vs.size = cs.length := by simpa using hl
          obtain ⟨g1, g2⟩ := Go.Great.foldl_set off (a.eval x).cells.toList 0 vs
          have hget : ∀ k, (((a.eval x).cells.toList.zipIdx 0).foldl (fun cs (x : Value × Nat) => cs.setIfInBounds (off + x.2) x.1) vs).toList[k]? = if off ≤ k ∧ k < off + ps.length then (a.eval x).cells.toList[k - off]? else vs.toList[k]? := fun k => by
            have := g2 k
            simp only [Nat.add_zero] at this
            rw [Array.getElem?_toList, this, hvl]
            by_cases hk : off ≤ k ∧ k < off + ps.length
            · rw [if_pos ⟨hk.1, hk.2, by omega⟩, if_pos hk]
            · rw [if_neg (fun h => hk ⟨h.1, h.2.1⟩), if_neg hk]
              simp
          have hr' : RepL w S s pl (psplice cs off ps) (((a.eval x).cells.toList.zipIdx 0).foldl (fun cs (x : Value × Nat) => cs.setIfInBounds (off + x.2) x.1) vs).toList := by
            refine RepL.of ?_ fun k u hu => ?_
            · rw [len_psplice _ _ _ (by omega), Array.length_toList, g1, hvs]
            · rw [hget] at hu
              rw [gt_psplice _ _ _ (by omega)]
              split at hu
              · rename_i hk; rw [if_pos hk]; exact r1.get _ _ hu
              · rename_i hk; rw [if_neg hk]; exact hr.get _ _ hu
          have h1' : ∀ u ∈ (((a.eval x).cells.toList.zipIdx 0).foldl (fun cs (x : Value × Nat) => cs.setIfInBounds (off + x.2) x.1) vs).toList, u.oneCell' = true := fun u hu => by
            obtain ⟨k, hk⟩ := List.getElem?_of_mem hu
            rw [hget] at hk
            split at hk
            · exact r2 _ (List.mem_of_getElem? hk)
            · exact h1 _ (List.mem_of_getElem? hk)
          obtain ⟨vs', q1, q2, q3⟩ := fill_ok h hp l _ cs' _ hr' h1' hf
          refine ⟨vs', ?_, q2, q3⟩
          rw [← q1]
          simp only [List.map_cons]
          rw [Instr.fill, hp _ _ hpi]
          simp only [hsz]
          rw [if_neg (by simp; omega)]
          congr 1
          rw [← Array.foldl_toList]
          simp
        · simp at hf
theorem op_build {e : TypeId} {ps : Array (Nat × Operand)} {t : TD} {offs : List (Nat × TypeId)} {cs : List PV} (hD : Dok P D) (ho : o.op = .build e ps) (h : Rep w S pl s a.tmps) (ht : D e = some t) (hk : t.k = .struct offs)
    (hf : fillS (placeS D offs) s ps.toList (zero t.row) = some cs) : Quiet P o a w S pl s (.agg cs) := by
  obtain ⟨fs, g1, g2, g3, _⟩ := (hD e t ht).struct hk w
  obtain ⟨i, hi, _, _, z, hz1, hz2, _⟩ := (hD e t ht).info
  obtain ⟨z1, z2⟩ := zero_rep (w := w) (S := S) (s := s) (pl := pl) hz2
  have hpl : ∃ places, fs.toList.mapM (fun f => (P.info? f.type).map fun i => (f.offset, i.size)) = some places ∧ ∀ i q, placeS D offs i = some q → places[i]? = some q := by
    have hall := (hD e t ht).flds offs hk
    rw [g3] at hall ⊢
    clear g1 g2 g3 hf hk
    generalize fs.toList = l at *
    induction l with
    | nil => exact ⟨[], rfl, fun i q hq => by simp [placeS] at hq⟩
    | cons f l ih =>
      obtain ⟨pls, i1, i2⟩ := ih (fun x hx => hall x (by simp at hx ⊢; exact .inr hx))
      have hsome := hall (f.offset, f.type) (by simp)
      obtain ⟨d', hd'⟩ := Option.isSome_iff_exists.1 hsome
      simp only at hd'
      obtain ⟨inf, hinf, hs⟩ := (hD _ _ hd').has_info
      refine ⟨(f.offset, inf.size) :: pls, by simp [List.mapM_cons, hinf, i1], fun i q hq => ?_⟩
      cases i with
      | zero =>
        simp only [placeS, List.map_cons, List.getElem?_cons_zero, hd', Option.some.injEq] at hq
        subst hq
        simp [hs]
      | succ i => simpa using i2 i q (by simpa [placeS] using hq)
  obtain ⟨places, hm, hpp⟩ := hpl
  obtain ⟨vs', q1, q2, q3⟩ := fill_ok h (place' := fun i => places.toArray[i]?) (fun i q hq => by simpa using hpp i q hq) ps.toList _ _ z.cells z1 z2 hf
  refine ⟨.agg vs', ?_, by simp only [RepV]; exact ⟨vs', rfl, q2, q3⟩⟩
  have hb : P.built e (Array.map (fun x => (x.fst, a.eval x.snd)) ps).toList = some vs' := by
    unfold Program.built
    simp only [hi, g2, hz1, hm]
    rw [← q1]
    simp
  have := run_build (P := P) w e (Array.map (fun x => (x.fst, a.eval x.snd)) ps) vs' hb
  simp [execOp, ho, this]
theorem op_buildA {e e' : TypeId} {n : Nat} {ps : Array (Nat × Operand)} {t t' : TD} {cs : List PV} (hD : Dok P D) (ho : o.op = .build e ps) (h : Rep w S pl s a.tmps) (ht : D e = some t) (hk : t.k = .arr n e') (ht' : D e' = some t')
    (hf : fillS (fun i => some (i * t'.sz, t'.sz)) s ps.toList (zero t.row) = some cs) : Quiet P o a w S pl s (.agg cs) := by
  have g2 := ((hD e t ht).arr hk w).2
  obtain ⟨i, hi, _, _, z, hz1, hz2, _⟩ := (hD e t ht).info
  obtain ⟨z1, z2⟩ := zero_rep (w := w) (S := S) (s := s) (pl := pl) hz2
  obtain ⟨inf, hinf, hs⟩ := (hD _ _ ht').has_info
  obtain ⟨vs', q1, q2, q3⟩ := fill_ok h (place' := fun i => some (i * t'.sz, t'.sz)) (fun i q hq => hq) ps.toList _ _ z.cells z1 z2 hf
  refine ⟨.agg vs', ?_, by simp only [RepV]; exact ⟨vs', rfl, q2, q3⟩⟩
  have hb : P.built e (Array.map (fun x => (x.fst, a.eval x.snd)) ps).toList = some vs' := by
    unfold Program.built
    simp only [hi, g2, hz1, hinf, hs]
    rw [← q1]
    simp
  have := run_build (P := P) w e (Array.map (fun x => (x.fst, a.eval x.snd)) ps) vs' hb
  simp [execOp, ho, this]
theorem isB_ok (hD : Dok P D) {t : TypeId} (h : isB D t = true) : P.underlying t = some .bool := by
  unfold isB at h
  split at h
  · rename_i z r b g hd
    obtain ⟨u, h1, h2⟩ := (hD t _ hd).und
    cases u <;> simp only [TKok, reduceCtorEq, false_and, and_false, exists_false] at h2
    exact h1
  · simp at h
theorem isSl_ok (hD : Dok P D) {t : TypeId} (h : isSl D t = true) : ∃ e, P.underlying t = some (.slice e) := by
  unfold isSl at h
  split at h
  · rename_i e z r b g hd
    exact ⟨e, (hD t _ hd).und_slice rfl⟩
  · simp at h
theorem op_boolEq {t ty : TypeId} {x y : Operand} {m n : Bool} (hD : Dok P D) (ho : o.op = .binOp .eql t x y ty) (h : Rep w S pl s a.tmps) (hx : ev s x = .bool m) (hy : ev s y = .bool n) (hb : isB D t = true) : Quiet P o a w S pl s (.bool (m == n)) := by
  have h1 := h.ev x
  have h2 := h.ev y
  rw [hx] at h1
  rw [hy] at h2
  simp only [RepV, RepCell] at h1 h2
  have hg : (eqGuard .eql t x y (.bool m) (.bool n)).run P w = .ok () w := eqGuard_plain (by simp) (by simp)
  exact ⟨.bool (m == n), by simp only [execOp, ho, h1, h2, binOp, Sem.run_bind, hg, Result.andThen_ok, run_equal_bool w t m n (isB_ok hD hb), Sem.run_pure], by simp [RepV, RepCell]⟩
theorem op_boolNe {t ty : TypeId} {x y : Operand} {m n : Bool} (hD : Dok P D) (ho : o.op = .binOp .neq t x y ty) (h : Rep w S pl s a.tmps) (hx : ev s x = .bool m) (hy : ev s y = .bool n) (hb : isB D t = true) : Quiet P o a w S pl s (.bool (!(m == n))) := by
  have h1 := h.ev x
  have h2 := h.ev y
  rw [hx] at h1
  rw [hy] at h2
  simp only [RepV, RepCell] at h1 h2
  have hg : (eqGuard .neq t x y (.bool m) (.bool n)).run P w = .ok () w := eqGuard_plain (by simp) (by simp)
  exact ⟨.bool (!(m == n)), by simp only [execOp, ho, h1, h2, binOp, Sem.run_bind, hg, Result.andThen_ok, run_equal_bool w t m n (isB_ok hD hb), Sem.run_pure], by simp [RepV, RepCell]⟩
theorem op_nilEq {t ty : TypeId} {x y : Operand} (hD : Dok P D) (ho : o.op = .binOp .eql t x y ty) (h : Rep w S pl s a.tmps) (hx : ev s x = .nil) (hy : ev s y = .nil) (hb : isSl D t = true) : Quiet P o a w S pl s (.bool true) := by
  have h1 := h.ev x
  have h2 := h.ev y
  rw [hx] at h1
  rw [hy] at h2
  simp only [RepV, RepCell] at h1 h2
  obtain ⟨e, he⟩ := isSl_ok hD hb
  have hg : (eqGuard .eql t x y (.slice none 0 0) (.slice none 0 0)).run P w = .ok () w := eqGuard_plain (by simp) (by simp)
  exact ⟨.bool true, by simp [execOp, ho, h1, h2, binOp, hg, run_equal_slice_nil w t e none 0 0 he], by simp [RepV, RepCell]⟩
theorem op_isnil {t ty : TypeId} {x y : Operand} {f : Fl} {q : Ty} {l : List q.val} (hD : Dok P D) (ho : o.op = .binOp .eql t x y ty) (h : Rep w S pl s a.tmps) (hx : ev s x = .sl f q l) (hy : ev s y = .nil) (hb : isSl D t = true) : Quiet P o a w S pl s (.isnil l.isEmpty) := by
  have h1 := h.ev x
  have h2 := h.ev y
  rw [hx] at h1
  rw [hy] at h2
  obtain ⟨e, he⟩ := isSl_ok hD hb
  have key : ∃ A n c, a.eval x = .slice A n c ∧ (A.isNone = true → l.isEmpty = true) := by
    cases f <;> simp only [RepV, RepCell] at h1
    all_goals
      obtain ⟨A, cap, e1, _, h3⟩ := h1
      simp only [List.cons.injEq, and_true] at e1
      refine ⟨A, _, _, e1, fun hn => ?_⟩
      cases l with
      | nil => rfl
      | cons z l =>
        obtain ⟨q, rfl, _⟩ := h3 (by simp)
        simp at hn
  obtain ⟨A, n, c, e1, hA⟩ := key
  simp only [RepV, RepCell] at h2
  have hg : (eqGuard .eql t x y (.slice A n c) (.slice none 0 0)).run P w = .ok () w := eqGuard_plain (by simp) (by simp)
  exact ⟨.bool A.isNone, by simp [execOp, ho, e1, h2, binOp, hg, run_equal_slice_nil w t e A n c he], by simp only [RepV, RepCell]; exact ⟨_, rfl, hA⟩⟩
theorem eqF_ok {xs ys : Array Value} {ps qs : List PV} (hD : Dok P D) (hx : RepL w S s pl ps xs.toList) (hy : RepL w S s pl qs ys.toList) : ∀ (l : List (Nat × TypeId)) (fs : List Field) (r : Bool), l = fs.map (fun f => (f.offset, f.type)) → (∀ f ∈ fs, f.name ≠ "_") →
    eqF D ps qs l = some r → (Op.eqFields 9999 xs ys fs).run P w = .ok r w
  | [], [], r, _, _, h => by
    simp only [eqF, Option.some.injEq] at h
    subst h
    rfl
  | [], _ :: _, r, e, _, h => by simp at e
  | _ :: _, [], r, e, _, h => by simp at e
  | (off, t) :: l, f :: fs, r, e, hn, h => by
    simp only [List.map_cons, List.cons.injEq, Prod.mk.injEq] at e
    obtain ⟨⟨rfl, rfl⟩, e⟩ := e
    have one : leaf D f.type (gt ps f.offset) (gt qs f.offset) = true → ∃ u v, (part f.type xs f.offset).run P w = .ok u w ∧ (part f.type ys f.offset).run P w = .ok v w ∧ (Op.equalIn 9999 f.type u v).run P w = .ok (eqV (gt ps f.offset) (gt qs f.offset)) w := fun hl => by
      have hany : ∀ {zs : Array Value} {rs : List PV}, RepL w S s pl rs zs.toList → gt rs f.offset ≠ .any → ∃ u, zs[f.offset]? = some u ∧ RepV w S s pl (gt rs f.offset) u := fun {zs rs} hz hne => by
        have hlt : f.offset < rs.length := by
          rcases Nat.lt_or_ge f.offset rs.length with h' | h'
          · exact h'
          · exact absurd (gt_big _ _ h') hne
        have hzl := hz.len
        have hlt' : f.offset < zs.toList.length := by omega
        refine ⟨zs.toList[f.offset], ?_, hz.get _ _ (List.getElem?_eq_getElem hlt')⟩
        rw [← Array.getElem?_toList, List.getElem?_eq_getElem hlt']
      have hpart : ∀ {zs : Array Value} {u : Value} {td : TD}, D f.type = some td → td.agg = false → zs[f.offset]? = some u → (part f.type zs f.offset).run P w = .ok u w := fun {zs u td} hd ha hu => by
        have hs := (hD _ _ hd).run_agg w
        simp [part, hs, ha, hu]
      unfold leaf at hl
      cases hd : D f.type with
      | none => simp [hd] at hl
      | some td =>
        obtain ⟨k, sz, row, by', ag⟩ := td
        obtain ⟨u0, hu0, hk⟩ := (hD _ _ hd).und
        simp only [hd] at hl
        cases k with
        | int k =>
          simp only at hl
          split at hl
          · rename_i k1 m k2 n hp hq
            simp only [beq_iff_eq] at hl
            subst hl
            obtain ⟨u, hu, hru⟩ := hany hx (by rw [hp]; simp)
            obtain ⟨v, hv, hrv⟩ := hany hy (by rw [hq]; simp)
            rw [hp] at hru
            rw [hq] at hrv
            simp only [RepV, RepCell] at hru hrv
            have hag : ag = false := by cases u0 <;> simp [TKok] at hk <;> exact hk.2
            refine ⟨u, v, hpart hd hag hu, hpart hd hag hv, ?_⟩
            rw [hp, hq, hru, hrv]
            exact run_equalIn_int w 9998 f.type k1 k m n ((hD _ _ hd).und_int rfl)
          · simp at hl
        | bool =>
          simp only at hl
          split at hl
          · rename_i m n hp hq
            obtain ⟨u, hu, hru⟩ := hany hx (by rw [hp]; simp)
            obtain ⟨v, hv, hrv⟩ := hany hy (by rw [hq]; simp)
            rw [hp] at hru
            rw [hq] at hrv
            simp only [RepV, RepCell] at hru hrv
            have hag : ag = false := by cases u0 <;> simp [TKok] at hk <;> exact hk
            refine ⟨u, v, hpart hd hag hu, hpart hd hag hv, ?_⟩
            rw [hp, hq, hru, hrv]
            exact run_equalIn_bool w 9998 f.type m n (isB_ok hD (by simp [isB, hd]))
          · simp at hl
        | str =>
          simp only at hl
          split at hl
          · rename_i m n hp hq
            obtain ⟨u, hu, hru⟩ := hany hx (by rw [hp]; simp)
            obtain ⟨v, hv, hrv⟩ := hany hy (by rw [hq]; simp)
            rw [hp] at hru
            rw [hq] at hrv
            simp only [RepV, RepCell] at hru hrv
            have hag : ag = false := by cases u0 <;> simp [TKok] at hk <;> exact hk
            refine ⟨u, v, hpart hd hag hu, hpart hd hag hv, ?_⟩
            rw [hp, hq, hru, hrv]
            exact run_equalIn_string w 9998 f.type m n ((hD _ _ hd).und_str rfl)
          · simp at hl
        | _ => simp at hl
    have hname := hn f (by simp)
    have tail : ∀ r', (Op.eqFields 9999 xs ys fs).run P w = .ok r' w → leaf D f.type (gt ps f.offset) (gt qs f.offset) = true → (Op.eqFields 9999 xs ys (f :: fs)).run P w = .ok (eqV (gt ps f.offset) (gt qs f.offset) && r') w := fun r' hr hl => by
      obtain ⟨u, v, h1, h2, h3⟩ := one hl
      unfold Op.eqFields
      rw [if_pos hname]
      simp only [Sem.run_bind, h1, h2, h3, Result.andThen_ok]
      cases eqV (gt ps f.offset) (gt qs f.offset)
      · simp
      · simp [hr]
    cases l with
    | nil =>
      have hfs : fs = [] := by cases fs with
        | nil => rfl
        | cons _ _ => simp at e
      subst hfs
      simp only [eqF] at h
      cases hl : leaf D f.type (gt ps f.offset) (gt qs f.offset) with
      | false => simp [hl] at h
      | true =>
        simp only [hl, cond_true, Option.some.injEq] at h
        subst h
        have := tail true rfl hl
        simpa using this
    | cons q l =>
      simp only [eqF] at h
      cases hl : leaf D f.type (gt ps f.offset) (gt qs f.offset) with
      | false => simp [hl] at h
      | true =>
        simp only [hl, cond_true] at h
        cases hr : eqF D ps qs (q :: l) with
        | none => simp [hr] at h
        | some r' =>
          simp only [hr, Option.some.injEq] at h
          subst h
          exact tail r' (eqF_ok hD hx hy (q :: l) fs r' e (fun f hf => hn f (by simp [hf])) hr) hl
theorem plain_of_leaf {t : TypeId} {p q : PV} (h : leaf D t p q = true) : plain D t = true := by
  unfold leaf at h
  unfold plain
  split at h
  · rename_i hd; first | rw [hd] | rfl
  · rename_i hd; first | rw [hd] | rfl
  · rename_i hd; first | rw [hd] | rfl
  · simp at h
theorem eqF_leaf {ps qs : List PV} : ∀ (l : List (Nat × TypeId)) (r : Bool), eqF D ps qs l = some r → ∀ x ∈ l, plain D x.2 = true
  | [], _, _, x, hx => by simp at hx
  | [(off, t)], r, h, x, hx => by
    simp only [eqF] at h
    simp at hx
    subst hx
    cases hl : leaf D t (gt ps off) (gt qs off) with
    | false => simp [hl] at h
    | true => exact plain_of_leaf hl
  | (off, t) :: q :: l, r, h, x, hx => by
    simp only [eqF] at h
    cases hl : leaf D t (gt ps off) (gt qs off) with
    | false => simp [hl] at h
    | true =>
      simp only [hl, cond_true] at h
      cases hr : eqF D ps qs (q :: l) with
      | none => simp [hr] at h
      | some r' =>
        rcases List.mem_cons.1 hx with rfl | hx
        · exact plain_of_leaf hl
        · exact eqF_leaf (q :: l) r' hr x hx
theorem eqA_ok (hD : Dok P D) {t : TypeId} {x y : Operand} {ps qs : List PV} {r : Bool} (h : Rep w S pl s a.tmps) (hx : ev s x = .agg ps) (hy : ev s y = .agg qs) (hb : eqA D t ps qs = some r) :
    ∃ xs ys, a.eval x = .agg xs ∧ a.eval y = .agg ys ∧ (Op.equalIn 10000 t (.agg xs) (.agg ys)).run P w = .ok r w ∧ P.eqGuardType P.depth t = false := by
  have h1 := h.ev x
  have h2 := h.ev y
  rw [hx] at h1
  rw [hy] at h2
  simp only [RepV] at h1 h2
  obtain ⟨xs, e1, r1, _⟩ := h1
  obtain ⟨ys, e2, r2, _⟩ := h2
  unfold eqA at hb
  split at hb
  · rename_i offs z row by' ag hd
    obtain ⟨c1, c2, fs, c3, c4⟩ := (hD _ _ hd).cmp offs rfl (eqF_leaf offs r hb)
    obtain ⟨fs', _, g2, g3, _⟩ := (hD _ _ hd).struct rfl w
    rw [c3] at g2
    simp only [Option.some.injEq, TypeDesc.struct.injEq] at g2
    subst g2
    have hf : P.fieldsOf t = fs := by unfold Program.fieldsOf; rw [c3]
    refine ⟨xs, ys, e1, e2, ?_, c2⟩
    rw [run_equalIn_struct w 9999 t xs ys (by rw [hf]; exact c3) c1, hf]
    exact eqF_ok hD r1 r2 offs fs.toList r g3 c4 hb
  · simp at hb
theorem op_eqA {t ty : TypeId} {x y : Operand} {ps qs : List PV} {r : Bool} (hD : Dok P D) (ho : o.op = .binOp .eql t x y ty) (h : Rep w S pl s a.tmps) (hx : ev s x = .agg ps) (hy : ev s y = .agg qs) (hb : eqA D t ps qs = some r) : Quiet P o a w S pl s (.bool r) := by
  obtain ⟨xs, ys, e1, e2, e3, e4⟩ := eqA_ok hD h hx hy hb
  refine ⟨.bool r, ?_, by simp [RepV, RepCell]⟩
  simp only [execOp, ho, e1, e2, Sem.run_bind, run_eqGuard_agg w _ t x y xs ys e4, Result.andThen_ok, run_eql_struct, e3, Sem.run_pure]
theorem op_neA {t ty : TypeId} {x y : Operand} {ps qs : List PV} {r : Bool} (hD : Dok P D) (ho : o.op = .binOp .neq t x y ty) (h : Rep w S pl s a.tmps) (hx : ev s x = .agg ps) (hy : ev s y = .agg qs) (hb : eqA D t ps qs = some r) : Quiet P o a w S pl s (.bool (!r)) := by
  obtain ⟨xs, ys, e1, e2, e3, e4⟩ := eqA_ok hD h hx hy hb
  refine ⟨.bool (!r), ?_, by simp [RepV, RepCell]⟩
  simp only [execOp, ho, e1, e2, Sem.run_bind, run_eqGuard_agg w _ t x y xs ys e4, Result.andThen_ok, run_neq_struct, e3, Sem.run_pure]
end
end Go.Ab
namespace Go.Ab
open Go.RowKit
set_option linter.unusedVariables false
set_option linter.unusedSimpArgs false
section
variable {P : Program} {D : TypeId → Option TD} {w w' : World} {S : Fl → Cset} {pl : Pl} {s s' : St} {a : Act} {o : Oper} {d : Nat} {oks : List Bool} {v : PV}
theorem elemTy_slice {td de : TD} {t : Ty} {e : TypeId} (hk : td.k = .slice e) (hd : D e = some de) (ht : elemTy D td = some (t, de)) : t = de.row := by
  unfold elemTy at ht
  rw [hk] at ht
  simp only [hd, Option.some.injEq, Prod.mk.injEq, and_true] at ht
  exact ht.symm
theorem roomy_ok {n b : Int} (h : roomy n b = true) : n * b ≤ 140737488355328 := by
  unfold roomy at h
  rw [M0_eq] at h
  exact of_decide_eq_true h
theorem op_fieldAddr' {e e' : TypeId} {x : Operand} {f off : Nat} {td td' : TD} {offs : List (Nat × TypeId)} {q : Addr} {v' : PV} (hD : Dok P D) (ho : o.op = .fieldAddr e x f) (h : Rep w S pl s a.tmps) (ht : D e = some td) (hk : td.k = .struct offs)
    (hf : offs[f]? = some (off, e')) (ht' : D e' = some td') (hz : 0 < td'.sz) (hx : a.eval x = .pointer (some q)) (hv : RepV w S s pl v' (.pointer (some (q.add off)))) : Quiet P o a w S pl s v' := by
  obtain ⟨fs, h1, _, h2, _⟩ := (hD e td ht).struct hk w
  obtain ⟨fl, h3, h4, h5⟩ := field_of h2 hf
  refine ⟨_, ?_, hv⟩
  have hs := (hD e' td' ht').run_size w
  simp [execOp, ho, hx, Instr.fieldAt, Instr.sureAddr, h1, h3, fieldPlace, h4, h5, hs, Nat.ne_of_gt hz]
theorem one_ok {c : Bool} (h : ∀ b ∈ [c], b = true) : c = true := h c (by simp)
theorem opS_ok (hD : Dok P D) (h : Rep w S pl s a.tmps) {op : Op} (ho : o.op = op) (hf : opS D s d op = some (oks, v, s')) (hok : ∀ b ∈ oks, b = true) : Good P d o a w S pl s v s' := by
  cases op with
  | move x =>
    simp only [opS, Option.some.injEq, Prod.mk.injEq] at hf
    obtain ⟨rfl, rfl, rfl⟩ := hf
    exact (op_move ho h).good h
  | assign x =>
    simp only [opS, Option.some.injEq, Prod.mk.injEq] at hf
    obtain ⟨rfl, rfl, rfl⟩ := hf
    exact (op_assign ho h).good h
  | pick c x y =>
    simp only [opS] at hf
    split at hf
    · rename_i b hc
      simp only [Option.some.injEq, Prod.mk.injEq] at hf
      obtain ⟨rfl, rfl, rfl⟩ := hf
      exact (op_pick ho h hc).good h
    · simp at hf
  | box e x =>
    simp only [opS] at hf
    split at hf
    · rename_i ps hc
      simp only [Option.some.injEq, Prod.mk.injEq] at hf
      obtain ⟨rfl, rfl, rfl⟩ := hf
      exact op_box ho h hc rfl
    · simp at hf
  | alloc e =>
    simp only [opS] at hf
    split at hf
    · rename_i t ht
      simp only [Option.some.injEq, Prod.mk.injEq] at hf
      obtain ⟨rfl, rfl, rfl⟩ := hf
      exact op_alloc hD ho h ht
    · simp at hf
  | build e ps =>
    simp only [opS] at hf
    split at hf
    · rename_i offs sz row by' ag ht
      split at hf
      · rename_i cs hc
        simp only [Option.some.injEq, Prod.mk.injEq] at hf
        obtain ⟨rfl, rfl, rfl⟩ := hf
        exact (op_build hD ho h ht rfl hc).good h
      · simp at hf
    · rename_i n e' sz row by' ag ht
      split at hf
      · rename_i d' hd'
        split at hf
        · rename_i cs hc
          simp only [Option.some.injEq, Prod.mk.injEq] at hf
          obtain ⟨rfl, rfl, rfl⟩ := hf
          exact (op_buildA hD ho h ht rfl hd' hc).good h
        · simp at hf
      · simp at hf
    · simp at hf
  | buildSlice e n ps =>
    simp only [opS] at hf
    split at hf
    · rename_i td ht
      split at hf
      · rename_i t de he
        split at hf
        · rename_i hh
          split at hf
          · rename_i l s1 hr
            simp only [lay1, Option.some.injEq, Prod.mk.injEq] at hf
            obtain ⟨rfl, rfl, rfl⟩ := hf
            exact op_buildSlice hD ho h ht he hh.1 hh.2.1 hh.2.2 hr
          · simp at hf
        · simp at hf
      · simp at hf
    · simp at hf
  | makeSlice e x y =>
    simp only [opS] at hf
    split at hf
    · rename_i td ht
      split at hf
      · rename_i t de he
        split at hf
        · simp at hf
        · rename_i hz
          split at hf
          · rename_i k n k' m hx hy
            simp only [lay1, Option.some.injEq, Prod.mk.injEq] at hf
            obtain ⟨rfl, rfl, rfl⟩ := hf
            have hh := one_ok hok
            simp only [Bool.and_eq_true, decide_eq_true_eq] at hh
            exact op_makeSlice hD ho h ht he hx hy (by omega) hh.1.1 hh.1.2 (roomy_ok hh.2)
          · simp at hf
      · simp at hf
    · simp at hf
  | load e x =>
    simp only [opS] at hf
    split at hf
    · rename_i t ht
      split at hf
      · rename_i r c n i hx
        split at hf
        · simp at hf
        · rename_i hh
          simp only [Option.some.injEq, Prod.mk.injEq] at hf
          obtain ⟨rfl, rfl, rfl⟩ := hf
          exact (op_load_arr hD ho h ht (by cases hb : t.agg <;> simp_all) hx (by omega)).good h
      · split at hf
        · rename_i cs hc
          split at hf
          · rename_i v1 h1
            simp only [Option.some.injEq, Prod.mk.injEq] at hf
            obtain ⟨rfl, rfl, rfl⟩ := hf
            exact (op_load hD ho h ht hc h1).good h
          · simp at hf
        · simp at hf
    · simp at hf
  | store e y x =>
    simp only [opS] at hf
    split at hf
    · rename_i t ps ht hc
      split at hf
      · rename_i hl
        rw [plen_eq] at hl
        split at hf
        · rename_i s1 hp
          simp only [Option.some.injEq, Prod.mk.injEq] at hf
          obtain ⟨rfl, rfl, rfl⟩ := hf
          unfold put at hp
          split at hp
          · rename_i r c hy
            cases hm : moves s ps with
            | mk cs s1 =>
              simp only [hm] at hp
              split at hp
              · simp at hp
              · rename_i hlen
                obtain rfl := Option.some.inj hp
                rw [plen_eq, plen_eq] at hlen
                rw [plen_eq]
                exact op_store hD ho h ht hc hl hy hm (by omega)
          · rename_i r c n i hy
            split at hp
            · split at hp
              · simp at hp
              · rename_i hlen
                obtain rfl := Option.some.inj hp
                rw [plen_eq] at hlen
                exact op_storeA hD ho h ht hc (by simpa using hl) hy (by omega)
            · simp at hp
          · rename_i r c i q hy
            cases hm : moves s ps with
            | mk cs s1 =>
              simp only [hm] at hp
              split at hp
              · rename_i w1 hro
                split at hp
                · simp at hp
                · rename_i hlen
                  rw [plen_eq] at hlen
                  split at hp
                  · rename_i z hd
                    obtain rfl := Option.some.inj hp
                    exact op_storeE hD ho h ht hc hl hy hm hro (by omega) hd
                  · simp at hp
              · simp at hp
          · simp at hp
        · simp at hf
      · simp at hf
    · simp at hf
  | nilCheck x =>
    simp only [opS] at hf
    have h1 := h.ev x
    split at hf
    · rename_i r c hx
      simp only [Option.some.injEq, Prod.mk.injEq] at hf
      obtain ⟨rfl, rfl, rfl⟩ := hf
      rw [hx] at h1
      simp only [RepV, RepCell] at h1
      obtain ⟨b, q, _, e⟩ := h1
      have := (op_nilCheck (P := P) ho h ⟨_, e⟩).good (d := d) h
      rwa [hx] at this
    · rename_i r c i q hx
      simp only [Option.some.injEq, Prod.mk.injEq] at hf
      obtain ⟨rfl, rfl, rfl⟩ := hf
      rw [hx] at h1
      simp only [RepV, RepCell] at h1
      obtain ⟨⟨b, e⟩, _⟩ := h1
      have := (op_nilCheck (P := P) ho h ⟨_, e⟩).good (d := d) h
      rwa [hx] at this
    · rename_i cs q hx
      simp only [Option.some.injEq, Prod.mk.injEq] at hf
      obtain ⟨rfl, rfl, rfl⟩ := hf
      rw [hx] at h1
      simp only [RepV] at h1
      obtain ⟨b, q', vs, e, _⟩ := h1
      have := (op_nilCheck (P := P) ho h ⟨_, e⟩).good (d := d) h
      rwa [hx] at this
    · rename_i f t l i q hx
      simp only [Option.some.injEq, Prod.mk.injEq] at hf
      obtain ⟨rfl, rfl, rfl⟩ := hf
      rw [hx] at h1
      simp only [RepV, RepCell] at h1
      obtain ⟨_, z, _, _, b, row, e, _⟩ := h1
      have := (op_nilCheck (P := P) ho h ⟨_, e⟩).good (d := d) h
      rwa [hx] at this
    · simp at hf
  | binOp op t x y ty =>
    simp only [opS] at hf
    split at hf
    · rename_i k m k' n hx hy
      simp only [Option.some.injEq, Prod.mk.injEq] at hf
      obtain ⟨rfl, rfl, rfl⟩ := hf
      exact (op_shl ho h hx hy (by simpa using one_ok hok)).good h
    · rename_i k m k' n hx hy
      simp only [Option.some.injEq, Prod.mk.injEq] at hf
      obtain ⟨rfl, rfl, rfl⟩ := hf
      exact (op_shr ho h hx hy (by simpa using one_ok hok)).good h
    · rename_i op k m k' n n1 n2 hx hy
      split at hf
      · rename_i e
        subst e
        split at hf
        · rename_i oks' v' hb
          simp only [Option.some.injEq, Prod.mk.injEq] at hf
          obtain ⟨rfl, rfl, rfl⟩ := hf
          refine (op_binInt ⟨fun e => ?_, fun e => ?_⟩ ho h hx hy hb hok).good h
          · subst e; simp [binInt] at hb
          · subst e; simp [binInt] at hb
        · simp at hf
      · simp at hf
    · rename_i op m n n1 n2 hx hy
      split at hf
      · rename_i oks' v' hb
        simp only [Option.some.injEq, Prod.mk.injEq] at hf
        obtain ⟨rfl, rfl, rfl⟩ := hf
        exact (op_binStr ho h hx hy hb hok).good h
      · simp at hf
    · rename_i m n hx hy
      cases hb : isB D t <;> simp only [hb, cond_true, cond_false, reduceCtorEq, Option.some.injEq, Prod.mk.injEq] at hf
      obtain ⟨rfl, rfl, rfl⟩ := hf
      exact (op_boolEq hD ho h hx hy hb).good h
    · rename_i m n hx hy
      cases hb : isB D t <;> simp only [hb, cond_true, cond_false, reduceCtorEq, Option.some.injEq, Prod.mk.injEq] at hf
      obtain ⟨rfl, rfl, rfl⟩ := hf
      exact (op_boolNe hD ho h hx hy hb).good h
    · rename_i m n hx hy
      split at hf
      · rename_i r hb
        simp only [Option.some.injEq, Prod.mk.injEq] at hf
        obtain ⟨rfl, rfl, rfl⟩ := hf
        exact (op_eqA hD ho h hx hy hb).good h
      · simp at hf
    · rename_i m n hx hy
      split at hf
      · rename_i r hb
        simp only [Option.some.injEq, Prod.mk.injEq] at hf
        obtain ⟨rfl, rfl, rfl⟩ := hf
        exact (op_neA hD ho h hx hy hb).good h
      · simp at hf
    · rename_i hx hy
      cases hb : isSl D t <;> simp only [hb, cond_true, cond_false, reduceCtorEq, Option.some.injEq, Prod.mk.injEq] at hf
      obtain ⟨rfl, rfl, rfl⟩ := hf
      exact (op_nilEq hD ho h hx hy hb).good h
    · rename_i f q l hx hy
      cases hb : isSl D t <;> simp only [hb, cond_true, cond_false, reduceCtorEq, Option.some.injEq, Prod.mk.injEq] at hf
      obtain ⟨rfl, rfl, rfl⟩ := hf
      exact (op_isnil hD ho h hx hy hb).good h
    · simp at hf
  | unOp op t x =>
    simp only [opS] at hf
    split at hf
    · rename_i b hx
      simp only [Option.some.injEq, Prod.mk.injEq] at hf
      obtain ⟨rfl, rfl, rfl⟩ := hf
      exact (op_not ho h hx).good h
    · rename_i k n hx
      simp only [Option.some.injEq, Prod.mk.injEq] at hf
      obtain ⟨rfl, rfl, rfl⟩ := hf
      exact (op_neg ho h hx).good h
    · simp at hf
  | convert e0 e x =>
    simp only [opS] at hf
    split at hf
    · rename_i t0 t h0 ht
      split at hf
      · rename_i k k' n hk hx
        simp only [Option.some.injEq, Prod.mk.injEq] at hf
        obtain ⟨rfl, rfl, rfl⟩ := hf
        exact (op_convInt hD ho h h0 ht hk hx).good h
      · rename_i b hk hx
        simp only [Option.some.injEq, Prod.mk.injEq] at hf
        obtain ⟨rfl, rfl, rfl⟩ := hf
        exact (op_convStr hD ho h h0 ht hk hx).good h
      · rename_i e' b hk0 hk hx
        split at hf
        · rename_i sz row by' ag hd
          simp only [lay1, Option.some.injEq, Prod.mk.injEq] at hf
          obtain ⟨rfl, rfl, rfl⟩ := hf
          exact op_s2b hD ho h h0 ht hk hd ((hD _ _ h0).und_str hk0) hx
        · simp at hf
      · rename_i e' hk0 hk hne
        split at hf
        · rename_i sz row by' ag hd
          split at hf
          · rename_i l hs
            simp only [Option.some.injEq, Prod.mk.injEq] at hf
            obtain ⟨rfl, rfl, rfl⟩ := hf
            exact (op_b2s hD ho h h0 ht hk hk0 hd hs (fun b e => hne b e)).good h
          · simp at hf
        · simp at hf
      · simp at hf
    · simp at hf
  | fieldAddr e x f =>
    simp only [opS] at hf
    have h1 := h.ev x
    split at hf
    · rename_i offs sz row by' ag ht
      split at hf
      · rename_i off e' hof
        split at hf
        · rename_i t' ht'
          split at hf
          · simp at hf
          · rename_i hz
            split at hf
            · rename_i r c hx
              simp only [Option.some.injEq, Prod.mk.injEq] at hf
              obtain ⟨rfl, rfl, rfl⟩ := hf
              rw [hx] at h1
              simp only [RepV, RepCell] at h1
              obtain ⟨b, q, hm, e1⟩ := h1
              exact (op_fieldAddr hD ho h ht rfl hof ht' (by omega) e1 (by simp only [RepV, RepCell]; exact ⟨b, q, hm, by rw [Nat.add_assoc]⟩)).good h
            · rename_i r c i q hx
              simp only [Option.some.injEq, Prod.mk.injEq] at hf
              obtain ⟨rfl, rfl, rfl⟩ := hf
              rw [hx] at h1
              simp only [RepV, RepCell] at h1
              obtain ⟨⟨z, e1⟩, h1⟩ := h1
              refine (op_fieldAddr' hD ho h ht rfl hof ht' (by omega) e1 ?_).good h
              simp only [RepV, RepCell]
              refine ⟨⟨_, rfl⟩, fun o ho => ?_⟩
              obtain ⟨g1, g2, b, n, cap, g3, g4⟩ := h1 o ho
              rw [e1] at g4
              simp only [Value.pointer.injEq, Option.some.injEq] at g4
              subst g4
              exact ⟨g1, g2, b, n, cap, g3, by rw [at_add, Nat.add_assoc]⟩
            · rename_i f' t l i q hx
              simp only [Option.some.injEq, Prod.mk.injEq] at hf
              obtain ⟨rfl, rfl, rfl⟩ := hf
              rw [hx] at h1
              simp only [RepV, RepCell] at h1
              obtain ⟨hff, z, i0, hz', b, row', e1, g1, g2, g3⟩ := h1
              exact (op_fieldAddr hD ho h ht rfl hof ht' (by omega) e1 (by simp only [RepV, RepCell]; exact ⟨hff, z, i0, hz', b, row', by rw [Nat.add_assoc], g1, g2, g3⟩)).good h
            · rename_i cs q hx
              simp only [Option.some.injEq, Prod.mk.injEq] at hf
              obtain ⟨rfl, rfl, rfl⟩ := hf
              rw [hx] at h1
              simp only [RepV] at h1
              obtain ⟨b, q', vs, e1, g⟩ := h1
              exact (op_fieldAddr hD ho h ht rfl hof ht' (by omega) e1 (by simp only [RepV]; exact ⟨b, q', vs, by rw [Nat.add_assoc], g⟩)).good h
            · simp at hf
        · simp at hf
      · simp at hf
    · simp at hf
  | field e x f =>
    simp only [opS] at hf
    split at hf
    · rename_i offs sz row by' ag ht
      split at hf
      · rename_i off e' hof
        split at hf
        · rename_i t cs ht' hx
          split at hf
          · rename_i v1 h1
            simp only [Option.some.injEq, Prod.mk.injEq] at hf
            obtain ⟨rfl, rfl, rfl⟩ := hf
            exact (op_field hD ho h ht rfl hof ht' hx h1).good h
          · simp at hf
        · simp at hf
      · simp at hf
    · simp at hf
  | indexAddr e x i =>
    simp only [opS] at hf
    split at hf
    · rename_i td k n ht hi
      split at hf
      · rename_i e' hk
        split at hf
        · rename_i t de he
          split at hf
          · rename_i f t' l hx
            split at hf
            · rename_i e1
              subst e1
              simp only [Option.some.injEq, Prod.mk.injEq] at hf
              obtain ⟨rfl, rfl, rfl⟩ := hf
              have hh := one_ok hok
              simp only [Bool.and_eq_true, decide_eq_true_eq] at hh
              exact (op_indexI hD ho h ht he hx hi hh.1 hh.2).good h
            · simp at hf
          · rename_i r c hx
            split at hf
            · rename_i w1 hw
              split at hf
              · rename_i e1
                subst e1
                simp only [Option.some.injEq, Prod.mk.injEq] at hf
                obtain ⟨rfl, rfl, rfl⟩ := hf
                have hh := one_ok hok
                simp only [Bool.and_eq_true, decide_eq_true_eq] at hh
                exact (op_indexV hD ho h ht he hx hw hi hh.1 hh.2).good h
              · simp at hf
            · simp at hf
          · rename_i r c lo hi' hx
            split at hf
            · rename_i w1 hw
              split at hf
              · rename_i e1
                subst e1
                simp only [Option.some.injEq, Prod.mk.injEq] at hf
                obtain ⟨rfl, rfl, rfl⟩ := hf
                have hh := one_ok hok
                simp only [Bool.and_eq_true, decide_eq_true_eq] at hh
                exact (op_indexS hD ho h ht he hx hw hi hh.1 hh.2).good h
              · simp at hf
            · simp at hf
          · simp at hf
        · simp at hf
      · rename_i m e' hk
        split at hf
        · rename_i t r c hte hx
          split at hf
          · rename_i z
            split at hf
            · rename_i hh
              simp only [Option.some.injEq, Prod.mk.injEq] at hf
              obtain ⟨rfl, rfl, rfl⟩ := hf
              exact (op_indexC hD ho h ht hk hte hx hi hh.1 hh.2).good h
            · simp at hf
          · split at hf
            · simp only [Option.some.injEq, Prod.mk.injEq] at hf
              obtain ⟨rfl, rfl, rfl⟩ := hf
              have hh := one_ok hok
              simp only [Bool.and_eq_true, decide_eq_true_eq] at hh
              exact (op_indexX hD ho h ht hk hte hx hi hh.1 hh.2).good h
            · simp at hf
        · simp at hf
      · simp at hf
    · simp at hf
  | index e x i =>
    simp only [opS] at hf
    split at hf
    · rename_i b k n hx hi
      cases hb : isStr D e <;> simp only [hb, cond_true, cond_false, reduceCtorEq, Option.some.injEq, Prod.mk.injEq] at hf
      obtain ⟨rfl, rfl, rfl⟩ := hf
      unfold isStr at hb
      split at hb
      · rename_i sz row by' ag hd
        have hh := one_ok hok
        simp only [Bool.and_eq_true, decide_eq_true_eq] at hh
        exact (op_index hD ho h hd rfl hx hi hh.1 hh.2).good h
      · simp at hb
    · simp at hf
  | slice t x lo hi mx =>
    cases mx with
    | some m =>
      cases hi with
      | none => simp [opS] at hf
      | some hi =>
        simp only [opS] at hf
        split at hf
        · rename_i td i k0 h0 k1 m0 ht hlo hhi hmx
          split at hf
          · rename_i q n he hn
            simp only [Option.some.injEq, Prod.mk.injEq] at hf
            obtain ⟨rfl, rfl, rfl⟩ := hf
            have b1 := hok _ (List.mem_cons_self)
            have b2 := hok _ (List.mem_cons_of_mem _ List.mem_cons_self)
            have b3 := hok _ (List.mem_cons_of_mem _ (List.mem_cons_of_mem _ List.mem_cons_self))
            simp only [Bool.and_eq_true, decide_eq_true_eq] at b1 b2 b3
            exact (op_slice3 hD ho h ht he hlo hhi hmx hn b1 b2 b3).good h
          · simp at hf
        · simp at hf
    | none =>
      simp only [opS] at hf
      split at hf
      · rename_i td i j ht hlo hhi
        split at hf
        · rename_i b hk hx
          simp only [Option.some.injEq, Prod.mk.injEq] at hf
          obtain ⟨rfl, rfl, rfl⟩ := hf
          exact (op_sliceStr hD ho h ht hk hx hlo hhi hok).good h
        · split at hf
          · rename_i ty de he
            split at hf
            · rename_i ok1 v1 hs
              simp only [Option.some.injEq, Prod.mk.injEq] at hf
              obtain ⟨rfl, rfl, rfl⟩ := hf
              exact (op_sliceL hD ho h ht he hlo hhi hs hok).good h
            · simp at hf
          · simp at hf
        · simp at hf
      · simp at hf
  | extract x i =>
    simp only [opS] at hf
    split at hf
    · rename_i vs hx
      cases hb : Nat.ble (i + 1) (plen vs) <;> simp only [hb, cond_true, cond_false, reduceCtorEq, Option.some.injEq, Prod.mk.injEq] at hf
      obtain ⟨rfl, rfl, rfl⟩ := hf
      have := Nat.le_of_ble_eq_true hb
      rw [plen_eq] at this
      exact (op_extract ho h hx this).good h
    · simp at hf
  | makeFunc f first caps =>
    cases f with
    | func f =>
      simp only [opS] at hf
      split at hf
      · rename_i hz
        simp only [Option.some.injEq, Prod.mk.injEq] at hf
        obtain ⟨rfl, rfl, rfl⟩ := hf
        exact (op_func ho h hz).good h
      · simp at hf
    | _ => simp [opS] at hf
  | call c =>
    obtain ⟨callee, xs, ts⟩ := c
    cases callee with
    | builtin b =>
      have hxs : ∀ {l : List Operand}, xs.toList = l → xs = l.toArray := fun e => by rw [← e]
      have hts : ∀ {l : List TypeId}, ts.toList = l → ts = l.toArray := fun e => by rw [← e]
      simp only [opS] at hf
      split at hf
      · rename_i x t tl e1 e2
        obtain rfl := hxs e1
        obtain rfl := hts e2
        split at hf
        · rename_i td ht
          split at hf
          · rename_i b hk hx
            simp only [Option.some.injEq, Prod.mk.injEq] at hf
            obtain ⟨rfl, rfl, rfl⟩ := hf
            exact (op_lenS hD ho h (by simp) ht hk hx).good h
          · simp at hf
          · rename_i e' hk hne
            split at hf
            · rename_i n hn
              simp only [Option.some.injEq, Prod.mk.injEq] at hf
              obtain ⟨rfl, rfl, rfl⟩ := hf
              exact (op_lenL hD ho h (by simp) ht hk hn).good h
            · simp at hf
          · simp at hf
        · simp at hf
      · rename_i x y t tx e1 e2
        obtain rfl := hxs e1
        obtain rfl := hts e2
        exact op_append (l := []) (ts := #[]) hD ho h hf hok
      · rename_i x y t tx e1 e2
        obtain rfl := hxs e1
        obtain rfl := hts e2
        exact op_copy hD ho h hf
      · rename_i x t e1 e2
        obtain rfl := hxs e1
        obtain rfl := hts e2
        exact op_clear hD ho h hf
      · rename_i x y tl e1
        obtain rfl := hxs e1
        split at hf
        · rename_i k m k' n hx hy
          simp only [Option.some.injEq, Prod.mk.injEq] at hf
          obtain ⟨rfl, rfl, rfl⟩ := hf
          exact (op_min ho h hx hy).good h
        · simp at hf
      · rename_i x y tl e1
        obtain rfl := hxs e1
        split at hf
        · rename_i k m k' n hx hy
          simp only [Option.some.injEq, Prod.mk.injEq] at hf
          obtain ⟨rfl, rfl, rfl⟩ := hf
          exact (op_max ho h hx hy).good h
        · simp at hf
      · simp at hf
    | _ => simp [opS] at hf
  | panic x =>
    simp only [opS, Option.some.injEq, Prod.mk.injEq] at hf
    obtain ⟨rfl, rfl, rfl⟩ := hf
    exact absurd (hok false (by simp)) (by simp)
  | _ => simp [opS] at hf
end
end Go.Ab
namespace Go.Ab
open Go.RowKit
set_option linter.unusedVariables false
set_option linter.unusedSimpArgs false
structure EnvOK (P : Program) (E : Env) : Prop where
  D : Dok P E.D
  fn : ∀ f e, find f E.fns = some e → ∃ fn c, P.funcs[f]? = some fn ∧ fn.body = some c ∧ fn.name ≠ "runtime.NumGoroutine"
  call : ∀ f e, find f E.fns = some e → ∀ {s s1 s2 : St} {d : Nat} {ps cs : List PV} {v : (tyL (flats e.ins)).val} {r : (tyL (flats (e.rets ++ e.outs))).val} {p : PV},
    hands s e.ptrs e.ins ps = some (cs, s1) → decL (flats e.ins) cs = some v → e.f v = some r → done s s1 d e ps r = some (p, s2) →
    ∀ {w : World} {S : Fl → Cset} {pl : Pl} {a : Array Value} {args : List Value}, Rep w S pl s a → RepL w S s pl ps args →
      Calls P f args.toArray w (fun en w' => ∃ x S' pl', en = .returned x ∧ Rep w' S' pl' s2 a ∧ RepV w' S' s2 pl' p x ∧ Step w S pl s w' S' pl' s2 ∧ StayB d (boxes e.ptrs e.ins ps) pl pl')
def Keep (pin : List Nat) (a a' : Act) : Prop := a'.defers = a.defers ∧ ∀ i, hasN i pin = true → a'.tmps.getD i undef = a.tmps.getD i undef
theorem Keep.refl (pin : List Nat) (a : Act) : Keep pin a a := ⟨rfl, fun _ _ => rfl⟩
theorem Keep.trans {pin : List Nat} {a b c : Act} (h : Keep pin a b) (k : Keep pin b c) : Keep pin a c := ⟨k.1.trans h.1, fun i hi => (k.2 i hi).trans (h.2 i hi)⟩
def Reach (pin : List Nat) (w : World) (S : Fl → Cset) (pl : Pl) (s : St) (a : Act) (s' : St) (a' : Act) (w' : World) : Prop :=
  ∃ S' pl', Rep w' S' pl' s' a'.tmps ∧ Step w S pl s w' S' pl' s' ∧ Keep pin a a'
theorem Keep.put {pin : List Nat} {o : Oper} (h : dstOk pin o = true) (a : Act) (v : Value) : Keep pin a (a.put o.dst v) := by
  unfold dstOk at h
  cases hd : o.dst with
  | none => exact Keep.refl pin a
  | some d =>
    rw [hd] at h
    simp only [Bool.not_eq_true'] at h
    refine ⟨rfl, fun i hi => ?_⟩
    have hne : d ≠ i := fun e => by subst e; rw [h] at hi; cases hi
    simp only [Act.put]
    simp only [Array.getD_eq_getD_getElem?, Array.getElem?_setIfInBounds]
    rw [if_neg hne]
section
variable {P : Program} {E : Env} {w w' : World} {S : Fl → Cset} {pl : Pl} {s s' : St} {a : Act} {o : Oper} {d : Nat} {oks : List Bool} {v : PV} {R : Type} {pin : List Nat}
theorem RepL.evs (h : Rep w S pl s a.tmps) (xs : Array Operand) : RepL w S s pl (evs s xs) (xs.toList.map a.eval) := by
  unfold Go.Ab.evs
  generalize xs.toList = l
  induction l with
  | nil => simp [RepL]
  | cons x l ih => simp only [List.map_cons, RepL]; exact ⟨_, _, rfl, h.ev x, ih⟩
theorem Step.setT {w1 w2 : World} {S1 S2 : Fl → Cset} {p1 p2 : Pl} {s1 s2 : St} (h : Step w1 S1 p1 s1 w2 S2 p2 s2) (o : Oper) (v : PV) : Step w1 S1 p1 s1 w2 S2 p2 (setT s2 o v) := by
  refine ⟨h.fr, h.grow, h.imm, h.bor, fun b x hx => h.own b x ?_⟩
  unfold Go.Ab.setT at hx
  split at hx
  · exact (owned_of (s' := ⟨pt s2.t _ v, s2.r⟩) (s := s2) (fun _ _ => rfl) (fun _ => rfl) b x).1 hx
  · exact hx
theorem Reach.trans {s1 s2 : St} {a1 a2 : Act} {w1 w2 : World} {S1 : Fl → Cset} {pl1 : Pl} (h : Rep w1 S1 pl1 s1 a1.tmps ∧ Step w S pl s w1 S1 pl1 s1 ∧ Keep pin a a1) (k : Reach pin w1 S1 pl1 s1 a1 s2 a2 w2) : Reach pin w S pl s a s2 a2 w2 := by
  obtain ⟨S2, pl2, k1, k2, k3⟩ := k
  exact ⟨S2, pl2, k1, h.2.1.trans k2, h.2.2.trans k3⟩
theorem wp_good (hdst : dstOk pin o = true) {K : Act → World → Prop} {Q : Exit → Act → World → Prop} (g : Good P d o a w S pl s v s') (hK : ∀ a' w' S' pl', Rep w' S' pl' (setT s' o v) a'.tmps → Step w S pl s w' S' pl' (setT s' o v) → Keep pin a a' → K a' w') : o.wp P a w K Q := by
  obtain ⟨x, w', S', pl', h1, h2, h3, h4, _⟩ := g
  unfold Oper.wp
  rcases h1 with h1 | ⟨h1, rfl⟩
  · rw [h1]
    exact hK _ _ S' pl' (h2.setT h3) (h4.setT o v) (Keep.put hdst _ _)
  · rw [h1]
    exact hK _ _ S' pl' (h2.setT h3) (h4.setT o v) (Keep.put hdst _ _)
theorem wp_call (hE : EnvOK P E) (hdst : dstOk pin o = true) {f : Operand} {xs : Array Operand} {ts : Array TypeId} {g : FuncId} {caps : List PV} {e : Entry} {cs : List PV} {s1 s2 : St} {v : (tyL (flats e.ins)).val} {r : (tyL (flats (e.rets ++ e.outs))).val} {p : PV}
    {K : Act → World → Prop} {Q : Exit → Act → World → Prop}
    (ho : o.op = .call ⟨.value f, xs, ts⟩) (h : Rep w S pl s a.tmps) (hf : ev s f = .clo g caps) (he : find g E.fns = some e) (hh : hands s e.ptrs e.ins (evs s xs ++ caps) = some (cs, s1)) (hv : decL (flats e.ins) cs = some v) (hr : e.f v = some r)
    (hd : done s s1 (dstOf o) e (evs s xs ++ caps) r = some (p, s2)) (hK : ∀ a' w' S' pl', Rep w' S' pl' (setT s2 o p) a'.tmps → Step w S pl s w' S' pl' (setT s2 o p) → Keep pin a a' → K a' w') : o.wp P a w K Q := by
  have h1 := h.ev f
  rw [hf] at h1
  simp only [RepV] at h1
  obtain ⟨vs, e1, h2⟩ := h1
  obtain ⟨fn, c, g1, g2, g3⟩ := hE.fn g e he
  have hc := hE.call g e he hh hv hr hd h ((RepL.evs h xs).append h2)
  have hargs : (xs.toList.map a.eval ++ vs.toList).toArray = xs.map a.eval ++ vs := by
    apply Array.ext'
    simp
  rw [hargs] at hc
  have hrun : (execOp a.eval o).run P w = .ok (.enter g (xs.map a.eval ++ vs)) w := by
    simp [execOp, ho, resolve, Deferred.ofValue, e1, invoke, callFunc, g1, g2, g3]
  unfold Oper.wp
  rw [hrun]
  refine Calls.mono hc fun en w' hh => ?_
  obtain ⟨x, S', pl', rfl, k1, k2, k3, _⟩ := hh
  exact hK _ _ S' pl' (k1.setT k2) (k3.setT o p) (Keep.put hdst _ _)
theorem evOps_ok (hE : EnvOK P E) {bind : Bool} {K : List Bool → St → Option R} {res : R} : ∀ (l : List Oper) (oks : List Bool) (s : St), evOps E bind K l oks s = some res → (∀ o ∈ l, o.guard = none) →
    ∃ ex s', K (oks ++ ex) s' = some res ∧ ((∀ b ∈ ex, b = true) → ∀ {w : World} {S : Fl → Cset} {pl : Pl} {a : Act} {ops : Array Oper} {Q : Exit → Act → World → Prop}, Rep w S pl s a.tmps → (∀ a' w', Reach E.pin w S pl s a s' a' w' → Q .normal a' w') → wpList P ops Q l a w)
  | [], oks, s, hf, _ => by
    simp only [evOps] at hf
    exact ⟨[], s, by simpa using hf, fun _ {w S pl a ops Q} h hQ => hQ a w ⟨S, pl, h, Step.refl _ _ _ _, Keep.refl _ _⟩⟩
  | o :: l, oks, s, hf, hg => by
    have hgo : o.guard = none := hg o (by simp)
    have hgl : ∀ o ∈ l, o.guard = none := fun o ho => hg o (by simp [ho])
    have hw : ∀ y, Region.wanted o y = true := fun y => by simp [Region.wanted, hgo]
    have go : ∀ {ok ex : List Bool} {s1 s' : St} {v : PV}, (∀ {w : World} {S : Fl → Cset} {pl : Pl} {a : Act} {K : Act → World → Prop} {Q : Exit → Act → World → Prop}, (∀ b ∈ ok, b = true) → Rep w S pl s a.tmps →
        (∀ a' w' S' pl', Rep w' S' pl' (setT s1 o v) a'.tmps → Step w S pl s w' S' pl' (setT s1 o v) → Keep E.pin a a' → K a' w') → o.wp P a w K Q) →
        K ((oks ++ ok) ++ ex) s' = some res →
        ((∀ b ∈ ex, b = true) → ∀ {w : World} {S : Fl → Cset} {pl : Pl} {a : Act} {ops : Array Oper} {Q : Exit → Act → World → Prop}, Rep w S pl (setT s1 o v) a.tmps → (∀ a' w', Reach E.pin w S pl (setT s1 o v) a s' a' w' → Q .normal a' w') → wpList P ops Q l a w) →
        ∃ ex s', K (oks ++ ex) s' = some res ∧ ((∀ b ∈ ex, b = true) → ∀ {w : World} {S : Fl → Cset} {pl : Pl} {a : Act} {ops : Array Oper} {Q : Exit → Act → World → Prop}, Rep w S pl s a.tmps → (∀ a' w', Reach E.pin w S pl s a s' a' w' → Q .normal a' w') → wpList P ops Q (o :: l) a w) :=
      fun {ok ex s1 s' v} h1 h2 h3 => by
        refine ⟨ok ++ ex, s', by rw [← List.append_assoc]; exact h2, fun hall {w S pl a ops Q} hr hQ => ?_⟩
        unfold wpList
        rw [if_pos (hw _)]
        refine .inl (h1 (fun b hb => hall b (by simp [hb])) hr fun a' w' S' pl' k1 k2 k3 => ?_)
        exact h3 (fun b hb => hall b (by simp [hb])) k1 fun a2 w2 hr2 => hQ a2 w2 (Reach.trans ⟨k1, k2, k3⟩ hr2)
    unfold evOps at hf
    cases hdst : dstOk E.pin o with
    | false => rw [hdst] at hf; simp at hf
    | true =>
    rw [hdst, cond_true] at hf
    split at hf
    · rename_i f xs ts ho
      split at hf
      · rename_i g caps hev
        split at hf
        · rename_i e he
          simp only at hf
          split at hf
          · rename_i cs s1 hh
            split at hf
            · rename_i v hv
              split at hf
              · cases hr : e.f v with
                | none => simp [hr] at hf
                | some r =>
                  simp only [hr, Option.bind_some] at hf
                  split at hf
                  · rename_i p s2 hd
                    obtain ⟨ex, s', h1, h2⟩ := evOps_ok hE l oks (setT s2 o p) hf hgl
                    exact go (ok := []) (s1 := s2) (v := p) (fun _ h hK => wp_call hE hdst ho h hev he hh hv hr hd hK) (by simpa using h1) h2
                  · simp at hf
              · split at hf
                · rename_i p s2 hd
                  obtain ⟨ex, s', h1, h2⟩ := evOps_ok hE l (oks ++ [(e.f v).isSome]) (setT s2 o p) hf hgl
                  refine go (ok := [(e.f v).isSome]) (s1 := s2) (v := p) (fun hok h hK => ?_) h1 h2
                  obtain ⟨r, hr⟩ := Option.isSome_iff_exists.1 (one_ok hok)
                  rw [hr, Option.getD_some] at hd
                  exact wp_call hE hdst ho h hev he hh hv hr hd hK
                · simp at hf
            · simp at hf
          · simp at hf
        · simp at hf
      · simp at hf
    · rename_i op hne
      split at hf
      · simp at hf
      · rename_i ok v s1 hop
        obtain ⟨ex, s', h1, h2⟩ := evOps_ok hE l (oks ++ ok) (setT s1 o v) hf hgl
        exact go (ok := ok) (s1 := s1) (v := v) (fun hok h hK => wp_good hdst (opS_ok hE.D h rfl hop hok) hK) h1 h2
end
end Go.Ab
namespace Go.Ab
open Go.RowKit
set_option linter.unusedVariables false
set_option linter.unusedSimpArgs false
def Ghost (s s' : St) : Prop := ∀ {w : World} {S : Fl → Cset} {pl : Pl} {a : Act}, Rep w S pl s a.tmps → ∃ S' pl', Rep w S' pl' s' a.tmps ∧ Step w S pl s w S' pl' s'
theorem Ghost.refl (s : St) : Ghost s s := fun {w S pl a} h => ⟨S, pl, h, Step.refl _ _ _ _⟩
theorem Ghost.trans {s1 s2 s3 : St} (h : Ghost s1 s2) (k : Ghost s2 s3) : Ghost s1 s3 := fun {w S pl a} hr => by
  obtain ⟨S1, p1, h1, h2⟩ := h hr
  obtain ⟨S2, p2, k1, k2⟩ := k h1
  exact ⟨S2, p2, k1, h2.trans k2⟩
section
variable {w w' : World} {S : Fl → Cset} {pl : Pl} {s s' : St}
theorem Ghost.fewer (f : Fewer s s') (hr : ∀ {w : World} {S : Fl → Cset} {pl : Pl} {a : Act}, Rep w S pl s a.tmps → Rep w S pl s' a.tmps) : Ghost s s' := fun {w S pl a} h => ⟨S, pl, hr h, f.step⟩
theorem ghost_kill (s : St) (r c : Nat) : Ghost s ⟨s.t, pc s.r r c .any⟩ := Ghost.fewer (fewer_kill s r c) fun h => h.kill r c
theorem ghost_scr (kill : Nat → Nat → Bool) (gone : Nat → Bool) (s : St) : Ghost s (scr kill gone s) := fun {w S pl a} h =>
  ⟨S, pl, h.scr kill gone, ⟨.refl _ w, fun _ _ _ _ h => h, fun _ _ h => .inl h, fun _ _ h => .inl h, fun b x hx => .inl ((owned_of (rowAt_scr kill gone s) (fun r => by simp [Go.Ab.scr, gr_scrR, scrL_len]) b x).1 hx)⟩⟩
theorem Rep.slot {a : Array Value} (h : Rep w S pl s a) (x : Nat) {p : PV} (hp : RepV w S s pl p (a.getD x undef)) : Rep w S pl ⟨pt s.t x p, s.r⟩ a := by
  have hr : ∀ r c, rowAt (⟨pt s.t x p, s.r⟩ : St) r c = rowAt s r c := fun _ _ => rfl
  refine ⟨by simp [pt_len, h.len], fun i => ?_, fun r j hj => ?_, h.mem, fun r j r' j' b x h1 h2 => h.disj r j r' j' b x ((rng_of hr (fun _ => rfl) _ _ _ _).1 h1) ((rng_of hr (fun _ => rfl) _ _ _ _).1 h2), fun b x hb ho => h.apart b x hb ((owned_of hr (fun _ => rfl) b x).1 ho), h.sub, h.live, h.stat⟩
  · simp only [gt_pt]
    split
    · rename_i e
      obtain ⟨rfl, _⟩ := e
      exact RepV.state hr hp
    · exact RepV.state hr (h.slots i)
  · have h1 := h.roots r j hj
    exact ⟨h1.1.state (RepV.state hr), h1.2⟩
theorem slot_step (s : St) (x : Nat) (p : PV) : Step w S pl s w S pl ⟨pt s.t x p, s.r⟩ :=
  ⟨.refl _ w, fun _ _ _ _ h => h, fun _ _ h => .inl h, fun _ _ h => .inl h, fun b y hy => .inl ((owned_of (s' := ⟨pt s.t x p, s.r⟩) (s := s) (fun _ _ => rfl) (fun _ => rfl) b y).1 hy)⟩
theorem ghost_lay {a : Act} (h : Rep w S pl s a.tmps) (x : Nat) {t : Ty} {l : List t.val} (hown : OwnRow w (S .imm) t l (a.tmps.getD x undef)) (hone : (a.tmps.getD x undef).oneCell' = true)
    (hn : ∀ b y, rowRange t (a.tmps.getD x undef) b y → ¬ owned s pl b y ∧ ¬ S .bor b y) :
    ∃ pl', Rep w S pl' ⟨pt (lay s x [.sl .own t l]).t x (.view x 0), (lay s x [.sl .own t l]).r⟩ a.tmps ∧ ∀ b y, owned ⟨pt (lay s x [.sl .own t l]).t x (.view x 0), (lay s x [.sl .own t l]).r⟩ pl' b y → owned s pl b y ∨ rowRange t (a.tmps.getD x undef) b y := by
  obtain ⟨pl', g1, g2, g3, _⟩ := lay_float h x hown hone hn
  exact ⟨pl', g1.slot x g2, fun b y hy => g3 b y ((owned_of (s' := ⟨pt (lay s x [.sl .own t l]).t x (.view x 0), (lay s x [.sl .own t l]).r⟩) (s := lay s x [.sl .own t l]) (fun _ _ => rfl) (fun _ => rfl) b y).1 hy)⟩
theorem ghost_home (s : St) (x : Nat) (t : Ty) : Ghost s (home s x t) := by
  unfold home
  split
  · rename_i hx
    intro w S pl a h
    have h1 := h.slots x
    rw [hx] at h1
    simp only [RepV, RepCell] at h1
    have hn : ∀ b y, ¬ rowRange t (a.tmps.getD x undef) b y := fun b y ⟨q, n', cap', e1, _⟩ => by rw [h1] at e1; simp at e1
    obtain ⟨pl', g1, g2⟩ := ghost_lay (a := a) h x (t := t) (l := []) (.inl ⟨h1, rfl⟩) (by rw [h1]; rfl) (fun b y hy => (hn b y hy).elim)
    refine ⟨S, pl', g1, ⟨.refl _ w, fun _ _ _ _ h => h, fun _ _ h => .inl h, fun _ _ h => .inl h, fun b y hy => ?_⟩⟩
    rcases g2 b y hy with h' | h'
    · exact .inl h'
    · exact (hn b y h').elim
  · rename_i r c hx
    split
    · exact Ghost.refl s
    · split
      · rename_i t' l hg
        intro w S pl a h
        have h1 := h.slots x
        rw [hx] at h1
        simp only [RepV, RepCell] at h1
        obtain ⟨q1, q2, q3, q4, q5, q6⟩ := take_row h hg
        rw [← h1.1] at q3 q4 q5 q6
        obtain ⟨pl', g1, g2⟩ := ghost_lay (a := a) q1 x q3 q4 q5
        refine ⟨S, pl', g1, ⟨.refl _ w, fun _ _ _ _ h => h, fun _ _ h => .inl h, fun _ _ h => .inl h, fun b y hy => ?_⟩⟩
        rcases g2 b y hy with h' | h'
        · exact .inl (q2.owned h')
        · exact .inl (q6 b y h')
      · exact Ghost.refl s
  · exact Ghost.refl s
theorem home_len (s : St) (x : Nat) (t : Ty) : (home s x t).t.length = s.t.length := by
  unfold home
  split
  · simp [pt_len, lay, Go.Ab.scr, scrL_len]
  · split
    · rfl
    · split
      · simp [pt_len, lay, Go.Ab.scr, scrL_len]
      · rfl
  · rfl
theorem homes_ok : ∀ (l m : List PV) (x : Nat) (a b : St), Ghost a (homes a b x l m).1 ∧ Ghost b (homes a b x l m).2 ∧ ((homes a b x l m).1.t.length = a.t.length ∧ (homes a b x l m).2.t.length = b.t.length)
  | [], _, x, a, b => by simp only [homes]; exact ⟨Ghost.refl _, Ghost.refl _, trivial, trivial⟩
  | p :: l, [], x, a, b => by simp only [homes]; exact ⟨Ghost.refl _, Ghost.refl _, trivial, trivial⟩
  | p :: l, q :: m, x, a, b => by
    simp only [homes]
    split
    · rename_i t ht
      obtain ⟨h1, h2, h3, h4⟩ := homes_ok l m (x + 1) (home a x t) (home b x t)
      exact ⟨Ghost.trans (ghost_home a x t) h1, Ghost.trans (ghost_home b x t) h2, by rw [h3, home_len], by rw [h4, home_len]⟩
    · exact homes_ok l m (x + 1) a b
def Subs (S : Fl → Cset) : Prop := ∀ b x, S .imm b x → S .bor b x
def To (p p' : PV) : Prop := (∃ o, rowOf p = some o ∧ rowOf p' = some o) ∨ (∃ t l, p = .sl .own t l ∧ p' = .sl .imm t l) ∨ (∃ t, p = .nil ∧ p' = .sl .own t []) ∨ p' = .any ∨
  (rowOf p = none ∧ rowOf p' = none ∧ ∀ w S s pl v, Subs S → RepV w S s pl p v → RepV w S s pl p' v)
theorem Rep.recell {a : Act} (h : Rep w S pl s a.tmps) (s' : St) (ht : s'.t.length = s.t.length) (hs : ∀ i w S pl v, Subs S → RepV w S s pl (gt s.t i) v → RepV w S s pl (gt s'.t i) v) (hl : ∀ r, (gr s'.r r).length ≤ (gr s.r r).length)
    (hr : ∀ r j, j < (gr s'.r r).length → To (gt (gr s.r r) j) (gt (gr s'.r r) j)) (hno : okS (fun r c => ¬ (gt (gr s.r r) c = .nil ∧ ∃ t l, gt (gr s'.r r) c = .sl .own t l)) (fun _ => True) s') :
    ∃ S', Rep w S' pl s' a.tmps ∧ Step w S pl s w S' pl s' := by
  let R : Cset := fun b x => ∃ r j t l, j < (gr s'.r r).length ∧ gt (gr s.r r) j = .sl .own t l ∧ gt (gr s'.r r) j = .sl .imm t l ∧ rowRange t (pl.hv r j) b x
  have hlt : ∀ r j o, rowAt s' r j = some o → j < (gr s'.r r).length := fun r j o ho => by
    rcases Nat.lt_or_ge j (gr s'.r r).length with h' | h'
    · exact h'
    · unfold rowAt at ho; rw [gt_big _ _ h'] at ho; simp [rowOf] at ho
  have hrow : ∀ r j o, rowAt s' r j = some o → rowAt s r j = some o ∨ (gt (gr s.r r) j = .nil ∧ ∃ t, gt (gr s'.r r) j = .sl .own t [] ∧ o = ⟨true, t, []⟩) := fun r j o ho => by
    have hj := hlt r j o ho
    unfold rowAt at ho ⊢
    rcases hr r j hj with ⟨o', e1, e2⟩ | ⟨t, l, e1, e2⟩ | ⟨t, e1, e2⟩ | e | ⟨_, e, _⟩
    · rw [e2] at ho; rw [e1]; exact .inl ho
    · rw [e2] at ho; simp [rowOf] at ho
    · rw [e2] at ho; simp [rowOf] at ho; exact .inr ⟨e1, t, e2, ho.symm⟩
    · rw [e] at ho; simp [rowOf] at ho
    · rw [e] at ho; cases ho
  have hnil : ∀ r j, j < (gr s.r r).length → gt (gr s.r r) j = .nil → pl.hv r j = .slice none 0 0 := fun r j hj e => by
    have := (h.roots r j hj).1
    rw [e] at this
    simpa [RepRoot, rowOf, RepV, RepCell] using this
  have hrng : ∀ r u b x, rng s' pl r u b x → rng s pl r u b x := fun r u b x hx => by
    cases u with
    | none =>
      obtain ⟨o, h1, h2, h3⟩ := hx
      exact ⟨o, h1, h2, Nat.lt_of_lt_of_le h3 (Nat.add_le_add_left (hl r) o)⟩
    | some j =>
      obtain ⟨o, h1, h2⟩ := hx
      rcases hrow r j o h1 with h' | ⟨e1, t, _, rfl⟩
      · exact ⟨o, h', h2⟩
      · exfalso
        obtain ⟨q, n', cap', e, _⟩ := h2
        rw [hnil r j (Nat.lt_of_lt_of_le (hlt r j _ h1) (hl r)) e1] at e
        simp at e
  have hR : ∀ b x, R b x → ∃ r j t l, gt (gr s'.r r) j = .sl .imm t l ∧ rng s pl r (some j) b x := fun b x ⟨r, j, t, l, hj, e1, e2, e3⟩ => ⟨r, j, t, l, e2, ⟨true, t, l⟩, by unfold rowAt; rw [e1]; rfl, e3⟩
  have hk : Kept w w S (addS S R) s s' pl pl (fun r c => ¬ (gt (gr s.r r) c = .nil ∧ ∃ t l, gt (gr s'.r r) c = .sl .own t l)) (fun _ => True) := ⟨fun _ _ _ _ _ _ h => h, fun _ _ _ _ h => .inl h, fun _ _ _ => rfl, fun r c o' hK ho => by
    rcases hrow r c o' ho with h' | ⟨e1, t, e2, _⟩
    · exact ⟨o', h', rfl, rfl⟩
    · exact absurd ⟨e1, t, [], e2⟩ hK, fun _ _ => rfl⟩
  refine ⟨addS S R, ⟨by rw [ht, h.len], fun i => RepV.keep hk (hno.t i) (hs i _ _ _ _ h.sub (h.slots i)), fun r j hj => ?_, fun r b o j hm hj => h.mem r b o j hm (Nat.lt_of_lt_of_le hj (hl r)), fun r j r' j' b x h1 h2 => h.disj r j r' j' b x (hrng _ _ _ _ h1) (hrng _ _ _ _ h2), fun b x hb => ?_, fun b x hb => ?_, fun b x hb => ?_, h.stat.mono fun b x hb => .inl hb⟩, ⟨.refl _ w, fun f _ b x hx => .inl hx, fun b x hx => ?_, fun b x hx => ?_, fun b x ⟨r, u, hx⟩ => .inl ⟨r, u, hrng _ _ _ _ hx⟩⟩⟩
  · have hj' : j < (gr s.r r).length := Nat.lt_of_lt_of_le hj (hl r)
    obtain ⟨h1, h2⟩ := h.roots r j hj'
    refine ⟨?_, h2⟩
    rcases hr r j hj with ⟨o', e1, e2⟩ | ⟨t, l, e1, e2⟩ | ⟨t, e1, e2⟩ | e | ⟨e1, e2, e3⟩
    · unfold RepRoot at h1 ⊢
      rw [e1] at h1
      rw [e2]
      exact h1.keep (Fr.refl (fun _ _ => False) w) (fun _ _ _ h => h) (fun _ _ _ _ h => h) (fun _ _ h => .inl h)
    · rw [e1] at h1
      rw [e2]
      simp only [RepRoot, rowOf] at h1
      simp only [RepRoot, rowOf, RepV, RepCell]
      exact h1.toRepC (fun _ _ h => .inl h) (fun b x hx => .inr ⟨r, j, t, l, hj, e1, e2, hx⟩)
    · rw [e1] at h1
      rw [e2]
      simp only [RepRoot, rowOf, RepV, RepCell] at h1
      simp only [RepRoot, rowOf]
      exact .inl ⟨h1, rfl⟩
    · rw [e]; simp [RepRoot, rowOf, RepV]
    · unfold RepRoot at h1 ⊢
      rw [e1] at h1
      rw [e2]
      exact RepV.keep hk (hno.r r j) (e3 _ _ _ _ _ h.sub h1)
  · rcases hb with hb | hb
    · exact fun ⟨r, u, hx⟩ => h.apart b x hb ⟨r, u, hrng _ _ _ _ hx⟩
    · intro ⟨r', u, hx⟩
      obtain ⟨r, j, t, l, e2, e3⟩ := hR b x hb
      obtain ⟨rfl, rfl⟩ := h.disj r (some j) r' u b x e3 (hrng _ _ _ _ hx)
      obtain ⟨o, h1, _⟩ := hx
      unfold rowAt at h1
      rw [e2] at h1
      simp [rowOf] at h1
  · exact hb.imp (h.sub b x) id
  · rcases hb with hb | hb
    · exact h.live b x hb
    · obtain ⟨r, j, t, l, e2, e3⟩ := hR b x hb
      exact h.rng_lt e3
  · rcases hx with hx | hx
    · exact .inl hx
    · obtain ⟨r, j, t, l, e2, e3⟩ := hR b x hx
      exact .inr (.inl ⟨r, _, e3⟩)
  · rcases hx with hx | hx
    · exact .inl hx
    · obtain ⟨r, j, t, l, e2, e3⟩ := hR b x hx
      exact .inr (.inl ⟨r, _, e3⟩)
end
end Go.Ab
namespace Go.Ab
open Go.RowKit
set_option linter.unusedVariables false
set_option linter.unusedSimpArgs false
section
variable {w w' : World} {S : Fl → Cset} {pl : Pl} {s s' : St}
theorem rowOf_mixC (c : Bool) (x y : PV) : rowOf (mixC c x y) = none := by
  unfold mixC
  repeat' split
  all_goals rfl
theorem mixC_row {c : Bool} {x y : PV} (h : rowOf x ≠ none) : mixC c x y = .any := by
  cases x with
  | sl f t l => cases f <;> first | (exfalso; exact h rfl) | (unfold mixC; cases y <;> rfl)
  | _ => exact absurd rfl h
theorem mixC_row' {c : Bool} {x y : PV} (h : rowOf y ≠ none) : mixC c x y = .any := by
  cases y with
  | sl f t l =>
    cases f <;> first
      | (exfalso; exact h rfl)
      | (unfold mixC; cases x <;> first | rfl | (rename_i f t l; cases f <;> rfl))
  | _ => exact absurd rfl h
theorem To.same {p : PV} : To p p := by
  cases hr : rowOf p with
  | some o => exact .inl ⟨o, hr, hr⟩
  | none => exact .inr (.inr (.inr (.inr ⟨hr, hr, fun _ _ _ _ _ _ h => h⟩)))
theorem To.any {p : PV} : To p .any := .inr (.inr (.inr (.inl rfl)))
theorem mixR_true (x y : PV) : To x (mixR true x y) := by
  unfold mixR
  split
  · split
    · exact To.same
    · exact To.any
  · split
    · exact To.same
    · exact To.any
  · split
    · exact .inr (.inl ⟨_, _, rfl, rfl⟩)
    · exact To.any
  · split
    · exact To.same
    · exact To.any
  · exact To.same
  · exact .inr (.inr (.inl ⟨_, rfl, rfl⟩))
  · by_cases hr : rowOf x = none
    · exact .inr (.inr (.inr (.inr ⟨hr, rowOf_mixC _ _ _, fun _ _ _ _ _ _ h => mixC_true h⟩)))
    · rw [mixC_row hr]; exact To.any
theorem mixR_false (x y : PV) : To y (mixR false x y) := by
  unfold mixR
  split
  · split
    · rename_i e; subst e; exact To.same
    · exact To.any
  · split
    · rename_i e; subst e; exact To.same
    · exact To.any
  · split
    · rename_i e; subst e; exact To.same
    · exact To.any
  · split
    · rename_i e; subst e; exact .inr (.inl ⟨_, _, rfl, rfl⟩)
    · exact To.any
  · exact .inr (.inr (.inl ⟨_, rfl, rfl⟩))
  · exact To.same
  · by_cases hr : rowOf y = none
    · exact .inr (.inr (.inr (.inr ⟨hr, rowOf_mixC _ _ _, fun _ _ _ _ _ _ h => mixC_false h⟩)))
    · rw [mixC_row' hr]; exact To.any
theorem zipV_len (c : Bool) : ∀ (l m : List PV), (zipV c l m).length = min l.length m.length
  | [], m => by simp [zipV]
  | x :: l, [] => by simp [zipV]
  | x :: l, y :: m => by simp [zipV, zipV_len c l m]
theorem zipV_gt (c : Bool) : ∀ (l m : List PV) (i : Nat), gt (zipV c l m) i = mixV c (gt l i) (gt m i) ∨ gt (zipV c l m) i = .any
  | [], m, i => .inr (by simp [zipV, gt])
  | x :: l, [], i => .inr (by simp [zipV, gt])
  | x :: l, y :: m, 0 => .inl (by simp [zipV, gt])
  | x :: l, y :: m, i + 1 => by simpa [zipV, gt] using zipV_gt c l m i
theorem zipK_len (c : Bool) : ∀ (l m : List PV), (zipK c l m).length = min l.length m.length
  | [], m => by simp [zipK]
  | x :: l, [] => by simp [zipK]
  | x :: l, y :: m => by simp [zipK, zipK_len c l m]
theorem zipK_gt (c : Bool) : ∀ (l m : List PV) (i : Nat), i < (zipK c l m).length → gt (zipK c l m) i = mixR c (gt l i) (gt m i)
  | [], m, i, h => by simp [zipK] at h
  | x :: l, [], i, h => by simp [zipK] at h
  | x :: l, y :: m, 0, _ => by simp [zipK, gt]
  | x :: l, y :: m, i + 1, h => by simpa [zipK, gt] using zipK_gt c l m i (by simpa [zipK] using h)
theorem zipR_gr (c : Bool) : ∀ (a b : List (List PV)) (r : Nat), gr (zipR c a b) r = zipK c (gr a r) (gr b r)
  | [], b, r => by simp [zipR, gr, zipK]
  | x :: a, [], r => by
    have : ∀ l : List PV, zipK c l [] = [] := fun l => by cases l <;> rfl
    simp [zipR, gr, this]
  | x :: a, y :: b, 0 => by simp [zipR, gr]
  | x :: a, y :: b, r + 1 => by simpa [zipR, gr] using zipR_gr c a b r
theorem nilOwnK_false : ∀ (l m : List PV), nilOwnK l m = false → ∀ j, nilOwn (gt l j) (gt m j) = false
  | [], m, _, j => by simp only [gt]; try (cases gt m j <;> rfl)
  | x :: l, [], _, j => by
    have : gt ([] : List PV) j = .any := rfl
    rw [this]
    generalize gt (x :: l) j = p
    cases p with
    | sl f t l => cases f <;> rfl
    | _ => rfl
  | x :: l, y :: m, h, j => by
    simp only [nilOwnK, Bool.or_eq_false_iff] at h
    cases j with
    | zero => exact h.1
    | succ j => exact nilOwnK_false l m h.2 j
theorem nilOwnR_false : ∀ (a b : List (List PV)), nilOwnR a b = false → ∀ r j, nilOwn (gt (gr a r) j) (gt (gr b r) j) = false
  | [], b, _, r, j => by
    have : gt (gr ([] : List (List PV)) r) j = .any := rfl
    rw [this]
    try (cases gt (gr b r) j <;> rfl)
  | x :: a, [], _, r, j => by
    have : gt (gr ([] : List (List PV)) r) j = .any := rfl
    rw [this]
    generalize gt (gr (x :: a) r) j = p
    cases p with
    | sl f t l => cases f <;> rfl
    | _ => rfl
  | x :: a, y :: b, h, r, j => by
    simp only [nilOwnR, Bool.or_eq_false_iff] at h
    cases r with
    | zero => exact nilOwnK_false x y h.1 j
    | succ r => exact nilOwnR_false a b h.2 r j
theorem To.scr {p p' : PV} (h : To p p') (kill : Nat → Nat → Bool) (gone : Nat → Bool) : To p (scrV kill gone p') := by
  rcases h with ⟨o, h1, h2⟩ | ⟨t, l, rfl, rfl⟩ | ⟨t, rfl, rfl⟩ | rfl | ⟨h1, h2, h3⟩
  · exact .inl ⟨o, h1, by rw [rowOf_scr]; exact h2⟩
  · exact .inr (.inl ⟨t, l, rfl, by simp [scrV]⟩)
  · exact .inr (.inr (.inl ⟨t, rfl, by simp [scrV]⟩))
  · simp only [scrV]; exact To.any
  · exact .inr (.inr (.inr (.inr ⟨h1, by rw [rowOf_scr]; exact h2, fun _ _ _ _ _ hb h => (h3 _ _ _ _ _ hb h).scr⟩)))
theorem scrV_own {kill : Nat → Nat → Bool} {gone : Nat → Bool} {p : PV} {t : Ty} {l : List t.val} (h : scrV kill gone p = .sl .own t l) : p = .sl .own t l := by
  cases p <;> simp only [scrV] at h
  all_goals first
    | exact h
    | cases h
    | (rename_i r c; cases hk : kill r c <;> simp [hk] at h; done)
    | (rename_i r c _ _; cases hk : kill r c <;> simp [hk] at h; done)
    | (rename_i r c; cases hk : gone r <;> simp [hk] at h; done)
    | (rename_i r _ _ _ _; cases hk : gone r <;> simp [hk] at h; done)
theorem mixS_pl (c : Bool) {a b z : St} (hz : z = cond c a b) (hl : a.t.length = b.t.length) {w : World} {S : Fl → Cset} {pl : Pl} {act : Act} (h : Rep w S pl z act.tmps) : ∃ S', Rep w S' pl (mixS c a b) act.tmps ∧ Step w S pl z w S' pl (mixS c a b) := by
  have hmV : ∀ i w S pl v, RepV w S z pl (gt z.t i) v → RepV w S z pl (gt (zipV c a.t b.t) i) v := fun i w S pl v h => by
    rcases zipV_gt c a.t b.t i with e | e
    · rw [e]
      cases c
      · simp only [cond_false] at hz; subst hz; exact mixV_false h
      · simp only [cond_true] at hz; subst hz; exact mixV_true h
    · rw [e]; simp [RepV]
  have hlen : (zipV c a.t b.t).length = z.t.length := by
    rw [zipV_len]
    cases c
    · simp only [cond_false] at hz; subst hz; omega
    · simp only [cond_true] at hz; subst hz; omega
  have hrl : ∀ r, (gr (zipR c a.r b.r) r).length ≤ (gr z.r r).length := fun r => by
    rw [zipR_gr, zipK_len]
    cases c
    · simp only [cond_false] at hz; subst hz; omega
    · simp only [cond_true] at hz; subst hz; omega
  have hto : ∀ r j, j < (gr (zipR c a.r b.r) r).length → To (gt (gr z.r r) j) (gt (gr (zipR c a.r b.r) r) j) := fun r j hj => by
    rw [zipR_gr] at hj ⊢
    rw [zipK_gt c _ _ _ hj]
    cases c
    · simp only [cond_false] at hz; subst hz; exact mixR_false _ _
    · simp only [cond_true] at hz; subst hz; exact mixR_true _ _
  have hno : ∀ r j, gt (gr z.r r) j = .nil → (∃ t l, gt (gr (zipR c a.r b.r) r) j = .sl .own t l) → nilOwn (gt (gr a.r r) j) (gt (gr b.r r) j) = true := fun r j e ⟨t, l, e2⟩ => by
    have hj : j < (gr (zipR c a.r b.r) r).length := by
      rcases Nat.lt_or_ge j (gr (zipR c a.r b.r) r).length with h' | h'
      · exact h'
      · rw [gt_big _ _ h'] at e2; cases e2
    rw [zipR_gr] at hj e2
    rw [zipK_gt c _ _ _ hj] at e2
    cases c
    · simp only [cond_false] at hz
      subst hz
      rw [e] at e2 ⊢
      generalize gt (gr a.r r) j = p at *
      unfold mixR at e2
      split at e2 <;> first | rfl | (exfalso; have h0 := congrArg rowOf e2; rw [rowOf_mixC] at h0; cases h0) | (simp_all; done)
    · simp only [cond_true] at hz
      subst hz
      rw [e] at e2 ⊢
      generalize gt (gr b.r r) j = p at *
      unfold mixR at e2
      split at e2 <;> first | rfl | (exfalso; have h0 := congrArg rowOf e2; rw [rowOf_mixC] at h0; cases h0) | (simp_all; done)
  unfold mixS
  cases hn : nilOwnR a.r b.r with
  | false =>
    simp only [cond_false]
    obtain ⟨S', h1, h2⟩ := h.recell ⟨zipV c a.t b.t, zipR c a.r b.r⟩ hlen (fun i w S pl v _ hv => hmV i w S pl v hv) hrl hto
      (by
        have key : ∀ r j, ¬ (gt (gr z.r r) j = .nil ∧ ∃ t l, gt (gr (zipR c a.r b.r) r) j = .sl .own t l) := fun r j ⟨e1, e2⟩ => by
          have := hno r j e1 e2
          rw [nilOwnR_false _ _ hn] at this
          cases this
        exact ⟨fun i => okV.all key (fun _ => trivial) _, fun r j => okV.all key (fun _ => trivial) _⟩)
    exact ⟨S', h1, h2⟩
  | true =>
    simp only [cond_true]
    have hgs : ∀ r j, gt (gr (scr (fun r j => nilOwn (gt (gr a.r r) j) (gt (gr b.r r) j)) (fun _ => false) ⟨zipV c a.t b.t, zipR c a.r b.r⟩).r r) j = scrV (fun r j => nilOwn (gt (gr a.r r) j) (gt (gr b.r r) j)) (fun _ => false) (gt (gr (zipR c a.r b.r) r) j) := fun r j => by simp [Go.Ab.scr, gr_scrR, scrL_gt]
    have hgl : ∀ r, (gr (scr (fun r j => nilOwn (gt (gr a.r r) j) (gt (gr b.r r) j)) (fun _ => false) ⟨zipV c a.t b.t, zipR c a.r b.r⟩).r r).length = (gr (zipR c a.r b.r) r).length := fun r => by simp [Go.Ab.scr, gr_scrR, scrL_len]
    obtain ⟨S', h1, h2⟩ := h.recell (scr (fun r j => nilOwn (gt (gr a.r r) j) (gt (gr b.r r) j)) (fun _ => false) ⟨zipV c a.t b.t, zipR c a.r b.r⟩) (by simp [Go.Ab.scr, scrL_len, hlen])
      (fun i w S pl v _ hv => by simp only [Go.Ab.scr, scrL_gt]; exact (hmV i w S pl v hv).scr) (fun r => by rw [hgl]; exact hrl r) (fun r j hj => by rw [hgl] at hj; rw [hgs]; exact (hto r j hj).scr _ _)
      (scr_okS (fun r j hk ⟨e1, t, l, e2⟩ => by
        rw [hgs] at e2
        rw [hno r j e1 ⟨t, l, scrV_own e2⟩] at hk
        cases hk) (fun _ _ => trivial) _)
    exact ⟨S', h1, h2⟩
theorem mixS_ok (c : Bool) {a b z z' : St} (hz : z = cond c a b) (hl : a.t.length = b.t.length) : Ghost z (mixS c a b) := fun {w S pl act} h => by
  obtain ⟨S', h1, h2⟩ := mixS_pl c hz hl h
  exact ⟨S', pl, h1, h2⟩
theorem meet_ok (c : Bool) {a b : St} (hl : a.t.length = b.t.length) : Ghost (cond c a b) (meet c a b) := by
  obtain ⟨h1, h2, h3, h4⟩ := homes_ok a.t b.t 0 a b
  unfold meet
  cases hh : homes a b 0 a.t b.t with
  | mk a' b' =>
    rw [hh] at h1 h2 h3 h4
    simp only at h1 h2 h3 h4 ⊢
    have : Ghost (cond c a' b') (mixS c a' b') := mixS_ok c (a := a') (b := b') (z := cond c a' b') (z' := a') rfl (by rw [h3, h4, hl])
    cases c
    · have t : Ghost b' (mixS false a' b') := this
      show Ghost b (mixS false a' b')
      exact Ghost.trans h2 t
    · have t : Ghost a' (mixS true a' b') := this
      show Ghost a (mixS true a' b')
      exact Ghost.trans h1 t
end
end Go.Ab
namespace Go.Ab
open Go.RowKit
set_option linter.unusedVariables false
set_option linter.unusedSimpArgs false
section
variable {w w' : World} {S : Fl → Cset} {pl : Pl} {s s' : St}
theorem ghost_homeI (s : St) (x : Nat) (t : Ty) : Ghost s (homeI s x t) := by
  unfold homeI
  split
  · rename_i hx
    intro w S pl a h
    have h1 := h.slots x
    rw [hx] at h1
    exact ⟨S, pl, h.slot x (RepV.nilAs h1 t .imm (.inl rfl)), slot_step s x _⟩
  · rename_i r c hx
    split
    · rename_i t' l hg
      intro w S pl a h
      have h1 := h.slots x
      rw [hx] at h1
      simp only [RepV, RepCell] at h1
      obtain ⟨q1, q2, q3, q4, q5, q6⟩ := take_row h hg
      rw [← h1.1] at q3 q4 q5 q6
      have g := q1.grow (R := fun b y => rowRange t' (a.tmps.getD x undef) b y) (fun b y hy => ⟨(q5 b y hy).1, q3.lt hy⟩)
      refine ⟨_, pl, g.slot x (p := .sl .imm t' l) ?_, ?_⟩
      · simp only [RepV, RepCell]
        exact q3.toRepC (fun _ _ h => .inl h) (fun _ _ h => .inr h)
      · refine ⟨.refl _ w, fun f _ b y hy => .inl hy, fun b y hy => ?_, fun b y hy => ?_, fun b y hy => .inl (q2.owned ((owned_of (s' := ⟨pt s.t x (.sl .imm t' l), pc s.r r c .any⟩) (s := ⟨s.t, pc s.r r c .any⟩) (fun _ _ => rfl) (fun _ => rfl) b y).1 hy))⟩
        · rcases hy with hy | hy
          · exact .inl hy
          · exact .inr (.inl (q6 b y hy))
        · rcases hy with hy | hy
          · exact .inl hy
          · exact .inr (.inl (q6 b y hy))
    · exact Ghost.refl s
  · exact Ghost.refl s
theorem homesOf_ok : ∀ (l : List (Nat × Bool × Ty)) (s : St), Ghost s (homesOf s l)
  | [], s => Ghost.refl s
  | (x, o, t) :: l, s => by
    simp only [homesOf]
    have h : Ghost s (cond o (home s x t) (homeI s x t)) := by
      cases o
      · exact ghost_homeI s x t
      · exact ghost_home s x t
    exact Ghost.trans h (homesOf_ok l _)
theorem ghost_cell (s : St) (r c : Nat) (p' : PV) (hto : To (gt (gr s.r r) c) p') (hn : ¬ (gt (gr s.r r) c = .nil ∧ ∃ t l, p' = .sl .own t l)) : Ghost s ⟨s.t, pc s.r r c p'⟩ := by
  intro w S pl a h
  have hg : ∀ r' j, gt (gr (pc s.r r c p') r') j = if r' = r ∧ j = c ∧ c < (gr s.r r).length then p' else gt (gr s.r r') j := fun r' j => gt_pc s r c p' r' j
  obtain ⟨S', h1, h2⟩ := h.recell ⟨s.t, pc s.r r c p'⟩ rfl (fun _ _ _ _ _ _ h => h) (fun r' => by rw [len_pc]; exact Nat.le_refl _)
    (fun r' j _ => by
      rw [hg]
      split
      · rename_i e; obtain ⟨rfl, rfl, _⟩ := e; exact hto
      · exact To.same)
    (by
      have key : ∀ r' j, ¬ (gt (gr s.r r') j = .nil ∧ ∃ t l, gt (gr (pc s.r r c p') r') j = .sl .own t l) := fun r' j ⟨e1, t, l, e2⟩ => by
        rw [hg] at e2
        split at e2
        · rename_i e; obtain ⟨rfl, rfl, _⟩ := e; exact hn ⟨e1, t, l, e2⟩
        · rw [e1] at e2; cases e2
      exact ⟨fun i => okV.all key (fun _ => trivial) _, fun r j => okV.all key (fun _ => trivial) _⟩)
  exact ⟨S', pl, h1, h2⟩
theorem ghost_nil (s : St) (r c : Nat) (t : Ty) (hx : gt (gr s.r r) c = .nil) : Ghost s (scr (fun r' c' => Nat.beq r' r && Nat.beq c' c) (fun _ => false) ⟨s.t, pc s.r r c (.sl .own t [])⟩) := by
  intro w S pl a h
  have hg : ∀ r' j, gt (gr (pc s.r r c (.sl .own t [])) r') j = if r' = r ∧ j = c ∧ c < (gr s.r r).length then .sl .own t [] else gt (gr s.r r') j := fun r' j => gt_pc s r c _ r' j
  have hgs : ∀ r' j, gt (gr (scr (fun r' c' => Nat.beq r' r && Nat.beq c' c) (fun _ => false) ⟨s.t, pc s.r r c (.sl .own t [])⟩).r r') j = scrV (fun r' c' => Nat.beq r' r && Nat.beq c' c) (fun _ => false) (gt (gr (pc s.r r c (.sl .own t [])) r') j) := fun r' j => by simp [Go.Ab.scr, gr_scrR, scrL_gt]
  have hgl : ∀ r', (gr (scr (fun r' c' => Nat.beq r' r && Nat.beq c' c) (fun _ => false) ⟨s.t, pc s.r r c (.sl .own t [])⟩).r r').length = (gr s.r r').length := fun r' => by
    have := len_pc s r c (.sl .own t []) r'
    simpa [Go.Ab.scr, gr_scrR, scrL_len] using this
  obtain ⟨S', h1, h2⟩ := h.recell (scr (fun r' c' => Nat.beq r' r && Nat.beq c' c) (fun _ => false) ⟨s.t, pc s.r r c (.sl .own t [])⟩) (by simp [Go.Ab.scr, scrL_len])
    (fun i w S pl v _ hv => by simp only [Go.Ab.scr, scrL_gt]; exact hv.scr) (fun r' => by rw [hgl]; exact Nat.le_refl _)
    (fun r' j _ => by
      rw [hgs]
      refine To.scr ?_ _ _
      rw [hg]
      split
      · rename_i e; obtain ⟨rfl, rfl, _⟩ := e; exact .inr (.inr (.inl ⟨t, hx, rfl⟩))
      · exact To.same)
    (scr_okS (fun r' j hk ⟨e1, t', l', e2⟩ => by
      rw [hgs] at e2
      have e3 := scrV_own e2
      rw [hg] at e3
      split at e3
      · rename_i e; obtain ⟨rfl, rfl, _⟩ := e
        have b1 : Nat.beq r' r' = true := by simp
        have b2 : Nat.beq j j = true := by simp
        rw [b1, b2] at hk
        cases hk
      · rw [e1] at e3; cases e3) (fun _ _ => trivial) _)
  exact ⟨S', pl, h1, h2⟩
theorem nilsOf_ok : ∀ (l : List (Nat × Nat × Bool × Ty)) (s : St), Ghost s (nilsOf s l)
  | [], s => Ghost.refl s
  | (r, c, o, t) :: l, s => by
    simp only [nilsOf]
    refine Ghost.trans ?_ (nilsOf_ok l _)
    split
    · rename_i hx
      cases o
      · simp only [cond_false]
        refine ghost_cell s r c _ ?_ ?_
        · rw [hx]
          exact .inr (.inr (.inr (.inr ⟨rfl, rfl, fun w S s pl v _ h => RepV.nilAs h t .imm (.inl rfl)⟩)))
        · rintro ⟨_, t', l', e⟩; cases e
      · simp only [cond_true]
        exact ghost_nil s r c t hx
    · rename_i t' x hx
      cases o
      · simp only [cond_false]
        refine ghost_cell s r c _ ?_ ?_
        · rw [hx]; exact .inr (.inl ⟨t', x, rfl, rfl⟩)
        · rintro ⟨_, t', l', e⟩; cases e
      · exact Ghost.refl s
    · exact Ghost.refl s
end
end Go.Ab
namespace Go.Ab
open Go.RowKit
set_option linter.unusedVariables false
set_option linter.unusedSimpArgs false
section
variable {w w' : World} {S : Fl → Cset} {pl : Pl} {s s' : St}
def Told (p p' : PV) : Prop := p' = .any ∨ p' = p ∨ (∃ t l, p = .sl .imm t l ∧ p' = .sl .bor t l) ∨ ∃ f t, p = .nil ∧ (f = .imm ∨ f = .bor) ∧ p' = .sl f t []
def ToldL : List PV → List PV → Prop
  | [], [] => True
  | p :: l, q :: m => Told p q ∧ ToldL l m
  | _, _ => False
theorem Told.rep {p p' : PV} (h : Told p p') {v : Value} (hS : Subs S) (hv : RepV w S s pl p v) : RepV w S s pl p' v := by
  rcases h with rfl | rfl | ⟨t, l, rfl, rfl⟩ | ⟨f, t, rfl, hf, rfl⟩
  · simp [RepV]
  · exact hv
  · simp only [RepV, RepCell] at hv ⊢
    exact RepC.mono (fun _ _ _ _ h => h) hS hv
  · exact RepV.nilAs hv t f hf
theorem Told.to {p p' : PV} (h : Told p p') : To p p' := by
  rcases h with rfl | rfl | ⟨t, l, rfl, rfl⟩ | ⟨f, t, rfl, hf, rfl⟩
  · exact To.any
  · exact To.same
  · exact .inr (.inr (.inr (.inr ⟨rfl, rfl, fun w S s pl v hS hv => Told.rep (.inr (.inr (.inl ⟨t, l, rfl, rfl⟩))) hS hv⟩)))
  · refine .inr (.inr (.inr (.inr ⟨rfl, ?_, fun w S s pl v hS hv => RepV.nilAs hv t f hf⟩)))
    rcases hf with rfl | rfl <;> rfl
theorem Told.notOwn {p' : PV} (h : Told .nil p') (t : Ty) (l : List t.val) : p' ≠ .sl .own t l := by
  rcases h with rfl | rfl | ⟨t, l, e, rfl⟩ | ⟨f, t, _, hf, rfl⟩
  · simp
  · simp
  · cases e
  · rcases hf with rfl | rfl <;> simp
theorem ToldL.len : ∀ {l m : List PV}, ToldL l m → l.length = m.length
  | [], [], _ => rfl
  | [], _ :: _, h => h.elim
  | _ :: _, [], h => h.elim
  | p :: l, q :: m, h => by simp [ToldL.len h.2]
theorem ToldL.gt : ∀ {l m : List PV}, ToldL l m → ∀ i, Told (gt l i) (gt m i)
  | [], [], _, i => .inr (.inl rfl)
  | [], _ :: _, h, _ => h.elim
  | _ :: _, [], h, _ => h.elim
  | p :: l, q :: m, h, 0 => h.1
  | p :: l, q :: m, h, i + 1 => ToldL.gt h.2 i
theorem ToldL.rep : ∀ {l m : List PV} {vs : List Value}, ToldL l m → Subs S → RepL w S s pl l vs → RepL w S s pl m vs
  | [], [], _, _, _, h => h
  | [], _ :: _, _, h, _, _ => h.elim
  | _ :: _, [], _, h, _, _ => h.elim
  | p :: l, q :: m, vs, h, hS, hv => by
    simp only [RepL] at hv ⊢
    obtain ⟨u, us, e, h1, h2⟩ := hv
    exact ⟨u, us, e, h.1.rep hS h1, ToldL.rep h.2 hS h2⟩
theorem ToldL.append : ∀ {a b m : List PV}, ToldL (a ++ b) m → ToldL a (ptake a.length m) ∧ ToldL b (pdrop a.length m)
  | [], b, m, h => by simp [ptake, pdrop, ToldL]; exact h
  | p :: a, b, [], h => h.elim
  | p :: a, b, q :: m, h => by
    obtain ⟨h1, h2⟩ := ToldL.append (a := a) h.2
    exact ⟨⟨h.1, h1⟩, h2⟩
theorem sameCaps_eq {l : List PV} : ∀ {m : List PV}, sameCaps l m = true → l = m := by
  induction l with
  | nil =>
    intro m h
    cases m with
    | nil => rfl
    | cons q m => simp [sameCaps] at h
  | cons p l ih =>
    intro m h
    cases m with
    | nil => cases p <;> simp [sameCaps] at h
    | cons q m =>
      cases p <;> cases q <;> simp [sameCaps] at h
      obtain ⟨⟨rfl, rfl⟩, h⟩ := h
      rw [ih h]
theorem same_eq {p q : PV} (h : same p q = true) : p = q := by
  unfold same at h
  split at h
  · simp at h; obtain ⟨rfl, rfl⟩ := h; rfl
  · simp at h; obtain ⟨rfl, rfl⟩ := h; rfl
  · rfl
  · simp only [Bool.and_eq_true, beq_iff_eq] at h; obtain ⟨rfl, h⟩ := h; rw [sameCaps_eq h]
  · simp at h
theorem decC_told {f : Fl} {t : Ty} {p : PV} {x : t.val} (h : decC f t p = some x) (hf : okCell (.val f t) p = true) : Told p (match enc f t x with | [p] => p | _ => .any) := by
  unfold decC at h
  split at h
  · rename_i k k' n
    split at h
    · rename_i e; subst e; obtain rfl := Option.some.inj h; exact .inr (.inl rfl)
    · cases h
  · obtain rfl := Option.some.inj h; exact .inr (.inl rfl)
  · obtain rfl := Option.some.inj h; exact .inr (.inl rfl)
  · rename_i t f' t' l
    split at h
    · rename_i hh
      split at h
      · rename_i e
        subst e
        obtain rfl := Option.some.inj h
        rcases hh with rfl | ⟨rfl, rfl⟩
        · exact .inr (.inl rfl)
        · exact .inr (.inr (.inl ⟨t', l, rfl, rfl⟩))
      · cases h
    · cases h
  · rename_i t
    obtain rfl := Option.some.inj h
    refine .inr (.inr (.inr ⟨f, t, rfl, ?_, rfl⟩))
    cases f <;> simp_all [okCell]
  · cases h
theorem decL_told (l : List CS) : ∀ (ps : List PV) (v : (tyL l).val), decL l ps = some v → fit l ps = true → ToldL ps (encL l v) := by
  induction l with
  | nil =>
    intro ps v h hf
    cases ps with
    | nil => exact trivial
    | cons _ _ => simp [fit] at hf
  | cons c l ih =>
    intro ps v h hf
    cases ps with
    | nil => simp [fit] at hf
    | cons p ps =>
      simp only [fit, Bool.and_eq_true] at hf
      cases c with
      | any => exact ⟨.inl rfl, ih ps v h hf.2⟩
      | fix q =>
        have h' : (if same q p = true then decL l ps else none) = some v := h
        split at h'
        · rename_i e
          have := same_eq e
          subst this
          exact ⟨.inr (.inl rfl), ih ps v h' hf.2⟩
        · cases h'
      | val f t =>
        have h' : (match decC f t p with
          | some x => match decL l ps with
            | some v => some (x, v)
            | none => none
          | none => none) = some v := h
        cases hx : decC f t p with
        | none => rw [hx] at h'; cases h'
        | some x =>
          cases hv : decL l ps with
          | none => rw [hx, hv] at h'; cases h'
          | some v' =>
            rw [hx, hv] at h'
            obtain rfl := Option.some.inj h'
            exact ⟨decC_told hx hf.1, ih ps v' hv hf.2⟩
theorem fit_append : ∀ {l1 l2 : List CS} {p1 p2 : List PV}, fit l1 p1 = true → fit l2 p2 = true → fit (l1 ++ l2) (p1 ++ p2) = true
  | [], _, [], _, _, h => h
  | [], _, _ :: _, _, h, _ => by simp [fit] at h
  | _ :: _, _, [], _, h, _ => by simp [fit] at h
  | c :: l1, l2, p :: p1, p2, h, k => by
    simp only [fit, Bool.and_eq_true] at h
    simp only [List.cons_append, fit, Bool.and_eq_true]
    exact ⟨h.1, fit_append h.2 k⟩
theorem fit_len : ∀ {l : List CS} {p : List PV}, fit l p = true → p.length = clen l
  | [], [], _ => rfl
  | [], _ :: _, h => by simp [fit] at h
  | _ :: _, [], h => by simp [fit] at h
  | c :: l, p :: ps, h => by
    simp only [fit, Bool.and_eq_true] at h
    simp [clen, fit_len h.2]
end
end Go.Ab
namespace Go.Ab
open Go.RowKit
set_option linter.unusedVariables false
set_option linter.unusedSimpArgs false
section
variable {w w' : World} {S : Fl → Cset} {pl : Pl} {s s' : St}
def TV (p p' : PV) : Prop := ∀ (w : World) (S : Fl → Cset) (s : St) (pl : Pl) (v : Value), Subs S → RepV w S s pl p v → RepV w S s pl p' v
theorem ropCells_fit : ∀ {l : List (List CS)} {ps cs : List PV}, ropCells l ps = some cs → fit l.flatten cs = true
  | [], [], cs, h => by simp only [ropCells, Option.some.injEq] at h; subst h; rfl
  | [], _ :: _, _, h => by simp [ropCells] at h
  | c :: l, ps, cs, h => by
    unfold ropCells at h
    split at h
    · rename_i e1 e2; cases e2
    · rename_i c' l' qs ps' e1
      cases e1
      cases hf : fit c qs with
      | false => rw [hf] at h; cases h
      | true =>
        rw [hf] at h
        simp only [cond_true] at h
        cases hr : ropCells l ps' with
        | none => rw [hr] at h; cases h
        | some r =>
          rw [hr] at h
          obtain rfl := Option.some.inj h
          rw [pcat_eq, List.flatten_cons]
          exact fit_append hf (ropCells_fit hr)
    · cases h
theorem slotCells_fit : ∀ {l : List SS} {ps cs : List PV}, slotCells l ps = some cs → fit (flats l) cs = true := by
  intro l
  induction l with
  | nil =>
    intro ps cs h
    cases ps with
    | nil => simp only [slotCells, Option.some.injEq] at h; subst h; rfl
    | cons _ _ => simp [slotCells] at h
  | cons x l ih =>
    intro ps cs h
    unfold slotCells at h
    split at h
    · rename_i e1 e2; cases e2
    · rename_i c l' p ps' e1
      cases e1
      cases hf : okCell c p with
      | false => rw [hf] at h; cases h
      | true =>
        rw [hf] at h
        simp only [cond_true] at h
        cases hr : slotCells l ps' with
        | none => rw [hr] at h; cases h
        | some r =>
          rw [hr] at h
          obtain rfl := Option.some.inj h
          simp [flats, SS.flat, fit, hf, ih hr]
    · rename_i c l' qs ps' e1
      cases e1
      cases hf : fit c qs with
      | false => rw [hf] at h; cases h
      | true =>
        rw [hf] at h
        simp only [cond_true] at h
        cases hr : slotCells l ps' with
        | none => rw [hr] at h; cases h
        | some r =>
          rw [hr] at h
          obtain rfl := Option.some.inj h
          rw [pcat_eq]
          exact fit_append hf (ih hr)
    · rename_i c l' qs ps' e1
      cases e1
      cases hf : fit c qs with
      | false => rw [hf] at h; cases h
      | true =>
        rw [hf] at h
        simp only [cond_true] at h
        cases hr : slotCells l ps' with
        | none => rw [hr] at h; cases h
        | some r =>
          rw [hr] at h
          obtain rfl := Option.some.inj h
          rw [pcat_eq]
          exact fit_append hf (ih hr)
    · rename_i f caps l' f' vs ps' e1
      cases e1
      split at h
      · cases hq : ropCells caps vs with
        | none => rw [hq] at h; cases h
        | some qs =>
          rw [hq] at h
          simp only at h
          cases hr : slotCells l ps' with
          | none => rw [hr] at h; cases h
          | some r =>
            rw [hr] at h
            obtain rfl := Option.some.inj h
            rw [pcat_eq]
            exact fit_append (ropCells_fit hq) (ih hr)
      · cases h
    · cases h
theorem rootCells_fit : ∀ {l : List (List CS)} {rs : List (List PV)} {cs : List PV}, rootCells l rs = some cs → fit l.flatten cs = true := by
  intro l
  induction l with
  | nil => intro rs cs h; simp only [rootCells, Option.some.injEq] at h; subst h; rfl
  | cons c l ih =>
    intro rs cs h
    cases c with
    | nil =>
      cases rs with
      | nil => exact ih (rs := []) h
      | cons r rs => exact ih (rs := rs) h
    | cons c0 c =>
      cases rs with
      | nil => simp [rootCells] at h
      | cons r rs =>
        have h' : (cond (fit (c0 :: c) r) (match rootCells l rs with
          | some z => some (pcat r z)
          | none => none) none) = some cs := h
        cases hf : fit (c0 :: c) r with
        | false => rw [hf] at h'; cases h'
        | true =>
          rw [hf] at h'
          simp only [cond_true] at h'
          cases hr : rootCells l rs with
          | none => rw [hr] at h'; cases h'
          | some z =>
            rw [hr] at h'
            obtain rfl := Option.some.inj h'
            rw [pcat_eq, List.flatten_cons]
            exact fit_append hf (ih hr)
theorem roots_told : ∀ {l : List (List CS)} {rs : List (List PV)} {cs qs : List PV}, rootCells l rs = some cs → ToldL cs qs → ∀ r, (gr (rootsOf l qs) r).length ≤ (gr rs r).length ∧ ∀ j, j < (gr (rootsOf l qs) r).length → Told (gt (gr rs r) j) (gt (gr (rootsOf l qs) r) j) := by
  intro l
  induction l with
  | nil => intro rs cs qs h ht r; simp [rootsOf, gr]
  | cons c l ih =>
    intro rs cs qs h ht r
    cases c with
    | nil =>
      have hro : rootsOf ([] :: l) qs = [] :: rootsOf l qs := by simp [rootsOf, clen, ptake, pdrop]
      rw [hro]
      cases rs with
      | nil =>
        cases r with
        | zero => simp [gr]
        | succ r =>
          have := ih (rs := []) h ht r
          simpa [gr] using this
      | cons x rs =>
        cases r with
        | zero => simp [gr]
        | succ r => simpa [gr] using ih (rs := rs) h ht r
    | cons c0 c =>
      cases rs with
      | nil => simp [rootCells] at h
      | cons x rs =>
        have h' : (cond (fit (c0 :: c) x) (match rootCells l rs with
          | some z => some (pcat x z)
          | none => none) none) = some cs := h
        cases hf : fit (c0 :: c) x with
        | false => rw [hf] at h'; cases h'
        | true =>
          rw [hf] at h'
          simp only [cond_true] at h'
          cases hr : rootCells l rs with
          | none => rw [hr] at h'; cases h'
          | some z =>
            rw [hr] at h'
            obtain rfl := Option.some.inj h'
            rw [pcat_eq] at ht
            have hlen := fit_len hf
            obtain ⟨t1, t2⟩ := ht.append
            rw [hlen] at t1 t2
            have hro : rootsOf ((c0 :: c) :: l) qs = ptake (clen (c0 :: c)) qs :: rootsOf l (pdrop (clen (c0 :: c)) qs) := rfl
            rw [hro]
            cases r with
            | zero =>
              simp only [gr]
              exact ⟨by rw [← t1.len]; exact Nat.le_refl _, fun j _ => t1.gt j⟩
            | succ r => exact ih hr t2 r
theorem reps_told : ∀ {l : List (List CS)} {ps cs : List PV}, ropCells l ps = some cs → ∀ {rest qs : List PV}, ToldL (cs ++ rest) qs → (∀ (w : World) (S : Fl → Cset) (s : St) (pl : Pl) (vs : List Value), Subs S → RepL w S s pl ps vs → RepL w S s pl (reps l qs).1 vs) ∧ ToldL rest (reps l qs).2
  | [], [], cs, h, rest, qs, ht => by
    simp only [ropCells, Option.some.injEq] at h
    subst h
    exact ⟨fun _ _ _ _ _ _ h => h, ht⟩
  | [], _ :: _, _, h, _, _, _ => by simp [ropCells] at h
  | c :: l, ps, cs, h, rest, qs, ht => by
    unfold ropCells at h
    split at h
    · rename_i e1 e2; cases e2
    · rename_i c' l' xs ps' e1
      cases e1
      cases hf : fit c xs with
      | false => rw [hf] at h; cases h
      | true =>
        rw [hf] at h
        simp only [cond_true] at h
        cases hr : ropCells l ps' with
        | none => rw [hr] at h; cases h
        | some r =>
          rw [hr] at h
          obtain rfl := Option.some.inj h
          rw [pcat_eq, List.append_assoc] at ht
          obtain ⟨t1, t2⟩ := ht.append
          rw [fit_len hf] at t1 t2
          obtain ⟨k1, k2⟩ := reps_told hr t2
          simp only [reps]
          refine ⟨fun w S s pl vs hS hv => ?_, k2⟩
          simp only [RepL] at hv ⊢
          obtain ⟨u, us, e, h1, h2⟩ := hv
          refine ⟨u, us, e, ?_, k1 w S s pl us hS h2⟩
          simp only [RepV] at h1 ⊢
          obtain ⟨b, o, ws, e1, g1, g2, g3⟩ := h1
          exact ⟨b, o, ws, e1, g1, t1.rep hS g2, g3⟩
    · cases h
theorem slots_told : ∀ {l : List SS} {ps cs : List PV}, slotCells l ps = some cs → ∀ {rest qs : List PV}, ToldL (cs ++ rest) qs → (builds l qs).length = ps.length ∧ ∀ i, TV (gt ps i) (gt (builds l qs) i) := by
  intro l
  induction l with
  | nil =>
    intro ps cs h rest qs ht
    cases ps with
    | nil => exact ⟨rfl, fun i w S s pl v _ h => h⟩
    | cons _ _ => simp [slotCells] at h
  | cons x l ih =>
    intro ps cs h rest qs ht
    have go : ∀ {p q : PV} {ps' r : List PV} {rest qs' : List PV} , slotCells l ps' = some r → ToldL (r ++ rest) qs' → TV p q → ps = p :: ps' → builds (x :: l) qs = q :: builds l qs' → (builds (x :: l) qs).length = ps.length ∧ ∀ i, TV (gt ps i) (gt (builds (x :: l) qs) i) :=
      fun {p q ps' r rest qs'} hr ht htv e1 e2 => by
        obtain ⟨k1, k2⟩ := ih hr ht
        rw [e1, e2]
        refine ⟨by simp [k1], fun i => ?_⟩
        cases i with
        | zero => exact htv
        | succ i => exact k2 i
    unfold slotCells at h
    split at h
    · rename_i e1 e2; cases e2
    · rename_i c l' p ps' e1
      cases e1
      cases hf : okCell c p with
      | false => rw [hf] at h; cases h
      | true =>
        rw [hf] at h
        simp only [cond_true] at h
        cases hr : slotCells l ps' with
        | none => rw [hr] at h; cases h
        | some r =>
          rw [hr] at h
          obtain rfl := Option.some.inj h
          cases qs with
          | nil => exact ht.elim
          | cons q qs => exact go hr ht.2 (fun w S s pl v hS hv => ht.1.rep hS hv) rfl rfl
    · rename_i c l' xs ps' e1
      cases e1
      cases hf : fit c xs with
      | false => rw [hf] at h; cases h
      | true =>
        rw [hf] at h
        simp only [cond_true] at h
        cases hr : slotCells l ps' with
        | none => rw [hr] at h; cases h
        | some r =>
          rw [hr] at h
          obtain rfl := Option.some.inj h
          rw [pcat_eq, List.append_assoc] at ht
          obtain ⟨t1, t2⟩ := ht.append
          rw [fit_len hf] at t1 t2
          refine go hr t2 (q := .agg (ptake (clen c) qs)) (fun w S s pl v hS hv => ?_) rfl rfl
          simp only [RepV] at hv ⊢
          obtain ⟨vs, e, g1, g2⟩ := hv
          exact ⟨vs, e, t1.rep hS g1, g2⟩
    · rename_i c l' xs ps' e1
      cases e1
      cases hf : fit c xs with
      | false => rw [hf] at h; cases h
      | true =>
        rw [hf] at h
        simp only [cond_true] at h
        cases hr : slotCells l ps' with
        | none => rw [hr] at h; cases h
        | some r =>
          rw [hr] at h
          obtain rfl := Option.some.inj h
          rw [pcat_eq, List.append_assoc] at ht
          obtain ⟨t1, t2⟩ := ht.append
          rw [fit_len hf] at t1 t2
          refine go hr t2 (q := .rop (ptake (clen c) qs) 0) (fun w S s pl v hS hv => ?_) rfl rfl
          simp only [RepV] at hv ⊢
          obtain ⟨b, o, ws, e1, g1, g2, g3⟩ := hv
          exact ⟨b, o, ws, e1, g1, t1.rep hS g2, g3⟩
    · rename_i f caps l' f' vs ps' e1
      cases e1
      split at h
      · rename_i e
        subst e
        cases hq : ropCells caps vs with
        | none => rw [hq] at h; cases h
        | some xs =>
          rw [hq] at h
          simp only at h
          cases hr : slotCells l ps' with
          | none => rw [hr] at h; cases h
          | some r =>
            rw [hr] at h
            obtain rfl := Option.some.inj h
            rw [pcat_eq, List.append_assoc] at ht
            obtain ⟨k1, k2⟩ := reps_told hq ht
            refine go hr k2 (q := .clo f (reps caps qs).1) (fun w S s pl v hS hv => ?_) rfl rfl
            simp only [RepV] at hv ⊢
            obtain ⟨vs', e, g1⟩ := hv
            exact ⟨vs', e, k1 _ _ _ _ _ hS g1⟩
      · cases h
    · cases h
theorem rdSt_ok {ins : List SS} {rts : List (List CS)} {hm : List (Nat × Bool × Ty)} {nl : List (Nat × Nat × Bool × Ty)} {v : (tyL (flats ins ++ rts.flatten)).val} (h : rdSt ins rts hm nl s = some v) : Ghost s (mkSt ins rts v) := by
  unfold rdSt at h
  simp only at h
  refine Ghost.trans (Ghost.trans (homesOf_ok hm s) (nilsOf_ok nl (homesOf s hm))) ?_
  generalize nilsOf (homesOf s hm) nl = s1 at *
  cases hc : slotCells ins s1.t with
  | none => rw [hc] at h; cases h
  | some cs =>
    rw [hc] at h
    simp only at h
    cases hr : rootCells rts s1.r with
    | none => rw [hr] at h; cases h
    | some rs =>
      rw [hr] at h
      simp only at h
      rw [pcat_eq] at h
      have hf1 := slotCells_fit hc
      have hf2 := rootCells_fit hr
      have ht := decL_told _ _ _ h (fit_append hf1 hf2)
      obtain ⟨t1, t2⟩ := ht.append
      rw [fit_len hf1] at t1 t2
      obtain ⟨k1, k2⟩ := slots_told hc (rest := []) (by simpa using t1)
      have k3 := roots_told hr t2
      intro w S pl a hrep
      have hms : mkSt ins rts v = ⟨builds ins (ptake (clen (flats ins)) (encL _ v)), rootsOf rts (pdrop (clen (flats ins)) (encL _ v))⟩ := rfl
      rw [hms]
      obtain ⟨S', g1, g2⟩ := hrep.recell ⟨builds ins (ptake (clen (flats ins)) (encL _ v)), rootsOf rts (pdrop (clen (flats ins)) (encL _ v))⟩ k1 (fun i w S pl v hS hv => k2 i w S s1 pl v hS hv) (fun r => (k3 r).1) (fun r j hj => ((k3 r).2 j hj).to)
        (by
          have key : ∀ r c, ¬ (gt (gr s1.r r) c = .nil ∧ ∃ t l, gt (gr (rootsOf rts (pdrop (clen (flats ins)) (encL _ v))) r) c = .sl .own t l) := fun r c ⟨e1, t, l, e2⟩ => by
            rcases Nat.lt_or_ge c (gr (rootsOf rts (pdrop (clen (flats ins)) (encL _ v))) r).length with hlt | hge
            · have := (k3 r).2 c hlt
              rw [e1] at this
              exact this.notOwn t l e2
            · rw [gt_big _ _ hge] at e2; cases e2
          exact ⟨fun i => okV.all key (fun _ => trivial) _, fun r j => okV.all key (fun _ => trivial) _⟩)
      exact ⟨S', pl, g1, g2⟩
end
end Go.Ab
namespace Go.Ab
open Go.RowKit
set_option linter.unusedVariables false
set_option linter.unusedSimpArgs false
def RegOK (P : Program) (E : Env) : Prop := ∀ (bind drawn : Bool) (ops : Array Oper) (R : Type) (K : List Bool → St → Option R) (s : St) (res : R), evR E bind drawn ops.toList K s = some res →
  ∃ ex s', K ex s' = some res ∧ ((∀ b ∈ ex, b = true) → ∀ {w : World} {S : Fl → Cset} {pl : Pl} {a : Act} {id : Nat} {Q : Exit → Act → World → Prop}, Rep w S pl s a.tmps → (∀ a' w', Reach E.pin w S pl s a s' a' w' → Q .normal a' w') → (Code.region id ops drawn).wp P Q a w)
def loopsOf : Code → List Code
  | .seq a b => loopsOf a ++ loopsOf b
  | .cond _ a b => loopsOf a ++ loopsOf b
  | .block _ c => loopsOf c
  | .loop c => c :: loopsOf c
  | _ => []
def Out : (l : List XS) → (tyX l).val → Exit → St → Prop
  | [] => fun _ _ _ => False
  | [x] => fun v e s => e = exitOf x.by' ∧ s = mkSt x.ins x.rts v
  | x :: y :: l => fun v e s => Sum.elim (fun v => e = exitOf x.by' ∧ s = mkSt x.ins x.rts v) (fun v => Out (y :: l) v e s) v
def LoopOK (P : Program) (E : Env) (c : Code) : Prop := ∀ e, find (firstRegion c) E.loops = some e → ∀ v r, e.f v = some r →
  ∀ {w : World} {S : Fl → Cset} {pl : Pl} {a : Act} {Q : Exit → Act → World → Prop}, Rep w S pl (mkSt e.ins e.rts v) a.tmps → (∀ x s' a' w', Out e.xs r x s' → Reach E.pin w S pl (mkSt e.ins e.rts v) a s' a' w' → Q x a' w') → (Code.loop c).wp P Q a w
section
variable {P : Program} {E : Env} {w w' : World} {S : Fl → Cset} {pl : Pl} {s s' : St} {a : Act} {R : Type}
theorem Reach.ghost {s1 s2 : St} {a' : Act} (h : Reach E.pin w S pl s a s1 a' w') (g : Ghost s1 s2) : Reach E.pin w S pl s a s2 a' w' := by
  obtain ⟨S1, p1, h1, h2, h3⟩ := h
  obtain ⟨S2, p2, g1, g2⟩ := g h1
  exact ⟨S2, p2, g1, h2.trans g2, h3⟩
theorem Reach.then {s1 s2 : St} {a1 a2 : Act} {w1 w2 : World} (h : Reach E.pin w S pl s a s1 a1 w1) (k : ∀ {S1 : Fl → Cset} {p1 : Pl}, Rep w1 S1 p1 s1 a1.tmps → Reach E.pin w1 S1 p1 s1 a1 s2 a2 w2) : Reach E.pin w S pl s a s2 a2 w2 := by
  obtain ⟨S1, p1, h1, h2, h3⟩ := h
  exact Reach.trans ⟨h1, h2, h3⟩ (k h1)
theorem outs_ok {K : Exit → St → Option R} {res : R} : ∀ (l : List XS) (v : (tyX l).val), outs K l v = some res → ∀ e s, Out l v e s → K e s = some res
  | [], _, h, _, _, _ => by simp [outs] at h
  | [x], v, h, e, s, ⟨h1, h2⟩ => by subst h1; subst h2; exact h
  | x :: y :: l, .inl v, h, e, s, ⟨h1, h2⟩ => by subst h1; subst h2; exact h
  | x :: y :: l, .inr v, h, e, s, ho => outs_ok (y :: l) v h e s ho
theorem isExit_eq {b : Option Nat} {e : Exit} (h : isExit b e = true) : e = exitOf b := by
  unfold isExit at h
  split at h
  · rfl
  · rw [Nat.eq_of_beq_eq_true h]; rfl
  · cases h
theorem intos_ok : ∀ (l : List XS) (e : Exit) (s : St) (v : (tyX l).val), intos l e s = some v → ∃ s', Out l v e s' ∧ Ghost s s'
  | [], _, _, _, h => by simp [intos] at h
  | [x], e, s, v, h => by
    have h' : (if isExit x.by' e = true then rdSt x.ins x.rts x.hm x.nl s else none) = some v := h
    split at h'
    · rename_i he
      exact ⟨_, ⟨isExit_eq he, rfl⟩, rdSt_ok h'⟩
    · cases h'
  | x :: y :: l, e, s, v, h => by
    have h' : (if isExit x.by' e = true then (match rdSt x.ins x.rts x.hm x.nl s with
      | some v => some (.inl v)
      | none => none)
      else match intos (y :: l) e s with
      | some v => some (.inr v)
      | none => none) = some v := h
    split at h'
    · rename_i he
      cases hr : rdSt x.ins x.rts x.hm x.nl s with
      | none => rw [hr] at h'; cases h'
      | some u =>
        rw [hr] at h'
        obtain rfl := Option.some.inj h'
        exact ⟨_, ⟨isExit_eq he, rfl⟩, rdSt_ok hr⟩
    · cases hr : intos (y :: l) e s with
      | none => rw [hr] at h'; cases h'
      | some u =>
        rw [hr] at h'
        obtain rfl := Option.some.inj h'
        exact intos_ok (y :: l) e s u hr
theorem gmap_true {l : List Bool} (h : ∀ b ∈ gmap true l, b = true) : ∀ b ∈ l, b = true := by
  induction l with
  | nil => simp
  | cons c l ih =>
    simp only [gmap, Bool.not_true, Bool.false_or, List.mem_cons, forall_eq_or_imp] at h
    intro b hb
    rcases List.mem_cons.1 hb with rfl | hb
    · exact h.1
    · exact ih h.2 b hb
theorem evS_ok (hR : RegOK P E) : ∀ (c : Code) (s s' : St) (o : List Bool), evS E c s = some (o, s') → (∀ b ∈ o, b = true) →
    ∀ {w : World} {S : Fl → Cset} {pl : Pl} {a : Act} {Q : Exit → Act → World → Prop}, Rep w S pl s a.tmps → (∀ a' w', Reach E.pin w S pl s a s' a' w' → Q .normal a' w') → c.wp P Q a w := by
  intro c
  induction c with
  | skip =>
    intro s s' o h ho w S pl a Q hr hQ
    simp only [evS, Option.some.injEq, Prod.mk.injEq] at h
    obtain ⟨rfl, rfl⟩ := h
    exact wp_skip (hQ a w ⟨S, pl, hr, Step.refl _ _ _ _, Keep.refl _ _⟩)
  | region id ops dr =>
    intro s s' o h ho w S pl a Q hr hQ
    simp only [evS] at h
    obtain ⟨ex, s1, h1, h2⟩ := hR _ _ _ _ _ _ _ h
    simp only [Option.some.injEq, Prod.mk.injEq] at h1
    obtain ⟨rfl, rfl⟩ := h1
    exact h2 ho hr hQ
  | seq x y ihx ihy =>
    intro s s' o h ho w S pl a Q hr hQ
    simp only [evS] at h
    cases h1 : evS E x s with
    | none => rw [h1] at h; cases h
    | some q =>
      obtain ⟨o1, s1⟩ := q
      rw [h1] at h
      simp only at h
      cases h2 : evS E y s1 with
      | none => rw [h2] at h; cases h
      | some q =>
        obtain ⟨o2, s2⟩ := q
        rw [h2] at h
        simp only [Option.some.injEq, Prod.mk.injEq] at h
        obtain ⟨rfl, rfl⟩ := h
        refine wp_seq (ihx s s1 o1 h1 (fun b hb => ho b (by simp [hb])) hr fun a1 w1 hr1 => ?_)
        obtain ⟨S1, p1, g1, g2, g3⟩ := hr1
        exact ihy s1 s2 o2 h2 (fun b hb => ho b (by simp [hb])) g1 fun a2 w2 hr2 => hQ a2 w2 (Reach.trans ⟨g1, g2, g3⟩ hr2)
  | cond c x y ihx ihy =>
    intro s s' o h ho w S pl a Q hr hQ
    simp only [evS] at h
    split at h
    · rename_i t hc
      have hcv := hr.ev c
      rw [hc] at hcv
      simp only [RepV, RepCell] at hcv
      cases h1 : evS E x s with
      | none => rw [h1] at h; cases h
      | some q =>
        obtain ⟨o1, s1⟩ := q
        rw [h1] at h
        simp only at h
        cases h2 : evS E y s with
        | none => rw [h2] at h; cases h
        | some q =>
          obtain ⟨o2, s2⟩ := q
          rw [h2] at h
          simp only at h
          cases hl : Nat.beq (plen s1.t) (plen s2.t) with
          | false => rw [hl] at h; cases h
          | true =>
            rw [hl] at h
            simp only [cond_true, Option.some.injEq, Prod.mk.injEq] at h
            obtain ⟨rfl, rfl⟩ := h
            have hlen : s1.t.length = s2.t.length := by
              have := Nat.eq_of_beq_eq_true hl
              rwa [plen_eq, plen_eq] at this
            have hm : Ghost (cond t s1 s2) (meet t s1 s2) := meet_ok t hlen
            refine wp_cond_split hcv (fun ht => ?_) (fun ht => ?_)
            · subst ht
              have hm' : Ghost s1 (meet true s1 s2) := hm
              exact ihx s s1 o1 h1 (gmap_true fun b hb => ho b (by simp [hb])) hr fun a1 w1 hr1 => hQ a1 w1 (hr1.ghost hm')
            · subst ht
              have hm' : Ghost s2 (meet false s1 s2) := hm
              exact ihy s s2 o2 h2 (gmap_true fun b hb => ho b (by simp [hb])) hr fun a1 w1 hr1 => hQ a1 w1 (hr1.ghost hm')
    · cases h
  | _ => intro s s' o h; simp [evS] at h
theorem under_some {l : List Bool} {x : Option R} {res : R} (h : under l x = some res) : (∀ b ∈ l, b = true) ∧ x = some res := by
  have hall : ∀ l : List Bool, allOk l = true → ∀ b ∈ l, b = true := fun l => by
    induction l with
    | nil => simp
    | cons c l ih =>
      intro hl b hb
      cases l with
      | nil => simp only [allOk] at hl; simp at hb; subst hb; exact hl
      | cons d l =>
        simp only [allOk, Bool.and_eq_true] at hl
        rcases List.mem_cons.1 hb with rfl | hb
        · exact hl.1
        · exact ih hl.2 b hb
  cases l with
  | nil => exact ⟨by simp, h⟩
  | cons c l =>
    have h' : cond (allOk (c :: l)) x none = some res := h
    cases ha : allOk (c :: l) with
    | false => rw [ha] at h'; cases h'
    | true => rw [ha] at h'; exact ⟨hall _ ha, h'⟩
theorem evC_ok (hR : RegOK P E) : ∀ (c : Code) (s : St) (K : Exit → St → Option R) (res : R), (∀ l ∈ loopsOf c, LoopOK P E l) → evC E c s K = some res →
    ∀ {w : World} {S : Fl → Cset} {pl : Pl} {a : Act} {Q : Exit → Act → World → Prop}, Rep w S pl s a.tmps → (∀ e s' a' w', K e s' = some res → Reach E.pin w S pl s a s' a' w' → Q e a' w') → c.wp P Q a w := by
  intro c
  induction c with
  | skip =>
    intro s K res hl h w S pl a Q hr hQ
    exact wp_skip (hQ .normal s a w h ⟨S, pl, hr, Step.refl _ _ _ _, Keep.refl _ _⟩)
  | region id ops dr =>
    intro s K res hl h w S pl a Q hr hQ
    simp only [evC] at h
    obtain ⟨ex, s1, h1, h2⟩ := hR _ _ _ _ _ _ _ h
    obtain ⟨g1, g2⟩ := under_some h1
    exact h2 g1 hr fun a' w' hre => hQ .normal s1 a' w' g2 hre
  | seq x y ihx ihy =>
    intro s K res hl h w S pl a Q hr hQ
    simp only [evC] at h
    refine wp_seq (ihx s _ res (fun l hm => hl l (by simp [loopsOf, hm])) h hr fun e s1 a1 w1 he hre => ?_)
    cases e with
    | normal =>
      simp only [Exit.then]
      obtain ⟨S1, p1, g1, g2, g3⟩ := hre
      exact ihy s1 K res (fun l hm => hl l (by simp [loopsOf, hm])) he g1 fun e2 s2 a2 w2 he2 hr2 => hQ e2 s2 a2 w2 he2 (Reach.trans ⟨g1, g2, g3⟩ hr2)
    | _ => exact hQ _ s1 a1 w1 he hre
  | cond c x y ihx ihy =>
    intro s K res hl h w S pl a Q hr hQ
    have hlx : ∀ l ∈ loopsOf x, LoopOK P E l := fun l hm => hl l (by simp [loopsOf, hm])
    have hly : ∀ l ∈ loopsOf y, LoopOK P E l := fun l hm => hl l (by simp [loopsOf, hm])
    have hcv := hr.ev c
    unfold evC at h
    split at h
    · rename_i t hc
      rw [hc] at hcv
      simp only [RepV, RepCell] at hcv
      split at h
      · cases h1 : evS E (.cond c x y) s with
        | none => rw [h1] at h; cases h
        | some q =>
          obtain ⟨o1, s1⟩ := q
          rw [h1] at h
          obtain ⟨g1, g2⟩ := under_some h
          exact evS_ok hR _ s s1 o1 h1 g1 hr fun a' w' hre => hQ .normal s1 a' w' g2 hre
      · refine wp_cond_split hcv (fun ht => ?_) (fun ht => ?_)
        · subst ht; exact ihx s K res hlx h hr hQ
        · subst ht; exact ihy s K res hly h hr hQ
    · rename_i e hc
      rw [hc] at hcv
      simp only [RepV, RepCell] at hcv
      obtain ⟨b, hb, he⟩ := hcv
      unfold both at h
      split at h
      · cases h
      · rename_i hne
        refine wp_cond_split hb (fun ht => ?_) (fun ht => ?_)
        · have hxy : evC E x s K = evC E y s K := by
            rcases Classical.em (evC E x s K = evC E y s K) with hh | hh
            · exact hh
            · exact absurd ⟨he ht, hh⟩ hne
          exact ihx s K res hlx (by rw [hxy]; exact h) hr hQ
        · exact ihy s K res hly h hr hQ
    · cases h
  | block id c ih =>
    intro s K res hl h w S pl a Q hr hQ
    simp only [evC] at h
    refine wp_block (ih s _ res (fun l hm => hl l (by simpa [loopsOf] using hm)) h hr fun e s1 a1 w1 he hre => ?_)
    cases e with
    | exit i =>
      simp only [Exit.inBlock]
      simp only at he
      split
      · rename_i hi; rw [if_pos hi] at he; exact hQ .normal s1 a1 w1 he hre
      · rename_i hi; rw [if_neg hi] at he; exact hQ (.exit i) s1 a1 w1 he hre
    | _ => exact hQ _ s1 a1 w1 he hre
  | loop c ih =>
    intro s K res hl h w S pl a Q hr hQ
    simp only [evC] at h
    split at h
    · rename_i e he
      cases hv : rdSt e.ins e.rts e.hm e.nl s with
      | none => rw [hv] at h; cases h
      | some v =>
        rw [hv] at h
        simp only at h
        cases hf : e.f v with
        | none => rw [hf] at h; cases h
        | some r =>
          rw [hf] at h
          obtain ⟨S', pl', k1, k2⟩ := rdSt_ok hv hr
          refine hl c (by simp [loopsOf]) e he v r hf k1 fun x' s' a' w' ho hre => ?_
          exact hQ x' s' a' w' (outs_ok e.xs r h x' s' ho) (Reach.trans ⟨k1, k2, Keep.refl _ _⟩ hre)
    · cases h
  | exit id =>
    intro s K res hl h w S pl a Q hr hQ
    exact wp_exit (hQ (.exit id) s a w h ⟨S, pl, hr, Step.refl _ _ _ _, Keep.refl _ _⟩)
  | ret =>
    intro s K res hl h w S pl a Q hr hQ
    exact wp_ret (hQ .ret s a w h ⟨S, pl, hr, Step.refl _ _ _ _, Keep.refl _ _⟩)
  | _ => intro s K res hl h; simp [evC] at h
end
end Go.Ab
namespace Go.Ab
open Go.RowKit
set_option linter.unusedVariables false
set_option linter.unusedSimpArgs false
section
variable {P : Program} {E : Env} {w w' : World} {S : Fl → Cset} {pl : Pl} {s s' : St} {a : Act} {R : Type}
theorem rounds_ok (hR : RegOK P E) {c : Code} {e : LEntry} (hl : ∀ l ∈ loopsOf c, LoopOK P E l) {r : (tyX e.xs).val} : ∀ (n : Nat) (v : (tyL (flats e.ins ++ e.rts.flatten)).val), iter (evStep E c e.ins e.rts e.hm e.nl e.xs) n v = some r →
    ∀ (w : World) (S : Fl → Cset) (pl : Pl) (a : Act) (Q : Exit → Act → World → Prop), Rep w S pl (mkSt e.ins e.rts v) a.tmps → (∀ x s' a' w', Out e.xs r x s' → Reach E.pin w S pl (mkSt e.ins e.rts v) a s' a' w' → Q x a' w') → Code.rounds P c Q n a w
  | 0, v, h => by simp [iter] at h
  | n + 1, v, h => by
    intro w S pl a Q hr hQ
    simp only [iter, evStep] at h
    rw [rounds_succ]
    refine evC_ok hR c _ _ r hl h hr fun x s1 a1 w1 hx hre => ?_
    have other : ∀ x, x ≠ .normal → intos e.xs x s1 = some r → Q x a1 w1 := fun x _ hi => by
      obtain ⟨s2, ho, hg⟩ := intos_ok e.xs x s1 r hi
      exact hQ x s2 a1 w1 ho (hre.ghost hg)
    cases x with
    | normal =>
      simp only [Exit.then]
      simp only at hx
      cases hv : rdSt e.ins e.rts e.hm e.nl s1 with
      | none => rw [hv] at hx; cases hx
      | some v1 =>
        rw [hv] at hx
        simp only at hx
        obtain ⟨S1, p1, g1, g2, g3⟩ := hre.ghost (rdSt_ok hv)
        exact rounds_ok hR hl n v1 hx _ _ _ _ _ g1 fun y s2 a2 w2 ho hr2 => hQ y s2 a2 w2 ho (Reach.trans ⟨g1, g2, g3⟩ hr2)
    | _ => exact other _ (by simp) hx
theorem loop_ok (hR : RegOK P E) {c : Code} {e : LEntry} (hl : ∀ l ∈ loopsOf c, LoopOK P E l) (hf : ∀ v, e.f v = iter (evStep E c e.ins e.rts e.hm e.nl e.xs) K0 v) {v : (tyL (flats e.ins ++ e.rts.flatten)).val} {r : (tyX e.xs).val} (h : e.f v = some r)
    {Q : Exit → Act → World → Prop} (hr : Rep w S pl (mkSt e.ins e.rts v) a.tmps) (hQ : ∀ x s' a' w', Out e.xs r x s' → Reach E.pin w S pl (mkSt e.ins e.rts v) a s' a' w' → Q x a' w') : (Code.loop c).wp P Q a w := by
  rw [hf] at h
  exact wp_loop_rounds K0 (rounds_ok hR hl K0 v h _ _ _ _ _ hr hQ)
end
end Go.Ab
namespace Go.Ab
open Go.RowKit
set_option linter.unusedVariables false
set_option linter.unusedSimpArgs false
theorem unguarded_ok : ∀ (l : List Oper), unguarded l = true → ∀ o ∈ l, o.guard = none
  | [], _, o, ho => by simp at ho
  | x :: l, h, o, ho => by
    simp only [unguarded, Bool.and_eq_true] at h
    rcases List.mem_cons.1 ho with rfl | ho
    · cases hg : o.guard with
      | none => rfl
      | some g => rw [hg] at h; simp at h
    · exact unguarded_ok l h.2 o ho
end Go.Ab
namespace Go.Ab
open Go.RowKit
set_option linter.unusedVariables false
set_option linter.unusedSimpArgs false
theorem fn_ok {P : Program} {E : Env} (hR : RegOK P E) {f : FuncId} {fn : Func} {c : Code} (hf : P.funcs[f]? = some fn) (hb : fn.body = some c) (hl : ∀ l ∈ loopsOf c, LoopOK P E l) {ptrs : List Bool} {ins rets os : List SS} {v : (tyL (flats ins)).val} {r : (tyL (flats (rets ++ os))).val}
    (h : evFn E fn ptrs ins rets os v = some r) {w : World} {S : Fl → Cset} {pl : Pl} {args : Array Value} (hr : Rep w S pl (start ptrs ins fn.ntmps v) (args ++ Array.replicate (fn.ntmps - args.size) undef)) {R : Ending → World → Prop}
    (hQ : ∀ (s' : St) (t : Array Value) (w' : World) (S' : Fl → Cset) (pl' : Pl), finish E.D E.pin fn.results.toList ptrs ins rets os s' = some r → (∀ i, hasN i E.pin = true → t.getD i undef = (args ++ Array.replicate (fn.ntmps - args.size) undef).getD i undef) → Rep w' S' pl' s' t → Step w S pl (start ptrs ins fn.ntmps v) w' S' pl' s' → ∃ x, (results fn t).run P w' = .ok x w' ∧ R (.returned x) w') :
    Calls P f args w R := by
  unfold evFn at h
  have hbo : bodyOf fn = c := by unfold bodyOf; rw [hb]
  rw [hbo] at h
  cases htl : (tells tellI (flats ins) && Nat.ble (finish.plenB ptrs) fn.ntmps) with
  | false => rw [htl] at h; simp at h
  | true =>
  rw [htl, cond_true] at h
  refine calls_of_wp hf hb (evC_ok hR c _ _ r hl h (a := { tmps := args ++ Array.replicate (fn.ntmps - args.size) undef, defers := [] }) hr fun e s' a' w' he hre => ?_)
  obtain ⟨S', pl', k1, k2, k3⟩ := hre
  cases e with
  | ret =>
    obtain ⟨x, g1, g2⟩ := hQ s' a'.tmps w' S' pl' he k3.2 k1 k2
    exact ⟨k3.1, x, g1, g2⟩
  | normal =>
    obtain ⟨x, g1, g2⟩ := hQ s' a'.tmps w' S' pl' he k3.2 k1 k2
    exact ⟨k3.1, x, g1, g2⟩
  | _ => simp at he
end Go.Ab
namespace Go.Ab
open Go.RowKit
set_option linter.unusedVariables false
set_option linter.unusedSimpArgs false
def isAggV : Value → Bool
  | .agg _ => true
  | _ => false
def tkB (D : TypeId → Option TD) (d : TD) : TypeDesc → Bool
  | .int k => (match d.k with | .int k' => k' == k | _ => false) && !d.agg
  | .bool => (match d.k with | .bool => true | _ => false) && !d.agg
  | .string => (match d.k with | .str => true | _ => false) && !d.agg
  | .slice e => (match d.k with | .slice e' => e' == e | _ => false) && !d.agg && decide (d.row = .slice (match D e with | some de => de.row | none => .unit))
  | .pointer e => (match d.k with | .ptr e' => e' == e | _ => false) && !d.agg
  | .struct fs => (match d.k with | .struct offs => offs == fs.toList.map (fun f => (f.offset, f.type)) | _ => false) && d.agg
  | .array n e => (match d.k with | .arr n' e' => n' == n && e' == e | _ => false) && d.agg
  | _ => (match d.k with | .other => true | _ => false) && !d.agg
def cmpB (P : Program) (t : TypeId) : Bool := !P.stoodInHeld t && !P.eqGuardType P.depth t && (match P.underlying t with | some (.struct fs) => fs.toList.all (fun f => f.name != "_") | _ => false)
def tdB (P : Program) (D : TypeId → Option TD) (t : TypeId) (d : TD) : Bool :=
  (match P.info? t with
  | some i => i.size == d.sz && decide ((i.bytes : Int) = d.bytes) && (match i.zero with
    | some z => zOkL (zero d.row) z.cells.toList && (!d.agg || isAggV z)
    | none => false)
  | none => false) &&
  ((match P.underlying t with | some u => tkB D d u | none => false) && (d.row.sz' == d.sz && (decide (0 < d.bytes) && (match d.k with
    | .struct offs => offs.all (fun x => (D x.2).isSome) && (!(offs.all fun x => plain D x.2) || cmpB P t)
    | _ => true))))
theorem tkB_ok {D : TypeId → Option TD} {d : TD} {u : TypeDesc} (h : tkB D d u = true) : TKok D d u := by
  obtain ⟨k, sz, row, by', ag⟩ := d
  cases u <;> cases k <;> simp_all [tkB, TKok]
  all_goals (split <;> simp_all)
theorem tdB_ok {P : Program} {D : TypeId → Option TD} {t : TypeId} {d : TD} (h : tdB P D t d = true) : TDok P D t d := by
  unfold tdB at h
  simp only [Bool.and_eq_true] at h
  obtain ⟨h1, h2, h3, h4, h5⟩ := h
  refine ⟨?_, ?_, by simpa using h3, by simpa using h4, fun offs ho => ?_, fun offs ho hp => ?_⟩
  · cases hi : P.info? t with
    | none => rw [hi] at h1; simp at h1
    | some i =>
      rw [hi] at h1
      simp only [Bool.and_eq_true, beq_iff_eq, decide_eq_true_eq] at h1
      obtain ⟨⟨e1, e2⟩, e3⟩ := h1
      cases hz : i.zero with
      | none => rw [hz] at e3; simp at e3
      | some z =>
        rw [hz] at e3
        simp only [Bool.and_eq_true, Bool.or_eq_true, Bool.not_eq_true'] at e3
        refine ⟨i, rfl, e1, e2, z, hz, e3.1, fun ha => ?_⟩
        rcases e3.2 with hf | hf
        · rw [ha] at hf; cases hf
        · cases z <;> simp [isAggV] at hf
          exact ⟨_, rfl⟩
  · cases hu : P.underlying t with
    | none => rw [hu] at h2; simp at h2
    | some u => rw [hu] at h2; exact ⟨u, rfl, tkB_ok h2⟩
  · rw [ho] at h5
    simp only [Bool.and_eq_true, List.all_eq_true] at h5
    exact h5.1
  · rw [ho] at h5
    simp only [Bool.and_eq_true, Bool.or_eq_true, Bool.not_eq_true'] at h5
    rcases h5.2 with hf | hf
    · exfalso
      have : (offs.all fun x => plain D x.2) = true := List.all_eq_true.2 hp
      rw [this] at hf
      cases hf
    · unfold cmpB at hf
      simp only [Bool.and_eq_true, Bool.not_eq_true'] at hf
      obtain ⟨⟨c1, c2⟩, c3⟩ := hf
      refine ⟨c1, c2, ?_⟩
      cases hu : P.underlying t with
      | none => rw [hu] at c3; simp at c3
      | some u =>
        rw [hu] at c3
        cases u with
        | struct fs =>
          simp only [List.all_eq_true, bne_iff_ne] at c3
          exact ⟨_, rfl, c3⟩
        | _ => simp at c3
end Go.Ab
namespace Go.Ab
open Go.RowKit
set_option linter.unusedVariables false
set_option linter.unusedSimpArgs false
def Thin (p p' : PV) : Prop := rowOf p' = rowOf p ∧ ∀ w S s pl v, RepV w S s pl p v → RepV w S s pl p' v
theorem Thin.refl (p : PV) : Thin p p := ⟨rfl, fun _ _ _ _ _ h => h⟩
theorem Thin.trans {p q r : PV} (h : Thin p q) (k : Thin q r) : Thin p r := ⟨k.1.trans h.1, fun _ _ _ _ _ x => k.2 _ _ _ _ _ (h.2 _ _ _ _ _ x)⟩
theorem Thin.scr (kill : Nat → Nat → Bool) (gone : Nat → Bool) (p : PV) : Thin p (scrV kill gone p) := ⟨rowOf_scr kill gone p, fun _ _ _ _ _ h => RepV.scr h⟩
theorem merge {w w' : World} {S Sc S' S2 : Fl → Cset} {pl plc pl' pl2 : Pl} {s c0 c1 sb : St} {a t : Array Value}
    (I : Cset) (K : Nat → Nat → Prop) (M : Nat → Prop) (att : Nat → Option Nat → Nat → Option Nat → Prop)
    (h : Rep w S pl s a) (hc : Rep w' S' pl' c1 t) (hs : Step w Sc plc c0 w' S' pl' c1)
    (hI : ∀ b x, Sc .imm b x → S .imm b x ∨ I b x) (hIo : ∀ b x, I b x → owned s pl b x) (hg : ∀ f, f = .imm ∨ f = .bor → ∀ b x, S f b x → Sc f b x)
    (ho : ∀ b x, owned c0 plc b x → owned s pl b x) (h2i : ∀ b x, S2 .imm b x ↔ S' .imm b x) (hb1 : ∀ b x, S .bor b x → S2 .bor b x) (hb3 : ∀ b x, S' .imm b x → S2 .bor b x)
    (hb2 : ∀ b x, S2 .bor b x → S .bor b x ∨ (S' .bor b x ∧ (Sc .bor b x → S .bor b x ∨ I b x)))
    (ht : sb.t.length = s.t.length) (hslot : ∀ i w S s' pl v, RepV w S s' pl (gt s.t i) v → RepV w S s' pl (gt sb.t i) v) (hok : ∀ i, okV K M (gt sb.t i))
    (hK : ∀ r c, K r c → pl2.hv r c = pl.hv r c ∧ ∀ o', rowAt sb r c = some o' → ∃ o, rowAt s r c = some o ∧ o.t = o'.t ∧ o.l.length = o'.l.length)
    (hM : ∀ r, M r → pl2.mem r = pl.mem r)
    (hcell : ∀ r j, j < (gr sb.r r).length →
      (j < (gr s.r r).length ∧ pl2.mem r = pl.mem r ∧ pl2.hv r j = pl.hv r j ∧ Thin (gt (gr s.r r) j) (gt (gr sb.r r) j) ∧ okV K M (gt (gr sb.r r) j) ∧
        (∀ b x, rng s pl r (some j) b x → ¬ owned c0 plc b x) ∧ ∀ b o, pl.mem r = some (b, o) → ¬ owned c0 plc b (o + j)) ∨
      (RepRoot w' S2 sb pl2 (gt (gr sb.r r) j) (pl2.hv r j) ∧ (pl2.hv r j).oneCell' = true ∧ ∀ b o, pl2.mem r = some (b, o) → w'.cell? (at_ b (o + j)) = some (pl2.hv r j) ∧ w'.frozen? (at_ b (o + j)) = false))
    (hrng : ∀ r u b x, rng sb pl2 r u b x → (rng s pl r u b x ∧ ¬ owned c0 plc b x ∧ ¬ I b x) ∨ ∃ i u', att r u i u' ∧ rng c1 pl' i u' b x)
    (hatt : ∀ r1 u1 r2 u2 i u', att r1 u1 i u' → att r2 u2 i u' → r1 = r2 ∧ u1 = u2) :
    Rep w' S2 pl2 sb a ∧ Step w S pl s w' S2 pl2 sb := by
  have hSb : ∀ f, f = .imm ∨ f = .bor → ∀ b x, S f b x → S .bor b x := fun f hf b x hx => by
    rcases hf with rfl | rfl
    · exact h.sub _ _ hx
    · exact hx
  have hwc : ∀ f, f = .imm ∨ f = .bor → ∀ b o v, S f b o → w.cell? (at_ b o) = some v → w'.cell? (at_ b o) = some v := fun f hf b o v hx hv =>
    hs.fr.cell (fun hO => h.apart b o (hSb f hf b o hx) (ho b o hO)) hv
  have hSS : ∀ f, f = .imm ∨ f = .bor → ∀ b x, S f b x → S2 f b x := fun f hf b x hx => by
    rcases hf with rfl | rfl
    · exact (h2i b x).2 (hs.grow _ (.inl rfl) _ _ (hg _ (.inl rfl) _ _ hx))
    · exact hb1 b x hx
  have kept : Kept w w' S S2 s sb pl pl2 K M := ⟨hwc, hSS, fun r c hr => (hK r c hr).1, fun r c o' hr ho' => (hK r c hr).2 o' ho', hM⟩
  have hnew : ∀ {i u' b x}, rng c1 pl' i u' b x → owned s pl b x ∧ owned c0 plc b x ∨ w.heap.size ≤ b := fun {i u' b x} hx => by
    rcases hs.own b x ⟨i, u', hx⟩ with h' | h'
    · exact .inl ⟨ho _ _ h', h'⟩
    · exact .inr h'
  refine ⟨⟨by rw [ht, h.len], fun i => RepV.keep kept (hok i) (hslot i _ _ _ _ _ (h.slots i)), fun r j hj => ?_, fun r b o j hm hj => ?_, fun r j r' j' b x h1 h2 => ?_, fun b x hb hx => ?_, fun b x hb => hb3 b x ((h2i b x).1 hb), fun b x hb => ?_, hc.stat.mono fun b x hb => (h2i b x).2 hb⟩,
    ⟨hs.fr.mono fun i x _ hx => ho i x hx, hSS, fun b x hb => ?_, fun b x hb => ?_, fun b x ⟨r, u, hx⟩ => ?_⟩⟩
  · rcases hcell r j hj with ⟨hj', e1, e2, e3, e4, e5, e6⟩ | ⟨e1, e2, _⟩
    · obtain ⟨q1, q2⟩ := h.roots r j hj'
      rw [e2]
      refine ⟨?_, q2⟩
      unfold RepRoot at q1 ⊢
      rw [e3.1]
      cases hro : rowOf (gt (gr s.r r) j) with
      | some o =>
        rw [hro] at q1
        simp only at q1 ⊢
        exact q1.keep hs.fr (fun b x hx => e5 b x ⟨o, by unfold rowAt; exact hro, hx⟩) (hwc _ (.inl rfl)) (hSS _ (.inl rfl))
      | none =>
        rw [hro] at q1
        simp only at q1 ⊢
        exact RepV.keep kept e4 (e3.2 _ _ _ _ _ q1)
    · exact ⟨e1, e2⟩
  · rcases hcell r j hj with ⟨hj', e1, e2, e3, e4, e5, e6⟩ | ⟨_, _, e3⟩
    · rw [e1] at hm
      obtain ⟨q1, q2⟩ := h.mem r b o j hm hj'
      rw [e2]
      exact ⟨hs.fr.cell (e6 b o hm) q1, by rw [hs.fr.frozen (cell_lt q1)]; exact q2⟩
    · exact e3 b o hm
  · rcases hrng r j b x h1 with ⟨a1, a2, a3⟩ | ⟨i, u, a1, a2⟩
    · rcases hrng r' j' b x h2 with ⟨b1, b2, b3⟩ | ⟨i', u', b1, b2⟩
      · exact h.disj _ _ _ _ _ _ a1 b1
      · exfalso
        rcases hnew b2 with ⟨_, h'⟩ | h'
        · exact a2 h'
        · have := h.rng_lt a1; omega
    · rcases hrng r' j' b x h2 with ⟨b1, b2, b3⟩ | ⟨i', u', b1, b2⟩
      · exfalso
        rcases hnew a2 with ⟨_, h'⟩ | h'
        · exact b2 h'
        · have := h.rng_lt b1; omega
      · obtain ⟨rfl, rfl⟩ := hc.disj _ _ _ _ _ _ a2 b2
        exact hatt _ _ _ _ _ _ a1 b1
  · obtain ⟨r, u, hx⟩ := hx
    rcases hrng r u b x hx with ⟨a1, a2, a3⟩ | ⟨i, u', a1, a2⟩
    · rcases hb2 b x hb with h' | ⟨h', h''⟩
      · exact h.apart b x h' ⟨r, u, a1⟩
      · rcases hs.bor b x h' with g | g | g
        · rcases h'' g with g | g
          · exact h.apart b x g ⟨r, u, a1⟩
          · exact a3 g
        · exact a2 g
        · have := h.rng_lt a1; omega
    · rcases hb2 b x hb with h' | ⟨h', h''⟩
      · exact hc.apart b x (hs.grow _ (.inr rfl) _ _ (hg _ (.inr rfl) _ _ h')) ⟨i, u', a2⟩
      · exact hc.apart b x h' ⟨i, u', a2⟩
  · rcases hb2 b x hb with h' | ⟨h', _⟩
    · exact Nat.lt_of_lt_of_le (h.live b x h') hs.fr.size
    · exact hc.live b x h'
  · rcases hs.imm b x ((h2i b x).1 hb) with g | g | g
    · rcases hI b x g with g | g
      · exact .inl g
      · exact .inr (.inl (hIo b x g))
    · exact .inr (.inl (ho b x g))
    · exact .inr (.inr g)
  · rcases hb2 b x hb with h' | ⟨h', h''⟩
    · exact .inl h'
    · rcases hs.bor b x h' with g | g | g
      · rcases h'' g with g | g
        · exact .inl g
        · exact .inr (.inl (hIo b x g))
      · exact .inr (.inl (ho b x g))
      · exact .inr (.inr g)
  · rcases hrng r u b x hx with ⟨a1, a2, a3⟩ | ⟨i, u', a1, a2⟩
    · exact .inl ⟨r, u, a1⟩
    · rcases hnew a2 with ⟨h', _⟩ | h'
      · exact .inl h'
      · exact .inr h'
end Go.Ab
namespace Go.Ab
open Go.RowKit
set_option linter.unusedVariables false
set_option linter.unusedSimpArgs false
def CellOK (w : World) (S : Fl → Cset) (p : PV) (v : Value) : Prop := v.oneCell' = true ∧ (match rowOf p with
  | some o => OwnRow w (S .imm) o.t o.l v
  | none => ∀ s pl, RepV w S s pl p v)
def freeV : PV → Bool
  | .any => true
  | .int _ _ => true
  | .bool _ => true
  | .str _ => true
  | .sl _ _ _ => true
  | .nil => true
  | .clo _ [] => true
  | _ => false
def CellTold (p p' : PV) : Prop := p' = .any ∨ (p' = p ∧ freeV p = true) ∨ (∃ t l, p = .sl .imm t l ∧ p' = .sl .bor t l) ∨ ∃ f t, p = .nil ∧ p' = .sl f t []
theorem decC_cell {f : Fl} {t : Ty} {p : PV} {x : t.val} (h : decC f t p = some x) : CellTold p (match enc f t x with | [p] => p | _ => .any) := by
  unfold decC at h
  split at h
  · rename_i k k' n
    split at h
    · rename_i e; subst e; obtain rfl := Option.some.inj h; exact .inr (.inl ⟨rfl, rfl⟩)
    · cases h
  · obtain rfl := Option.some.inj h; exact .inr (.inl ⟨rfl, rfl⟩)
  · obtain rfl := Option.some.inj h; exact .inr (.inl ⟨rfl, rfl⟩)
  · rename_i t f' t' l
    split at h
    · rename_i hh
      split at h
      · rename_i e
        subst e
        obtain rfl := Option.some.inj h
        rcases hh with rfl | ⟨rfl, rfl⟩
        · exact .inr (.inl ⟨rfl, rfl⟩)
        · exact .inr (.inr (.inl ⟨t', l, rfl, rfl⟩))
      · cases h
    · cases h
  · rename_i t
    obtain rfl := Option.some.inj h
    exact .inr (.inr (.inr ⟨f, t, rfl, rfl⟩))
  · cases h
def CellC : CS → PV → PV → Prop
  | .any, _, p' => p' = .any
  | .fix q, p, p' => p = q ∧ p' = q
  | .val f t, p, p' => ∃ x, decC f t p = some x ∧ p' = (match enc f t x with | [p] => p | _ => .any)
theorem CellC.told {c : CS} {p p' : PV} (h : CellC c p p') (hc : tellI c = true) : CellTold p p' := by
  cases c with
  | any => exact .inl h
  | fix q =>
    obtain ⟨rfl, rfl⟩ := h
    refine .inr (.inl ⟨rfl, ?_⟩)
    cases p' with
    | nil => rfl
    | clo f l => cases l with
      | nil => rfl
      | cons _ _ => simp [tellI] at hc
    | _ => simp [tellI] at hc
  | val f t =>
    obtain ⟨x, h1, rfl⟩ := h
    exact decC_cell h1
theorem encL_any (l : List CS) (v : (tyL (.any :: l)).val) : encL (.any :: l) v = .any :: encL l v := rfl
theorem encL_fix (q : PV) (l : List CS) (v : (tyL (.fix q :: l)).val) : encL (.fix q :: l) v = q :: encL l v := rfl
theorem encL_val (f : Fl) (t : Ty) (l : List CS) (x : t.val) (v : (tyL l).val) : encL (.val f t :: l) (x, v) = (match enc f t x with | [p] => p | _ => .any) :: encL l v := rfl
theorem encL_nil (v : (tyL []).val) : encL [] v = [] := by cases v; rfl
theorem decL_nil (p : PV) (ps : List PV) : decL [] (p :: ps) = none := rfl
theorem decL_nil' (c : CS) (l : List CS) : decL (c :: l) [] = none := by cases c <;> rfl
theorem decL_cells (l : List CS) : ∀ (ps : List PV) (v : (tyL l).val), decL l ps = some v → ps.length = clen l ∧ (encL l v).length = clen l ∧ ∀ j c, l[j]? = some c → CellC c (gt ps j) (gt (encL l v) j) := by
  induction l with
  | nil =>
    intro ps v h
    cases ps with
    | nil => rw [encL_nil]; exact ⟨rfl, rfl, fun j c hc => by simp at hc⟩
    | cons _ _ => rw [decL_nil] at h; cases h
  | cons c l ih =>
    intro ps v h
    cases ps with
    | nil => rw [decL_nil'] at h; cases h
    | cons p ps =>
      cases c with
      | any =>
        have h' : decL l ps = some v := h
        obtain ⟨h1, h2, h3⟩ := ih ps v h'
        rw [encL_any]
        refine ⟨by simp [clen, h1], by simp only [List.length_cons, clen]; exact congrArg (· + 1) h2, fun j c hc => ?_⟩
        cases j with
        | zero => simp only [List.getElem?_cons_zero, Option.some.injEq] at hc; subst hc; simp only [gt, CellC]
        | succ j => simp only [List.getElem?_cons_succ] at hc; simp only [gt]; exact h3 j c hc
      | fix q =>
        have h' : (if same q p = true then decL l ps else none) = some v := h
        split at h'
        · rename_i e
          have e := same_eq e
          obtain ⟨h1, h2, h3⟩ := ih ps v h'
          rw [encL_fix]
          refine ⟨by simp [clen, h1], by simp only [List.length_cons, clen]; exact congrArg (· + 1) h2, fun j c hc => ?_⟩
          cases j with
          | zero => simp only [List.getElem?_cons_zero, Option.some.injEq] at hc; subst hc; simp only [gt, CellC]; exact ⟨e.symm, trivial⟩
          | succ j => simp only [List.getElem?_cons_succ] at hc; simp only [gt]; exact h3 j c hc
        · cases h'
      | val f t =>
        have h' : (match decC f t p with
          | some x => match decL l ps with
            | some v => some (x, v)
            | none => none
          | none => none) = some v := h
        split at h'
        · rename_i x hx
          split at h'
          · rename_i v' hv'
            obtain rfl := Option.some.inj h'
            obtain ⟨h1, h2, h3⟩ := ih ps v' hv'
            rw [encL_val]
            refine ⟨by simp [clen, h1], by simp only [List.length_cons, clen]; exact congrArg (· + 1) h2, fun j c hc => ?_⟩
            cases j with
            | zero => simp only [List.getElem?_cons_zero, Option.some.injEq] at hc; subst hc; simp only [gt, CellC]; exact ⟨x, hx, rfl⟩
            | succ j => simp only [List.getElem?_cons_succ] at hc; simp only [gt]; exact h3 j c hc
          · cases h'
        · cases h'
theorem clen_eq (l : List CS) : clen l = l.length := by
  induction l with
  | nil => rfl
  | cons c l ih => simp [clen, ih]
theorem tells_mem {f : CS → Bool} : ∀ {l : List CS}, tells f l = true → ∀ c ∈ l, f c = true
  | [], _, _, h => by simp at h
  | d :: l, h, c, hc => by
    simp only [tells, Bool.and_eq_true] at h
    rcases List.mem_cons.1 hc with rfl | hc
    · exact h.1
    · exact tells_mem h.2 c hc
section
variable {w w' : World} {S Sc : Fl → Cset} {pl : Pl} {s s1 : St}
theorem OwnRow.mono {S S' : Cset} {t : Ty} {l : List t.val} {v : Value} (h : OwnRow w S t l v) (hS : ∀ b x, S b x → S' b x) : OwnRow w S' t l v :=
  h.keep (Fr.refl (fun _ _ => False) w) (fun _ _ _ h => h) (fun _ _ _ _ h => h) hS
theorem cell_told {p p' : PV} {v : Value} (ht : CellTold p p') (h : RepRoot w S s pl p v) (h1 : v.oneCell' = true) (hi : ∀ b x, S .imm b x → Sc .imm b x) (hb : ∀ b x, S .bor b x → Sc .bor b x) (hs : Subs Sc) : CellOK w Sc p' v := by
  refine ⟨h1, ?_⟩
  unfold RepRoot at h
  rcases ht with rfl | ⟨rfl, hf⟩ | ⟨t, l, rfl, rfl⟩ | ⟨f, t, rfl, rfl⟩
  · simp [rowOf, RepV]
  · cases hr : rowOf p' with
    | some o =>
      rw [hr] at h
      exact OwnRow.mono h hi
    | none =>
      rw [hr] at h
      intro s' pl'
      simp only at h
      cases p' with
      | any => simp [RepV]
      | int => simpa [RepV, RepCell] using h
      | bool => simpa [RepV, RepCell] using h
      | str => simpa [RepV, RepCell] using h
      | nil => simpa [RepV, RepCell] using h
      | sl f t l =>
        cases f with
        | own => simp [rowOf] at hr
        | lent => simp [rowOf] at hr
        | imm => simp only [RepV, RepCell] at h ⊢; exact RepC.mono (fun _ _ _ _ h => h) hi h
        | bor => simp only [RepV, RepCell] at h ⊢; exact RepC.mono (fun _ _ _ _ h => h) hb h
      | clo f l =>
        cases l with
        | nil => simpa [RepV, RepL] using h
        | cons _ _ => simp [freeV] at hf
      | _ => simp [freeV] at hf
  · simp only [rowOf] at h ⊢
    intro s' pl'
    simp only [RepV, RepCell] at h ⊢
    exact RepC.mono (fun _ _ _ _ h => h) (fun b x hx => hs b x (hi b x hx)) h
  · have e : v = .slice none 0 0 := by simpa [rowOf, RepV, RepCell] using h
    subst e
    cases f with
    | own => exact .inl ⟨rfl, rfl⟩
    | lent => exact .inl ⟨rfl, rfl⟩
    | imm => intro s' pl'; simp only [RepV, RepCell]; exact ⟨none, 0, rfl, by simp, by simp⟩
    | bor => intro s' pl'; simp only [RepV, RepCell]; exact ⟨none, 0, rfl, by simp, by simp⟩
theorem RepC.nilSl {S : Cset} {t : Ty} {A : Option Addr} {cap : Nat} : RepC w S (.slice t) ([] : List t.val) [.slice A 0 cap] := ⟨A, cap, rfl, by simp, by simp⟩
theorem look_or {a : Array Value} (h : Rep w S pl s a) (hrow : ∀ r c o, rowAt s1 r c = some o → rowAt s r c = some o ∧ ∀ b x, rng s pl r (some c) b x → Sc .bor b x) (hi : ∀ b x, S .imm b x → Sc .imm b x) (hs : Subs Sc)
    {p : PV} {v : Value} (hp : RepV w S s pl p v) : look s1 p = .any ∨ (∃ t l, look s1 p = .sl .bor t l ∧ RepC w (Sc .bor) (.slice t) l [v]) ∨ look s1 p = p := by
  have hown : ∀ {r c o}, rowAt s1 r c = some o → rowAt s r c = some o ∧ RepC w (Sc .bor) (.slice o.t) o.l [pl.hv r c] := fun {r c o} ho => by
    obtain ⟨q1, q2⟩ := hrow r c o ho
    exact ⟨q1, (h.ownAt q1).2.toRepC (fun b x hx => hs b x (hi b x hx)) fun b x hx => q2 b x ⟨o, q1, hx⟩⟩
  cases p with
  | view r c =>
    simp only [look]
    cases hr : rowAt s1 r c with
    | none => exact .inl rfl
    | some o =>
      simp only [RepV, RepCell] at hp
      rw [hp.1]
      exact .inr (.inl ⟨o.t, o.l, rfl, (hown hr).2⟩)
  | sub r c lo hi' =>
    simp only [look]
    cases hr : rowAt s1 r c with
    | none => exact .inl rfl
    | some o =>
      obtain ⟨q1, q2⟩ := hown hr
      simp only [RepV, RepCell] at hp
      obtain ⟨_, hp⟩ := hp
      obtain ⟨q, n, cap, A, e1, e2, e3, e4, rfl, e5, e6⟩ := hp _ q1
      refine .inr (.inl ⟨o.t, _, rfl, ?_⟩)
      rw [e1] at q2
      have hlen : ((o.l.take hi'.toNat).drop lo.toNat).length = hi'.toNat - lo.toNat := by simp; omega
      by_cases hlt : lo < hi'
      · have := q2.part (i := lo.toNat) (j := hi'.toNat) (by omega) (by omega)
        have hA := e6 hlt
        subst hA
        by_cases hcl : cap = lo.toNat
        · exfalso
          obtain ⟨A', cap', e7, e8, _⟩ := q2
          simp only [List.cons.injEq, Value.slice.injEq, and_true] at e7
          omega
        · rw [if_neg hcl] at this
          exact this
      · have hl0 : hi'.toNat - lo.toNat = 0 := by omega
        have hnil : (o.l.take hi'.toNat).drop lo.toNat = [] := List.length_eq_zero_iff.1 (by rw [hlen]; exact hl0)
        rw [hnil, hl0]
        exact RepC.nilSl
  | sl f t l =>
    cases f with
    | own => simp [RepV, RepCell] at hp
    | lent => simp [RepV, RepCell] at hp
    | imm => exact .inr (.inr rfl)
    | bor => exact .inr (.inr rfl)
  | _ => exact .inr (.inr rfl)
theorem look_told {a : Array Value} (h : Rep w S pl s a) (hrow : ∀ r c o, rowAt s1 r c = some o → rowAt s r c = some o ∧ ∀ b x, rng s pl r (some c) b x → Sc .bor b x) (hi : ∀ b x, S .imm b x → Sc .imm b x) (hb : ∀ b x, S .bor b x → Sc .bor b x) (hs : Subs Sc)
    {p p' : PV} {v : Value} (hp : RepV w S s pl p v) (h1 : v.oneCell' = true) (ht : CellTold (look s1 p) p') : CellOK w Sc p' v := by
  rcases look_or h hrow hi hs hp with e | ⟨t, l, e, h2⟩ | e
  · rw [e] at ht
    rcases ht with rfl | ⟨rfl, _⟩ | ⟨_, _, e, _⟩ | ⟨_, _, e, _⟩
    · exact ⟨h1, by simp [rowOf, RepV]⟩
    · exact ⟨h1, by simp [rowOf, RepV]⟩
    · cases e
    · cases e
  · rw [e] at ht
    rcases ht with rfl | ⟨rfl, _⟩ | ⟨_, _, e, _⟩ | ⟨_, _, e, _⟩
    · exact ⟨h1, by simp [rowOf, RepV]⟩
    · refine ⟨h1, ?_⟩
      simp only [rowOf, RepV, RepCell]
      exact fun _ _ => h2
    · cases e
    · cases e
  · rw [e] at ht
    exact cell_told ht (s := s) (pl := pl) (by unfold RepRoot; rw [rowOf_rep hp]; exact hp) h1 hi hb hs
theorem rowsOnly_len (l : List PV) : (rowsOnly l).length = l.length := by
  induction l with
  | nil => rfl
  | cons x l ih =>
    cases x with
    | sl f t y => cases f <;> simp [rowsOnly, ih]
    | _ => simp [rowsOnly, ih]
theorem rowsOnly_gt (l : List PV) (j : Nat) : gt (rowsOnly l) j = if (rowOf (gt l j)).isSome then gt l j else .any := by
  induction l generalizing j with
  | nil => simp [rowsOnly, gt, rowOf]
  | cons x l ih =>
    cases j with
    | zero =>
      cases x with
      | sl f t y => cases f <;> simp [rowsOnly, gt, rowOf]
      | _ => simp [rowsOnly, gt, rowOf]
    | succ j =>
      cases x with
      | sl f t y => cases f <;> (simp only [rowsOnly, gt]; exact ih j)
      | _ => simp only [rowsOnly, gt]; exact ih j
theorem seen_len (r : Nat) (l : List PV) : ∀ n, (seen r n l).length = l.length := by
  induction l with
  | nil => intro n; rfl
  | cons x l ih =>
    intro n
    cases x with
    | sl f t y => cases f <;> simp [seen, ih]
    | _ => simp [seen, ih]
theorem seen_gt (r : Nat) (l : List PV) : ∀ n j, gt (seen r n l) j = if (rowOf (gt l j)).isSome then .view r (n + j) else gt l j := by
  induction l with
  | nil => intro n j; simp [seen, gt, rowOf]
  | cons x l ih =>
    intro n j
    cases j with
    | zero =>
      cases x with
      | sl f t y => cases f <;> simp [seen, gt, rowOf]
      | _ => simp [seen, gt, rowOf]
    | succ j =>
      have e : n + 1 + j = n + (j + 1) := by omega
      cases x with
      | sl f t y => cases f <;> (simp only [seen, gt]; rw [ih, e]; rfl)
      | _ => simp only [seen, gt]; rw [ih, e]; rfl
theorem seen_cells {q : List PV} {vs : List Value} {i n : Nat} (hl : vs.length = q.length) (hc : ∀ j, j < q.length → CellOK w Sc (gt q j) (vs.getD j undef)) (hv : ∀ j, (rowOf (gt q j)).isSome = true → pl.hv i (n + j) = vs.getD j undef) :
    RepL w Sc s pl (seen i n q) vs := by
  refine RepL.of (by rw [seen_len, hl]) fun j u hu => ?_
  have hj : j < q.length := by rw [← hl]; exact (List.getElem?_eq_some_iff.1 hu).1
  have hu' : vs.getD j undef = u := len_getD hu
  obtain ⟨h1, h2⟩ := hc j hj
  rw [hu'] at h1 h2
  rw [seen_gt]
  cases hr : rowOf (gt q j) with
  | some o =>
    rw [hr] at h2
    simp only [Option.isSome_some, if_true, RepV, RepCell]
    exact ⟨by rw [hv j (by rw [hr]; rfl), hu'], h2.sliceOf⟩
  | none =>
    rw [hr] at h2
    simp only [Option.isSome_none, Bool.false_eq_true, if_false]
    exact h2 s pl
end
end Go.Ab
namespace Go.Ab
open Go.RowKit
set_option linter.unusedVariables false
set_option linter.unusedSimpArgs false
def slotOf (i : Nat) : Bool → SS → List PV → PV
  | true, _, _ => .ptr i 0
  | false, x, q => (build1 x (seen i 0 q)).1
def rootOf : Bool → List PV → List PV
  | true, q => q
  | false, q => rowsOnly q
theorem rootOf_len (b : Bool) (q : List PV) : (rootOf b q).length = q.length := by cases b <;> simp [rootOf, rowsOnly_len]
structure Arg (w : World) (S : Fl → Cset) (i : Nat) (b : Bool) (x : SS) (q : List PV) (arg : Value) (m : Option (Nat × Nat)) (g : Nat → Value) : Prop where
  len : q.length = clen x.flat
  slot : ∀ s pl, pl.mem i = m → (∀ j, pl.hv i j = g j) → RepV w S s pl (slotOf i b x q) arg
  root : ∀ j, j < q.length → CellOK w S (gt (rootOf b q) j) (g j)
  mem : ∀ c o j, m = some (c, o) → j < q.length → w.cell? (at_ c (o + j)) = some (g j) ∧ w.frozen? (at_ c (o + j)) = false
def ArgsOK (w : World) (S : Fl → Cset) (m : Nat → Option (Nat × Nat)) (g : Nat → Nat → Value) : Nat → List Bool → List SS → List PV → List Value → Prop
  | i, b :: bs, x :: l, ps, a :: as => Arg w S i b x (ptake (clen x.flat) ps) a (m i) (g i) ∧ ArgsOK w S m g (i + 1) bs l (pdrop (clen x.flat) ps) as
  | _, [], [], _, [] => True
  | _, _, _, _, _ => False
section
variable {w w' : World} {S : Fl → Cset} {pl : Pl} {s s1 : St} {m : Nat → Option (Nat × Nat)} {g : Nat → Nat → Value}
theorem entry_cons (i : Nat) (b : Bool) (bs : List Bool) (x : SS) (l : List SS) (ps : List PV) :
    entry i (b :: bs) (x :: l) ps = (slotOf i b x (ptake (clen x.flat) ps) :: (entry (i + 1) bs l (pdrop (clen x.flat) ps)).1, rootOf b (ptake (clen x.flat) ps) :: (entry (i + 1) bs l (pdrop (clen x.flat) ps)).2) := by
  cases b <;> simp [entry, slotOf, rootOf]
theorem args_get : ∀ {bs : List Bool} {l : List SS} {i : Nat} {ps : List PV} {as : List Value}, ArgsOK w S m g i bs l ps as →
    (entry i bs l ps).1.length = l.length ∧ (entry i bs l ps).2.length = l.length ∧ as.length = l.length ∧ bs.length = l.length ∧
      ∀ j, j < l.length → ∃ b x q a, bs[j]? = some b ∧ l[j]? = some x ∧ as[j]? = some a ∧ gt (entry i bs l ps).1 j = slotOf (i + j) b x q ∧ gr (entry i bs l ps).2 j = rootOf b q ∧ Arg w S (i + j) b x q a (m (i + j)) (g (i + j))
  | [], [], i, ps, [], h => ⟨rfl, rfl, rfl, rfl, fun j hj => by simp at hj⟩
  | [], [], _, _, _ :: _, h => h.elim
  | [], _ :: _, _, _, _, h => h.elim
  | _ :: _, [], _, _, _, h => h.elim
  | _ :: _, _ :: _, _, _, [], h => h.elim
  | b :: bs, x :: l, i, ps, a :: as, h => by
    obtain ⟨h1, h2⟩ := h
    obtain ⟨k1, k2, k3, k4, k5⟩ := args_get h2
    rw [entry_cons]
    refine ⟨by simp [k1], by simp [k2], by simp [k3], by simp [k4], fun j hj => ?_⟩
    cases j with
    | zero => exact ⟨b, x, _, a, rfl, rfl, rfl, rfl, rfl, h1⟩
    | succ j =>
      obtain ⟨b', x', q', a', g1, g2, g3, g4, g5, g6⟩ := k5 j (by simpa using hj)
      have e : i + (j + 1) = i + 1 + j := by omega
      rw [e]
      exact ⟨b', x', q', a', by simpa using g1, by simpa using g2, by simpa using g3, g4, g5, g6⟩
theorem anys_gt (n i : Nat) : gt (anys n) i = .any := by
  induction n generalizing i with
  | zero => rfl
  | succ n ih => cases i with
    | zero => rfl
    | succ i => exact ih i
theorem anys_len (n : Nat) : (anys n).length = n := by
  induction n with
  | zero => rfl
  | succ n ih => simp [anys, ih]
theorem nones_gr (n i : Nat) : gr (nones n) i = [] := by
  induction n generalizing i with
  | zero => rfl
  | succ n ih => cases i with
    | zero => rfl
    | succ i => exact ih i
theorem gr_append (a b : List (List PV)) (i : Nat) : gr (a ++ b) i = if i < a.length then gr a i else gr b (i - a.length) := by
  induction a generalizing i with
  | nil => simp
  | cons x a ih => cases i with
    | zero => simp [gr]
    | succ i =>
      simp only [List.cons_append, gr, List.length_cons]
      rw [ih]
      by_cases h : i < a.length
      · rw [if_pos h, if_pos (by omega)]
      · rw [if_neg h, if_neg (by omega)]; congr 1; omega
theorem start_eq (ptrs : List Bool) (ins : List SS) (n : Nat) (v : (tyL (flats ins)).val) :
    start ptrs ins n v = ⟨(entry 0 ptrs ins (encL _ v)).1 ++ anys (n - (entry 0 ptrs ins (encL _ v)).1.length), (entry 0 ptrs ins (encL _ v)).2 ++ nones (n - (entry 0 ptrs ins (encL _ v)).1.length)⟩ := by
  unfold start
  simp only [pcat_eq, plen_eq]
theorem start_slot {ptrs : List Bool} {ins : List SS} {n : Nat} {v : (tyL (flats ins)).val} {args : List Value} (h : ArgsOK w S m g 0 ptrs ins (encL _ v) args) (i : Nat) :
    (i < ins.length ∧ ∃ b x q a, ptrs[i]? = some b ∧ ins[i]? = some x ∧ args[i]? = some a ∧ gt (start ptrs ins n v).t i = slotOf i b x q ∧ gr (start ptrs ins n v).r i = rootOf b q ∧ Arg w S i b x q a (m i) (g i)) ∨
    (ins.length ≤ i ∧ gt (start ptrs ins n v).t i = .any ∧ gr (start ptrs ins n v).r i = []) := by
  obtain ⟨k1, k2, k3, k4, k5⟩ := args_get h
  rw [start_eq]
  rcases Nat.lt_or_ge i ins.length with hi | hi
  · left
    obtain ⟨b, x, q, a, g1, g2, g3, g4, g5, g6⟩ := k5 i hi
    simp only [Nat.zero_add] at g4 g5 g6
    refine ⟨hi, b, x, q, a, g1, g2, g3, ?_, ?_, g6⟩
    · show gt _ i = _
      rw [gt_append, if_pos (by omega)]; exact g4
    · show gr _ i = _
      rw [gr_append, if_pos (by omega)]; exact g5
  · right
    refine ⟨hi, ?_, ?_⟩
    · show gt _ i = _
      rw [gt_append, if_neg (by omega), anys_gt]
    · show gr _ i = _
      rw [gr_append, if_neg (by omega), nones_gr]
theorem start_rep {ptrs : List Bool} {ins : List SS} {n : Nat} {v : (tyL (flats ins)).val} {args : List Value} (h : ArgsOK w S m g 0 ptrs ins (encL _ v) args) (hn : ins.length ≤ n)
    (hd : ∀ r j r' j' b x, rng (start ptrs ins n v) ⟨m, g⟩ r j b x → rng (start ptrs ins n v) ⟨m, g⟩ r' j' b x → r = r' ∧ j = j') (ha : ∀ b x, S .bor b x → ¬ owned (start ptrs ins n v) ⟨m, g⟩ b x)
    (hs : Subs S) (hl : ∀ b x, S .bor b x → b < w.heap.size) (hst : Tabs w (S .imm)) : Rep w S ⟨m, g⟩ (start ptrs ins n v) (args.toArray ++ Array.replicate (n - args.toArray.size) undef) := by
  obtain ⟨k1, k2, k3, k4, k5⟩ := args_get h
  refine ⟨?_, fun i => ?_, fun r j hj => ?_, fun r b o j hm hj => ?_, hd, ha, hs, hl, hst⟩
  · rw [start_eq]
    simp [anys_len, k1, k3]
  · rcases start_slot (n := n) h i with ⟨hi, b, x, q, a, g1, g2, g3, g4, g5, g6⟩ | ⟨hi, g1, _⟩
    · rw [g4]
      have : (args.toArray ++ Array.replicate (n - args.toArray.size) undef).getD i undef = a := by
        rw [Array.getD_eq_getD_getElem?, Array.getElem?_append_left (by simp; omega)]
        simp [g3]
      rw [this]
      exact g6.slot _ _ rfl fun _ => rfl
    · rw [g1]; simp [RepV]
  · rcases start_slot (n := n) h r with ⟨hi, b, x, q, a, g1, g2, g3, g4, g5, g6⟩ | ⟨hi, _, g1⟩
    · rw [g5, rootOf_len] at hj
      rw [g5]
      obtain ⟨q1, q2⟩ := g6.root j hj
      refine ⟨?_, q1⟩
      unfold RepRoot
      cases hr : rowOf (gt (rootOf b q) j) with
      | some o => rw [hr] at q2; exact q2
      | none => rw [hr] at q2; exact q2 _ _
    · rw [g1] at hj; simp at hj
  · rcases start_slot (n := n) h r with ⟨hi, c, x, q, a, g1, g2, g3, g4, g5, g6⟩ | ⟨hi, _, g1⟩
    · rw [g5, rootOf_len] at hj
      exact g6.mem b o j hm hj
    · rw [g1] at hj; simp at hj
end
end Go.Ab
namespace Go.Ab
open Go.RowKit
set_option linter.unusedVariables false
set_option linter.unusedSimpArgs false
structure HC (w : World) (S Sc : Fl → Cset) (pl : Pl) (s s1 : St) (a : Array Value) (z : List Spot) : Prop where
  rep : Rep w S pl s a
  hi : ∀ b x, S .imm b x → Sc .imm b x
  hb : ∀ b x, S .bor b x → Sc .bor b x
  hs : Subs Sc
  row : ∀ r c o, rowAt s1 r c = some o → rowAt s r c = some o ∧ ∀ b x, rng s pl r (some c) b x → Sc .bor b x
  room : ∀ r c b o, pl.mem r = some (b, o) → c < (gr s.r r).length → hits (r, c, 1) z = false → Sc .bor b (o + c)
  cell : ∀ r c, gt (gr s1.r r) c = .any ∨ Thin (gt (gr s.r r) c) (gt (gr s1.r r) c)
  len : ∀ r, (gr s1.r r).length = (gr s.r r).length
theorem meets_iff {x y : Spot} : meets x y = true ↔ x.1 = y.1 ∧ x.2.1 < y.2.1 + y.2.2 ∧ y.2.1 < x.2.1 + x.2.2 := by
  unfold meets
  simp only [Bool.and_eq_true, Nat.beq_eq, Nat.ble_eq]
  constructor
  · rintro ⟨h1, h2, h3⟩; exact ⟨h1, by omega, by omega⟩
  · rintro ⟨h1, h2, h3⟩; exact ⟨h1, by omega, by omega⟩
theorem hits_iff {x : Spot} : ∀ {z : List Spot}, hits x z = true ↔ ∃ y ∈ z, meets x y = true
  | [] => by simp [hits]
  | y :: z => by simp [hits, hits_iff (z := z)]
theorem hits_part {r c n : Nat} {z : List Spot} (h : hits (r, c, n) z = false) {j : Nat} (hj : j < n) : hits (r, c + j, 1) z = false := by
  rw [Bool.eq_false_iff] at h ⊢
  intro h'
  obtain ⟨y, h1, h2⟩ := hits_iff.1 h'
  rw [meets_iff] at h2
  refine h (hits_iff.2 ⟨y, h1, meets_iff.2 ?_⟩)
  simp only at h2 ⊢
  omega
section
variable {w w' : World} {S Sc : Fl → Cset} {pl : Pl} {s s1 : St} {a : Array Value} {z : List Spot}
theorem cellOK_any {v : Value} (h : v.oneCell' = true) : CellOK w Sc .any v := ⟨h, by simp [rowOf, RepV]⟩
theorem told_any {p' : PV} (h : CellTold .any p') : p' = .any := by
  rcases h with rfl | ⟨rfl, _⟩ | ⟨_, _, e, _⟩ | ⟨_, _, e, _⟩
  · rfl
  · rfl
  · cases e
  · cases e
theorem told_row {p p' : PV} (h : CellTold p p') {o : Row} (ho : rowOf p' = some o) : p' = p ∨ ∃ f t, p = .nil ∧ p' = .sl f t [] := by
  rcases h with rfl | ⟨rfl, _⟩ | ⟨_, _, _, rfl⟩ | h
  · simp [rowOf] at ho
  · exact .inl rfl
  · simp [rowOf] at ho
  · exact .inr h
theorem nil_range {w : World} {S : Fl → Cset} {v : Value} {s : St} {pl : Pl} (h : RepV w S s pl .nil v) {t : Ty} {b x : Nat} (hr : rowRange t v b x) : False := by
  have e : v = .slice none 0 0 := by simpa [RepV, RepCell] using h
  subst e
  obtain ⟨q, n, c, e, _⟩ := hr
  simp at e
theorem handed_cell (H : HC w S Sc pl s s1 a z) {c : CS} {p p' : PV} {v : Value} (hp : RepV w S s pl p v) (h1 : v.oneCell' = true) (hc : tellI c = true) (ht : CellC c (cellC s s1 c p) p')
    (himm : ∀ q ∈ immC s c p, ∀ b x, rng s pl q.1 (some q.2.1) b x → Sc .imm b x) :
    CellOK w Sc p' v ∧ ∀ o, rowOf p' = some o → ∀ b x, rowRange o.t v b x → ∃ r c', p = .view r c' ∧ spotC s c p = [(r, c', 1)] ∧ rng s pl r (some c') b x := by
  have ht := ht.told hc
  have hlook : CellTold (look s1 p) p' → CellOK w Sc p' v ∧ ∀ o, rowOf p' = some o → ∀ b x, rowRange o.t v b x → ∃ r c', p = .view r c' ∧ spotC s c p = [(r, c', 1)] ∧ rng s pl r (some c') b x := fun ht => by
    refine ⟨look_told H.rep H.row H.hi H.hb H.hs hp h1 ht, fun o ho b x hx => ?_⟩
    exfalso
    rcases told_row ht ho with rfl | ⟨f, t, e, rfl⟩
    · rcases look_or H.rep H.row H.hi H.hs hp with e | ⟨t, l, e, _⟩ | e
      · rw [e] at ho; simp [rowOf] at ho
      · rw [e] at ho; simp [rowOf] at ho
      · rw [e, rowOf_rep hp] at ho; cases ho
    · rcases look_or H.rep H.row H.hi H.hs hp with e' | ⟨t', l, e', _⟩ | e'
      · rw [e'] at e; cases e
      · rw [e'] at e; cases e
      · rw [e'] at e; subst e; exact nil_range hp hx
  have hany : p' = .any → CellOK w Sc p' v ∧ ∀ o, rowOf p' = some o → ∀ b x, rowRange o.t v b x → ∃ r c', p = .view r c' ∧ spotC s c p = [(r, c', 1)] ∧ rng s pl r (some c') b x := fun e => by
    subst e
    exact ⟨cellOK_any h1, fun o ho => by simp [rowOf] at ho⟩
  have hrow : ∀ {r c' : Nat} {o : Row} {q : PV}, p = .view r c' → rowAt s r c' = some o → (∀ o', rowOf q = some o' → o'.t = o.t) → rowOf q ≠ none → spotC s c p = [(r, c', 1)] → CellTold q p' →
      (CellOK w Sc q v) → CellOK w Sc p' v ∧ ∀ o, rowOf p' = some o → ∀ b x, rowRange o.t v b x → ∃ r c', p = .view r c' ∧ spotC s c p = [(r, c', 1)] ∧ rng s pl r (some c') b x := fun {r c' o q} e hr hq hq' hsp ht hok => by
    have hne : q ≠ .nil := fun e => by subst e; exact hq' rfl
    have : p' = .any ∨ p' = q := by
      rcases ht with rfl | ⟨rfl, _⟩ | ⟨_, _, e, rfl⟩ | ⟨_, _, e, _⟩
      · exact .inl rfl
      · exact .inr rfl
      · subst e; exact absurd rfl hq'
      · exact absurd e hne
    rcases this with rfl | rfl
    · exact hany rfl
    · refine ⟨hok, fun o' ho' b x hx => ⟨r, c', e, hsp, o, hr, ?_⟩⟩
      subst e
      simp only [RepV, RepCell] at hp
      rw [← hp.1, ← hq o' ho']
      exact hx
  cases c with
  | any => exact hlook (by simpa [cellC] using ht)
  | fix q => exact hlook (by cases p <;> simpa [cellC] using ht)
  | val f t =>
    cases p with
    | view r c' =>
      have hv : v = pl.hv r c' := by simp only [RepV, RepCell] at hp; exact hp.1
      cases f with
      | bor => exact hlook (by simpa [cellC] using ht)
      | own =>
        simp only [cellC] at ht
        split at ht
        · rename_i t' l hg
          have hr : rowAt s r c' = some ⟨true, t', l⟩ := by unfold rowAt; rw [hg]; rfl
          refine hrow rfl hr (fun o' ho' => by simp [rowOf] at ho'; rw [← ho']) (by simp [rowOf]) (by simp [spotC, hg]) ht ⟨h1, ?_⟩
          simp only [rowOf]
          rw [hv]
          exact OwnRow.mono (H.rep.ownAt hr).2 H.hi
        · exact hany (told_any ht)
      | imm =>
        simp only [cellC] at ht
        split at ht
        · rename_i t' l hg
          have hr : rowAt s r c' = some ⟨true, t', l⟩ := by unfold rowAt; rw [hg]; rfl
          have hrep : RepV w Sc s pl (.sl .imm t' l) v := by
            simp only [RepV, RepCell]
            rw [hv]
            exact (H.rep.ownAt hr).2.toRepC H.hi fun b x hx => himm (r, c', 1) (by simp [immC, hg]) b x ⟨_, hr, hx⟩
          refine ⟨cell_told (S := Sc) (s := s) (pl := pl) ht (by unfold RepRoot; rw [rowOf_rep hrep]; exact hrep) h1 (fun _ _ h => h) (fun _ _ h => h) H.hs, fun o ho b x hx => ?_⟩
          exfalso
          rcases told_row ht ho with rfl | ⟨_, _, e, _⟩
          · simp [rowOf] at ho
          · cases e
        · exact hany (told_any ht)
      | lent =>
        simp only [cellC] at ht
        split at ht
        · rename_i o hr
          refine hrow rfl hr (fun o' ho' => by simp [rowOf] at ho'; rw [← ho']) (by simp [rowOf]) (by simp [spotC, hr]) ht ⟨h1, ?_⟩
          simp only [rowOf]
          rw [hv]
          exact OwnRow.mono (H.rep.ownAt hr).2 H.hi
        · exact hany (told_any ht)
    | _ =>
      cases f with
      | lent => exact hany (told_any (by simpa [cellC] using ht))
      | _ => exact hlook (by simpa [cellC] using ht)
theorem behind_ok (H : HC w S Sc pl s s1 a z) {n : Nat} {p : PV} {v : Value} {cs : List PV} (hp : RepV w S s pl p v) (hf : behind s1 z n p = some cs) (hn : cs.length = n) :
    ∃ (b o : Nat) (vs : List Value), v = .pointer (some (at_ b o)) ∧ vs.length = n ∧ (∀ (j : Nat) (u : Value), vs[j]? = some u → w.cell? (at_ b (o + j)) = some u ∧ Sc .bor b (o + j)) ∧ ∀ j, j < n → ∀ p', CellTold (gt cs j) p' → CellOK w Sc p' (vs.getD j undef) := by
  have hcells : ∀ {qs : List PV} {us : List Value}, RepL w Sc s pl qs us → (∀ u ∈ us, u.oneCell' = true) → ∀ j, j < qs.length → ∀ p', CellTold (gt qs j) p' → CellOK w Sc p' (us.getD j undef) := fun {qs us} hr h1 j hj p' ht => by
    have hju : j < us.length := by rw [hr.len]; exact hj
    have hu : us[j]? = some (us.getD j undef) := by simp [List.getD, hju]
    have hrv := hr.get j _ hu
    refine cell_told (S := Sc) (s := s) (pl := pl) ht (by unfold RepRoot; rw [rowOf_rep hrv]; exact hrv) (h1 _ ?_) (fun _ _ h => h) (fun _ _ h => h) H.hs
    rw [List.getD_eq_getElem?_getD, List.getElem?_eq_getElem hju]
    exact List.getElem_mem hju
  cases p with
  | ptr r c =>
    simp only [behind] at hf
    cases hz : hits (r, c, n) z with
    | true => rw [hz] at hf; simp at hf
    | false =>
      rw [hz, cond_false] at hf
      obtain rfl := Option.some.inj hf
      simp only [RepV, RepCell] at hp
      obtain ⟨b, o, hm, rfl⟩ := hp
      have hll : ∀ l : List PV, (looks s1 l).length = l.length := fun l => by induction l with
        | nil => rfl
        | cons x l ih => simp [looks, ih]
      have hlg : ∀ (l : List PV) j, gt (looks s1 l) j = look s1 (gt l j) := fun l => by
        induction l with
        | nil => intro j; simp [looks, gt, look]
        | cons x l ih => intro j; cases j with
          | zero => rfl
          | succ j => exact ih j
      rw [hll, ptake_eq, pdrop_eq, List.length_take, List.length_drop, H.len] at hn
      have hz' : ∀ j, j < n → hits (r, c + j, 1) z = false := fun j hj => hits_part hz hj
      refine ⟨b, o + c, (List.range n).map fun j => pl.hv r (c + j), rfl, by simp, fun j u hu => ?_, fun j hj p' ht => ?_⟩
      · rw [List.getElem?_map] at hu
        rcases Nat.lt_or_ge j n with hj | hj
        · rw [List.getElem?_range hj] at hu
          simp only [Option.map_some, Option.some.injEq] at hu
          subst hu
          rw [show o + c + j = o + (c + j) by omega]
          exact ⟨(H.rep.mem r b o (c + j) hm (by omega)).1, H.room r (c + j) b o hm (by omega) (hz' j hj)⟩
        · rw [List.getElem?_eq_none (by simpa using hj)] at hu; simp at hu
      · have hg : ((List.range n).map fun j => pl.hv r (c + j)).getD j undef = pl.hv r (c + j) := by simp [List.getD, hj]
        rw [hg]
        rw [hlg] at ht
        have hgt : gt (ptake n (pdrop c (gr s1.r r))) j = gt (gr s1.r r) (c + j) := by rw [ptake_eq, pdrop_eq, gt_take, if_pos hj, gt_drop]
        rw [hgt] at ht
        have hcj : c + j < (gr s.r r).length := by omega
        obtain ⟨q1, q2⟩ := H.rep.roots r (c + j) hcj
        cases hro : rowAt s1 r (c + j) with
        | some o' =>
          obtain ⟨g1, g2⟩ := H.row _ _ _ hro
          have hlk : look s1 (gt (gr s1.r r) (c + j)) = .sl .bor o'.t o'.l := by
            rcases rowOf_some hro with ⟨e, _⟩ | ⟨e, _⟩ <;> (rw [e]; rfl)
          rw [hlk] at ht
          have hrep : RepV w Sc s pl (.sl .bor o'.t o'.l) (pl.hv r (c + j)) := by
            simp only [RepV, RepCell]
            exact (H.rep.ownAt g1).2.toRepC (fun b x hx => H.hs b x (H.hi b x hx)) fun b x hx => g2 b x ⟨_, g1, hx⟩
          exact cell_told (S := Sc) (s := s) (pl := pl) ht (by unfold RepRoot; rw [rowOf_rep hrep]; exact hrep) q2 (fun _ _ h => h) (fun _ _ h => h) H.hs
        | none =>
          rcases H.cell r (c + j) with e | e
          · rw [e] at ht
            rw [told_any ht]
            exact cellOK_any q2
          · have hrn : rowOf (gt (gr s.r r) (c + j)) = none := by rw [← e.1]; exact hro
            unfold RepRoot at q1
            rw [hrn] at q1
            exact look_told H.rep H.row H.hi H.hb H.hs (e.2 _ _ _ _ _ q1) q2 ht
  | rop cs0 d =>
    simp only [behind, Option.some.injEq] at hf
    subst hf
    simp only [RepV] at hp
    obtain ⟨b, o, vs, rfl, k1, k2, k3⟩ := hp
    have hr : RepL w S s pl (ptake n (pdrop d cs0)) ((vs.drop d).take n) := (k2.drop d).take n
    have hr' : RepL w Sc s pl (ptake n (pdrop d cs0)) ((vs.drop d).take n) :=
      RepL.keep (K := fun _ _ => True) (M := fun _ => True) ⟨fun _ _ _ _ _ _ h => h, fun f hf b x hx => by rcases hf with rfl | rfl; exact H.hi b x hx; exact H.hb b x hx, fun _ _ _ => rfl, fun _ _ o' _ h => ⟨o', h, rfl, rfl⟩, fun _ _ => rfl⟩ (okL.all (fun _ _ => trivial) (fun _ => trivial) _) hr
    refine ⟨b, o + d, (vs.drop d).take n, rfl, by rw [hr.len, hn], fun j u hu => ?_, fun j hj p' ht => hcells hr' (fun u hu => k3 u (List.mem_of_mem_drop (List.mem_of_mem_take hu))) j (by omega) p' ht⟩
    rw [List.getElem?_take] at hu
    split at hu
    · rw [List.getElem?_drop] at hu
      rw [show o + d + j = o + (d + j) by omega]
      exact ⟨(k1 _ u hu).1, H.hb _ _ (k1 _ u hu).2⟩
    · simp at hu
  | iptr f t l i d =>
    simp only [behind, Option.some.injEq] at hf
    subst hf
    simp only [RepV, RepCell] at hp
    obtain ⟨hf, x, h0, hx, a', row, rfl, hlen, hcell, hrep⟩ := hp
    rw [getD_rd hx] at hn ⊢
    have hSf : ∀ b x, S f b x → Sc f b x := fun b x hx => by rcases hf with rfl | rfl; exact H.hi b x hx; exact H.hb b x hx
    have hSb : ∀ b x, S f b x → Sc .bor b x := fun b x hx => by rcases hf with rfl | rfl; exact H.hs b x (H.hi b x hx); exact H.hb b x hx
    have he := enc_rep (S := Sc) (s := s) (pl := pl) f hf (RepC.mono (S' := Sc f) (fun _ _ _ _ h => h) hSf hrep)
    have he' := (he.drop d).take n
    refine ⟨a'.block, a'.off + d, (row.drop d).take n, rfl, by rw [he'.len, hn], fun j u hu => ?_, fun j hj p' ht => hcells he' (fun u hu => hrep.one u (List.mem_of_mem_drop (List.mem_of_mem_take hu))) j (by omega) p' ht⟩
    rw [List.getElem?_take] at hu
    split at hu
    · rw [List.getElem?_drop] at hu
      rw [show a'.off + d + j = a'.off + (d + j) by omega]
      exact ⟨(hcell _ u hu).1, hSb _ _ (hcell _ u hu).2⟩
    · simp at hu
  | eptr r c i d =>
    simp only [behind] at hf
    split at hf
    · rename_i o hw
      obtain rfl := Option.some.inj hf
      simp only [RepV, RepCell] at hp
      obtain ⟨_, hp⟩ := hp
      obtain ⟨g1, g2⟩ := H.row _ _ _ hw
      obtain ⟨h0, h1, b, n0, cap, hv, rfl⟩ := hp o g1
      rcases (H.rep.ownAt g1).2 with ⟨e, _⟩ | ⟨b', cap', c', e', fz, hv', hle, hheap, hsz, hfz, hrows⟩
      · rw [e] at hv; simp at hv
      · rw [hv'] at hv
        simp only [Value.slice.injEq, Option.some.injEq, at_, Addr.mk.injEq] at hv
        obtain ⟨⟨rfl, _⟩, _⟩ := hv
        have hi : i.toNat < o.l.length := by omega
        obtain ⟨row, k1, k2, k3⟩ := hrows i.toNat o.l[i.toNat] (List.getElem?_eq_getElem hi)
        have hrd : rd o.t o.l i = o.l[i.toNat] := by simp [rd, List.getD, hi]
        rw [hrd] at hn ⊢
        have he := enc_rep (S := Sc) (s := s) (pl := pl) .bor (.inr rfl) (RepC.mono (S' := Sc .bor) (fun _ _ _ _ h => h) (fun b x hx => H.hs b x (H.hi b x hx)) k3)
        have he' := (he.drop d).take n
        have hpm : (i.toNat + 1) * o.t.sz' ≤ cap' * o.t.sz' := Nat.mul_le_mul_right _ (by omega)
        rw [Nat.add_mul] at hpm
        refine ⟨b', i.toNat * o.t.sz' + d, (row.drop d).take n, rfl, by rw [he'.len, hn], fun j u hu => ?_, fun j hj p' ht => hcells he' (fun u hu => k3.one u (List.mem_of_mem_drop (List.mem_of_mem_take hu))) j (by omega) p' ht⟩
        rw [List.getElem?_take] at hu
        split at hu
        · rw [List.getElem?_drop] at hu
          have hlt : d + j < row.length := (List.getElem?_eq_some_iff.1 hu).1
          rw [show i.toNat * o.t.sz' + d + j = i.toNat * o.t.sz' + (d + j) by omega]
          refine ⟨?_, g2 _ _ ⟨o, g1, _, _, _, hv', rfl, by omega⟩⟩
          unfold World.cell? at_
          simp only [hheap]
          exact k2 _ u hu
        · simp at hu
    · cases hf
  | _ => simp [behind] at hf
end
end Go.Ab
namespace Go.Ab
open Go.RowKit
set_option linter.unusedVariables false
set_option linter.unusedSimpArgs false
def argMem (s : St) (pl : Pl) : Bool → PV → Option (Nat × Nat)
  | true, .ptr r c => match pl.mem r with
    | some (b, o) => some (b, o + c)
    | none => none
  | true, .eptr r c i d => match rowAt s r c, pl.hv r c with
    | some o, .slice (some a) _ _ => some (a.block, i.toNat * o.t.sz' + d)
    | _, _ => none
  | _, _ => none
def argHv (w : World) (s : St) (pl : Pl) (b : Bool) (p : PV) (q0 : List PV) (arg : Value) (j : Nat) : Value :=
  match b, p with
  | true, .ptr r c => pl.hv r (c + j)
  | true, _ => match argMem s pl b p with
    | some (k, o) => (w.cell? (at_ k (o + j))).getD (.bool false)
    | none => .bool false
  | false, _ => if (rowOf (gt q0 j)).isSome then arg.cells.toList.getD j undef else .bool false
def srcOf : Bool → PV → Option Nat → Option (Nat × Option Nat)
  | true, .ptr r _, none => some (r, none)
  | true, .ptr r c, some j => some (r, some (c + j))
  | true, .eptr r c _ _, none => some (r, some c)
  | false, .view r c, some 0 => some (r, some c)
  | false, .agg l, some j => match gt l j with
    | .view r c => some (r, some c)
    | _ => none
  | _, _, _ => none
def uniq (s : St) : Bool → SS → PV → Option Nat → Nat → Option Nat → Prop
  | false, .agg fl, .agg l, some j, r, some c' => ∃ c, fl[j]? = some c ∧ spotC s c (gt l j) = [(r, c', 1)]
  | _, _, _, _, _, _ => True
def tch (pl : Pl) (z : List Spot) (r : Nat) : Option Nat → Nat → Nat → Prop
  | some c, _, _ => hits (r, c, 1) z = true
  | none, b, x => ∃ o, pl.mem r = some (b, o) ∧ o ≤ x ∧ hits (r, x - o, 1) z = true
section
variable {w w' : World} {S Sc : Fl → Cset} {pl : Pl} {s s1 : St} {a : Array Value} {z : List Spot}
theorem hits_self (r c : Nat) : hits (r, c, 1) [(r, c, 1)] = true := by simp [hits, meets]
theorem noRow_none {cs : List CS} (h : noRow cs = true) : ∀ c ∈ cs, ∀ p p', CellC c p p' → tellI c = true → rowOf p' = none := by
  induction cs with
  | nil => intro c hc; simp at hc
  | cons d cs ih =>
    intro c hc p p' h1 h2
    have hcs : noRow cs = true := by
      cases d with
      | val f t => cases f <;> simp_all [noRow]
      | _ => simpa [noRow] using h
    rcases List.mem_cons.1 hc with rfl | hc
    · cases c with
      | any => simp only [CellC] at h1; subst h1; rfl
      | fix q =>
        simp only [CellC] at h1
        obtain ⟨_, rfl⟩ := h1
        cases p' with
        | nil => rfl
        | clo f l => rfl
        | _ => simp [tellI] at h2
      | val f t =>
        obtain ⟨x, hx, rfl⟩ := h1
        cases t with
        | slice t => cases f <;> simp_all [noRow, enc, rowOf]
        | int k => simp [enc, rowOf]
        | bool => simp [enc, rowOf]
        | str => simp [enc, rowOf]
        | pair a b => simp [decC] at hx
        | unit => simp [decC] at hx
        | sum a b => simp [decC] at hx
        | opq => simp [decC] at hx
    · exact ih hcs c hc p p' h1 h2
theorem caps_ok (H : HC w S Sc pl s s1 a z) : ∀ {caps : List (List CS)} {ps cs : List PV} {vs : List Value} {q : List PV}, capCells s1 z caps ps = some cs → RepL w S s pl ps vs → q.length = cs.length →
    (∀ j c, caps.flatten[j]? = some c → CellTold (gt cs j) (gt q j) ∧ rowOf (gt q j) = none) → cs.length = caps.flatten.length ∧ ∀ s' pl', RepL w Sc s' pl' (reps caps q).1 vs
  | [], [], cs, vs, q, hf, hr, hq, ht => by
    simp only [capCells, Option.some.injEq] at hf
    subst hf
    simp only [RepL] at hr
    subst hr
    exact ⟨rfl, fun _ _ => by simp [reps, RepL]⟩
  | [], _ :: _, _, _, _, hf, _, _, _ => by simp [capCells] at hf
  | _ :: _, [], _, _, _, hf, _, _, _ => by simp [capCells] at hf
  | c :: caps, p :: ps, cs, vs, q, hf, hr, hq, ht => by
    simp only [capCells] at hf
    split at hf
    · rename_i cs1 hb
      cases hn : Nat.beq (plen cs1) (clen c) with
      | false => rw [hn] at hf; simp at hf
      | true =>
        rw [hn, cond_true] at hf
        split at hf
        · rename_i cs2 hr2
          obtain rfl := Option.some.inj hf
          simp only [RepL] at hr
          obtain ⟨u, us, rfl, r1, r2⟩ := hr
          simp only [Nat.beq_eq, plen_eq, clen_eq] at hn
          obtain ⟨b, o, vs1, rfl, k1, k2, k3⟩ := behind_ok H r1 hb (by rw [hn, clen_eq])
          rw [clen_eq] at k1 k3
          rw [pcat_eq] at hq ht ⊢
          have hlq : q.length = cs1.length + cs2.length := by simpa using hq
          have hsub := caps_ok H (q := pdrop (clen c) q) hr2 r2 (by rw [pdrop_eq, List.length_drop, clen_eq]; omega) (fun j d hd => by
            have := ht (c.length + j) d (by simp [List.getElem?_append_right, hd])
            rw [gt_append, if_neg (by omega), show c.length + j - cs1.length = j by omega] at this
            rw [pdrop_eq, gt_drop, clen_eq]
            exact this)
          refine ⟨by simp [hsub.1, hn], fun s' pl' => ?_⟩
          simp only [reps]
          refine ⟨_, _, rfl, ?_, hsub.2 s' pl'⟩
          simp only [RepV]
          have hcell : ∀ j, j < c.length → CellOK w Sc (gt (ptake (clen c) q) j) (vs1.getD j undef) ∧ rowOf (gt (ptake (clen c) q) j) = none := fun j hj => by
            have := ht j c[j] (by simp [List.getElem?_append_left, hj])
            rw [gt_append, if_pos (by omega)] at this
            rw [ptake_eq, gt_take, clen_eq, if_pos hj]
            exact ⟨k3 j hj _ this.1, this.2⟩
          refine ⟨b, o, vs1, rfl, k2, RepL.of ?_ fun j u hu => ?_, fun u hu => ?_⟩
          · rw [ptake_eq, List.length_take, clen_eq]; omega
          · have hj : j < c.length := by rw [← k1]; exact (List.getElem?_eq_some_iff.1 hu).1
            obtain ⟨⟨_, g1⟩, g2⟩ := hcell j hj
            rw [g2, len_getD hu] at g1
            exact g1 s' pl'
          · obtain ⟨j, hj⟩ := List.getElem?_of_mem hu
            have hj' : j < c.length := by rw [← k1]; exact (List.getElem?_eq_some_iff.1 hj).1
            have := (hcell j hj').1.1
            rwa [len_getD hj] at this
        · cases hf
    · cases hf
theorem immL_mem {cs : List CS} : ∀ {l : List PV} {j : Nat} {c : CS}, cs[j]? = some c → j < l.length → ∀ y ∈ immC s c (gt l j), y ∈ immL s cs l := by
  induction cs with
  | nil => intro l j c h; simp at h
  | cons d cs ih =>
    intro l j c h hj y hy
    cases l with
    | nil => simp at hj
    | cons p l =>
      simp only [immL, List.mem_append]
      cases j with
      | zero => simp only [List.getElem?_cons_zero, Option.some.injEq] at h; subst h; exact .inl hy
      | succ j => exact .inr (ih (by simpa using h) (by simpa using hj) y hy)
theorem spotL_mem {cs : List CS} : ∀ {l : List PV} {j : Nat} {c : CS}, cs[j]? = some c → j < l.length → ∀ y ∈ spotC s c (gt l j), y ∈ spotL s cs l := by
  induction cs with
  | nil => intro l j c h; simp at h
  | cons d cs ih =>
    intro l j c h hj y hy
    cases l with
    | nil => simp at hj
    | cons p l =>
      simp only [spotL, List.mem_append]
      cases j with
      | zero => simp only [List.getElem?_cons_zero, Option.some.injEq] at h; subst h; exact .inl hy
      | succ j => exact .inr (ih (by simpa using h) (by simpa using hj) y hy)
theorem cellL_gt {cs : List CS} : ∀ {l : List PV} {j : Nat} {c : CS}, cs[j]? = some c → j < l.length → gt (cellL s s1 cs l) j = cellC s s1 c (gt l j) := by
  induction cs with
  | nil => intro l j c h; simp at h
  | cons d cs ih =>
    intro l j c h hj
    cases l with
    | nil => simp at hj
    | cons p l =>
      cases j with
      | zero => simp only [List.getElem?_cons_zero, Option.some.injEq] at h; subst h; rfl
      | succ j => simp only [cellL, gt]; exact ih (by simpa using h) (by simpa using hj)
theorem look_single {p : PV} (h : cells p ≠ some [p]) : look s1 p = p := by
  cases p <;> simp_all [cells, look]
theorem told_single {p p' : PV} (h : cells p ≠ some [p]) (ht : CellTold p p') : p' = .any := by
  rcases ht with rfl | ⟨rfl, hf⟩ | ⟨_, _, rfl, _⟩ | ⟨_, _, rfl, _⟩
  · rfl
  · cases p' <;> simp_all [cells, freeV]
  · simp [cells] at h
  · simp [cells] at h
theorem arg_ok (H : HC w S Sc pl s s1 a z) {i : Nat} {b : Bool} {x : SS} {p : PV} {q cs : List PV} {arg : Value} (hp : RepV w S s pl p arg) (hcs : cells1 s s1 z b x p = some cs) (hlen : cs.length = clen x.flat)
    (hq : ∀ j c, x.flat[j]? = some c → CellC c (gt cs j) (gt q j)) (hql : q.length = clen x.flat) (htl : ∀ c ∈ x.flat, tellI c = true) (himm : ∀ y ∈ imm1 s b x p, ∀ b' x', rng s pl y.1 (some y.2.1) b' x' → Sc .imm b' x') :
    Arg w Sc i b x q arg (argMem s pl b p) (argHv w s pl b p (rootOf b q) arg) ∧
      ∀ u b' x', newRngF (argMem s pl b p) (rootOf b q) (argHv w s pl b p (rootOf b q) arg) u b' x' → ∃ r us, srcOf b p u = some (r, us) ∧ rng s pl r us b' x' ∧ tch pl (spot1 s b x p) r us b' x' ∧ uniq s b x p u r us := by
  have hto : ∀ j, j < clen x.flat → ∃ c, x.flat[j]? = some c ∧ CellC c (gt cs j) (gt q j) ∧ tellI c = true := fun j hj => by
    rw [clen_eq] at hj
    exact ⟨_, List.getElem?_eq_getElem hj, hq j _ (List.getElem?_eq_getElem hj), htl _ (List.getElem_mem hj)⟩
  have hbig : ∀ j o, rowOf (gt q j) = some o → j < clen x.flat := fun j o ho => by
    rw [← hql]
    rcases Nat.lt_or_ge j q.length with h | h
    · exact h
    · rw [gt_big _ _ h] at ho; simp [rowOf] at ho
  have hval : ∀ {vs : List Value}, vs.length = q.length → (∀ j, j < q.length → (rowOf (gt q j)).isSome = true → argHv w s pl false p (rowsOnly q) arg j = vs.getD j undef) → (∀ j, j < q.length → CellOK w Sc (gt q j) (vs.getD j undef)) →
      (∀ s' pl', pl'.mem i = none → (∀ j, pl'.hv i j = argHv w s pl false p (rowsOnly q) arg j) → RepL w Sc s' pl' (seen i 0 q) vs) ∧ (∀ j, j < q.length → CellOK w Sc (gt (rowsOnly q) j) (argHv w s pl false p (rowsOnly q) arg j)) := fun {vs} hl hg hc => by
    refine ⟨fun s' pl' _ hv => seen_cells hl hc fun j hj => ?_, fun j hj => ?_⟩
    · rw [Nat.zero_add, hv]
      refine hg j ?_ hj
      rcases Nat.lt_or_ge j q.length with h | h
      · exact h
      · rw [gt_big _ _ h] at hj; simp [rowOf] at hj
    · rw [rowsOnly_gt]
      cases hr : (rowOf (gt q j)).isSome with
      | true => rw [if_pos rfl, hg j hj hr]; exact hc j hj
      | false =>
        rw [if_neg (by simp)]
        refine cellOK_any ?_
        unfold argHv
        simp only
        rw [rowsOnly_gt, hr]
        simp [rowOf, Value.oneCell']
  have hnone : ∀ {m : Option (Nat × Nat)}, m = none → ∀ c o j, m = some (c, o) → j < q.length → w.cell? (at_ c (o + j)) = some (argHv w s pl b p (rootOf b q) arg j) ∧ w.frozen? (at_ c (o + j)) = false := fun e c o j h => by rw [e] at h; cases h
  unfold cells1 at hcs
  split at hcs
  ·
    rename_i fl r c
    cases hble : Nat.ble (c + clen fl) (plen (gr s.r r)) with
    | false => rw [hble] at hcs; simp at hcs
    | true =>
    rw [hble, cond_true] at hcs
    obtain rfl := Option.some.inj hcs
    simp only [SS.flat] at *
    have hpp := hp
    simp only [RepV, RepCell] at hp
    obtain ⟨b0, o, hm, rfl⟩ := hp
    have hme : argMem s pl true (.ptr r c) = some (b0, o + c) := by simp [argMem, hm]
    rw [ptake_eq, pdrop_eq, List.length_take, List.length_drop, clen_eq] at hlen
    have hlen' : c + fl.length ≤ (gr s.r r).length ∨ fl.length = 0 := by omega
    have hget : ∀ j, j < fl.length → gt (ptake (clen fl) (pdrop c (gr s.r r))) j = gt (gr s.r r) (c + j) := fun j hj => by rw [ptake_eq, pdrop_eq, gt_take, clen_eq, if_pos hj, gt_drop]
    refine ⟨⟨hql, fun s' pl' h1 h2 => ?_, fun j hj => ?_, fun k o' j h1 hj => ?_⟩, fun u b' x' hx => ?_⟩
    · simp only [slotOf, RepV, RepCell]
      exact ⟨b0, o + c, by rw [h1, hme], rfl⟩
    · rw [hql, clen_eq] at hj
      obtain ⟨q1, q2⟩ := H.rep.roots r (c + j) (by omega)
      obtain ⟨d, d1, d2, d3⟩ := hto j (by rw [clen_eq]; exact hj)
      rw [hget j hj] at d2
      exact cell_told (d2.told d3) q1 q2 H.hi H.hb H.hs
    · rw [hme] at h1
      rw [hql, clen_eq] at hj
      obtain ⟨rfl, rfl⟩ := Prod.mk.inj (Option.some.inj h1)
      have := H.rep.mem r b0 o (c + j) hm (by omega)
      rwa [show o + (c + j) = o + c + j by omega] at this
    · cases u with
      | none =>
        simp only [newRngF, hme, rootOf] at hx
        obtain ⟨o', h1, h2, h3⟩ := hx
        obtain ⟨rfl, rfl⟩ := Prod.mk.inj (Option.some.inj h1)
        rw [hql, clen_eq] at h3
        refine ⟨r, none, rfl, ⟨o, hm, by omega, by omega⟩, ⟨o, hm, by omega, ?_⟩, trivial⟩
        simp only [spot1, hits, Bool.or_false]
        rw [meets_iff]
        simp only [clen_eq]
        exact ⟨trivial, by omega, by omega⟩
      | some j =>
        simp only [newRngF, rootOf] at hx
        obtain ⟨o', h1, h2⟩ := hx
        have hj := hbig j o' h1
        obtain ⟨d, d1, d2, d3⟩ := hto j hj
        rw [clen_eq] at hj
        rw [hget j hj] at d2
        refine ⟨r, some (c + j), rfl, ?_, ?_, trivial⟩
        · rcases told_row (d2.told d3) h1 with e | ⟨f, t, e, _⟩
          · refine ⟨o', by unfold rowAt; rw [← e]; exact h1, h2⟩
          · exfalso
            obtain ⟨q1, q2⟩ := H.rep.roots r (c + j) (by omega)
            rw [e] at q1
            exact nil_range (v := pl.hv r (c + j)) (by simpa [RepRoot, rowOf] using q1) h2
        · simp only [tch, spot1, hits, Bool.or_false]
          rw [meets_iff]
          simp only [clen_eq]
          exact ⟨trivial, by omega, by omega⟩
  ·
    rename_i fl r c i0 d
    split at hcs
    · rename_i o hro
      obtain rfl := Option.some.inj hcs
      simp only [SS.flat] at *
      simp only [RepV, RepCell] at hp
      obtain ⟨_, hp⟩ := hp
      obtain ⟨h0, h1, b0, n0, cap, hv, rfl⟩ := hp o hro
      rcases (H.rep.ownAt hro).2 with ⟨e, _⟩ | ⟨b', cap', c', e', fz, hv', hle, hheap, hsz, hfz, hrows⟩
      · rw [e] at hv; simp at hv
      · have hv2 := hv
        rw [hv'] at hv
        simp only [Value.slice.injEq, Option.some.injEq, at_, Addr.mk.injEq] at hv
        obtain ⟨⟨rfl, _⟩, _⟩ := hv
        have hme : argMem s pl true (.eptr r c i0 d) = some (b', i0.toNat * o.t.sz' + d) := by simp [argMem, hro, hv2, at_]
        have hi : i0.toNat < o.l.length := by omega
        obtain ⟨row, k1, k2, k3⟩ := hrows i0.toNat o.l[i0.toNat] (List.getElem?_eq_getElem hi)
        have hrd : rd o.t o.l i0 = o.l[i0.toNat] := by simp [rd, List.getD, hi]
        rw [hrd] at hlen hto
        have he := enc_rep (S := Sc) (s := s) (pl := pl) .imm (.inl rfl) (RepC.mono (S' := Sc .imm) (fun _ _ _ _ h => h) H.hi k3)
        have he' := (he.drop d).take (clen fl)
        have hcl : ((row.drop d).take (clen fl)).length = clen fl := by rw [he'.len]; exact hlen
        have hpm : (i0.toNat + 1) * o.t.sz' ≤ cap' * o.t.sz' := Nat.mul_le_mul_right _ (by omega)
        rw [Nat.add_mul] at hpm
        have hcc : ∀ j, j < clen fl → ∃ u, ((row.drop d).take (clen fl))[j]? = some u ∧ w.cell? (at_ b' (i0.toNat * o.t.sz' + d + j)) = some u ∧ d + j < o.t.sz' ∧ u.oneCell' = true := fun j hj => by
          have hj' : j < ((row.drop d).take (clen fl)).length := by rw [hcl]; exact hj
          have hu := List.getElem?_eq_getElem hj'
          refine ⟨_, hu, ?_, ?_, ?_⟩
          · rw [List.getElem?_take, if_pos hj, List.getElem?_drop] at hu
            rw [show i0.toNat * o.t.sz' + d + j = i0.toNat * o.t.sz' + (d + j) by omega]
            unfold World.cell? at_
            simp only [hheap]
            exact k2 _ _ hu
          · rw [List.getElem?_take, if_pos hj, List.getElem?_drop] at hu
            rw [← k1]; exact (List.getElem?_eq_some_iff.1 hu).1
          · exact k3.one _ (List.mem_of_mem_drop (List.mem_of_mem_take (List.getElem_mem hj')))
        have hhv : ∀ j, j < clen fl → ((row.drop d).take (clen fl))[j]? = some (argHv w s pl true (.eptr r c i0 d) q (.pointer (some (at_ b' (i0.toNat * o.t.sz' + d)))) j) ∧ w.cell? (at_ b' (i0.toNat * o.t.sz' + d + j)) = some (argHv w s pl true (.eptr r c i0 d) q (.pointer (some (at_ b' (i0.toNat * o.t.sz' + d)))) j) ∧ d + j < o.t.sz' ∧ (argHv w s pl true (.eptr r c i0 d) q (.pointer (some (at_ b' (i0.toNat * o.t.sz' + d)))) j).oneCell' = true := fun j hj => by
          obtain ⟨u, u1, u2, u3, u4⟩ := hcc j hj
          have : argHv w s pl true (.eptr r c i0 d) q (.pointer (some (at_ b' (i0.toNat * o.t.sz' + d)))) j = u := by simp [argHv, hme, u2]
          rw [this]
          exact ⟨u1, u2, u3, u4⟩
        refine ⟨⟨hql, fun s' pl' h1 h2 => ?_, fun j hj => ?_, fun k o' j h1 hj => ?_⟩, fun u b'' x' hx => ?_⟩
        · simp only [slotOf, RepV, RepCell]
          exact ⟨b', i0.toNat * o.t.sz' + d, by rw [h1, hme], rfl⟩
        · rw [hql] at hj
          obtain ⟨e, e1, e2, e3⟩ := hto j hj
          obtain ⟨u1, u2, u3, u4⟩ := hhv j hj
          have hrv := he'.get j _ u1
          simp only [rootOf]
          exact cell_told (S := Sc) (s := s) (pl := pl) (e2.told e3) (by unfold RepRoot; rw [rowOf_rep hrv]; exact hrv) u4 (fun _ _ h => h) (fun _ _ h => h) H.hs
        · rw [hme] at h1
          rw [hql] at hj
          obtain ⟨rfl, rfl⟩ := Prod.mk.inj (Option.some.inj h1)
          obtain ⟨u1, u2, u3, u4⟩ := hhv j hj
          refine ⟨u2, ?_⟩
          have : i0.toNat * o.t.sz' + d + j < cap' * o.t.sz' := by omega
          have := hfz _ this
          unfold World.frozen? at_
          simp only [hheap]
          simpa using this
        · cases u with
          | none =>
            simp only [newRngF, hme, rootOf] at hx
            obtain ⟨o', h1, h2, h3⟩ := hx
            obtain ⟨rfl, rfl⟩ := Prod.mk.inj (Option.some.inj h1)
            rw [hql] at h3
            obtain ⟨u1, u2, u3, u4⟩ := hhv (x' - (i0.toNat * o.t.sz' + d)) (by omega)
            refine ⟨r, some c, rfl, ⟨o, hro, _, _, _, hv', rfl, by omega⟩, ?_, trivial⟩
            simp only [tch, spot1]
            exact hits_self r c
          | some j =>
            exfalso
            simp only [newRngF, rootOf] at hx
            obtain ⟨o', h1, h2⟩ := hx
            have hj := hbig j o' h1
            obtain ⟨e, e1, e2, e3⟩ := hto j hj
            obtain ⟨u1, u2, u3, u4⟩ := hhv j hj
            have hrv := he'.get j _ u1
            rcases told_row (e2.told e3) h1 with e | ⟨f, t, e, _⟩
            · rw [e, rowOf_rep hrv] at h1; cases h1
            · rw [e] at hrv
              exact nil_range hrv h2
    · cases hcs
  ·
    rename_i c
    obtain rfl := Option.some.inj hcs
    simp only [SS.flat, clen] at *
    have hq1 : ∃ p', q = [p'] := by
      cases q with
      | nil => simp at hql
      | cons p' q => cases q with
        | nil => exact ⟨p', rfl⟩
        | cons _ _ => simp at hql
    obtain ⟨p', rfl⟩ := hq1
    have hc := hq 0 c rfl
    have hti := htl c (by simp)
    simp only [gt] at hc
    by_cases hsg : cells p = some [p]
    · obtain ⟨hc1, hc2⟩ := hp.single hsg
      obtain ⟨g1, g2⟩ := handed_cell H hp hc2 hti hc (fun y hy => himm y (by simpa [imm1] using hy))
      obtain ⟨v1, v2⟩ := hval (vs := [arg]) rfl (fun j hj hr => by
        have : j = 0 := by simp at hj; exact hj
        subst this
        simp only [argHv]
        rw [rowsOnly_gt, if_pos (by rw [hr]; simp [hr]), hc1]) (fun j hj => by
        have : j = 0 := by simp at hj; exact hj
        subst this
        exact g1)
      refine ⟨⟨rfl, fun s' pl' h1 h2 => ?_, v2, hnone rfl⟩, fun u b' x' hx => ?_⟩
      · have := v1 s' pl' h1 h2
        have h0 := this.get 0 arg rfl
        simp only [slotOf]
        cases hsn : seen i 0 [p'] with
        | nil => have := seen_len i [p'] 0; rw [hsn] at this; simp at this
        | cons y ys => rw [hsn] at h0; exact h0
      · cases u with
        | none => simp [newRngF, argMem] at hx
        | some j =>
          simp only [newRngF, rootOf] at hx
          obtain ⟨o, h1, h2⟩ := hx
          rw [rowsOnly_gt] at h1
          cases hr : (rowOf (gt [p'] j)).isSome with
          | false => rw [hr] at h1; simp [rowOf] at h1
          | true =>
            rw [hr, if_pos rfl] at h1
            have hj := hbig j o h1
            have : j = 0 := by simpa [clen] using hj
            subst this
            have hv : argHv w s pl false p (rowsOnly [p']) arg 0 = arg := by
              simp only [argHv]
              rw [rowsOnly_gt, if_pos (by rw [hr]; simp [hr]), hc1]
              rfl
            rw [hv] at h2
            obtain ⟨r, c', e1, e2, e3⟩ := g2 o h1 b' x' h2
            subst e1
            exact ⟨r, some c', rfl, e3, by simp only [tch, spot1, e2]; exact hits_self r c', trivial⟩
    · have hp' : p' = .any := by
        have : CellTold (look s1 p) p' ∨ p' = .any := by
          have ht := hc.told hti
          cases c with
          | any => exact .inl (by simpa [cellC] using ht)
          | fix _ => exact .inl (by cases p <;> simpa [cellC] using ht)
          | val f t => cases p <;> cases f <;> first | exact .inl (by simpa [cellC] using ht) | exact .inr (told_any (by simpa [cellC] using ht)) | simp [cells] at hsg
        rcases this with h | h
        · rw [look_single hsg] at h
          exact told_single hsg h
        · exact h
      subst hp'
      refine ⟨⟨rfl, fun s' pl' h1 h2 => by simp [slotOf, seen, build1, RepV], fun j hj => ?_, hnone rfl⟩, fun u b' x' hx => ?_⟩
      · have : j = 0 := by simp at hj; exact hj
        subst this
        exact cellOK_any (by simp [argHv, rootOf, rowsOnly, gt, rowOf, Value.oneCell'])
      · cases u with
        | none => simp [newRngF, argMem] at hx
        | some j =>
          simp only [newRngF, rootOf] at hx
          obtain ⟨o, h1, h2⟩ := hx
          cases j <;> simp [rowsOnly, gt, rowOf] at h1
  ·
    rename_i fl l
    cases hll : Nat.beq (plen l) (clen fl) with
    | false => rw [hll] at hcs; simp at hcs
    | true =>
      rw [hll, cond_true] at hcs
      obtain rfl := Option.some.inj hcs
      simp only [SS.flat] at *
      simp only [Nat.beq_eq, plen_eq] at hll
      simp only [RepV] at hp
      obtain ⟨vs, rfl, r1, r2⟩ := hp
      have hvl : vs.toList.length = q.length := by rw [r1.len, hll, hql]
      have hcell : ∀ j, j < q.length → ∃ c v, fl[j]? = some c ∧ vs.toList[j]? = some v ∧ CellOK w Sc (gt q j) v ∧ ∀ o, rowOf (gt q j) = some o → ∀ b x, rowRange o.t v b x → ∃ r c', gt l j = .view r c' ∧ spotC s c (gt l j) = [(r, c', 1)] ∧ rng s pl r (some c') b x := fun j hj => by
        have hjv : j < vs.toList.length := by rw [hvl]; exact hj
        have hv := List.getElem?_eq_getElem hjv
        obtain ⟨c, c1, c2, c3⟩ := hto j (by rw [← hql]; exact hj)
        rw [cellL_gt c1 (by omega)] at c2
        obtain ⟨g1, g2⟩ := handed_cell H (r1.get j _ hv) (r2 _ (List.getElem_mem hjv)) c3 c2 (fun y hy => himm y (by simp only [imm1]; exact immL_mem c1 (by omega) y hy))
        exact ⟨c, _, c1, hv, g1, g2⟩
      have hcv : (Value.agg vs).cells.toList = vs.toList := rfl
      obtain ⟨v1, v2⟩ := hval (vs := vs.toList) hvl (fun j hj hr => by
        simp only [argHv]
        rw [rowsOnly_gt, if_pos (by rw [hr]; simp [hr]), hcv]) (fun j hj => by
        obtain ⟨c, v, _, e2, e3, _⟩ := hcell j hj
        rw [len_getD e2]; exact e3)
      refine ⟨⟨hql, fun s' pl' h1 h2 => ?_, v2, hnone rfl⟩, fun u b' x' hx => ?_⟩
      · simp only [slotOf, build1, RepV]
        refine ⟨vs, rfl, ?_, r2⟩
        rw [ptake_eq, List.take_of_length_le (by rw [seen_len]; omega)]
        exact v1 s' pl' h1 h2
      · cases u with
        | none => simp [newRngF, argMem] at hx
        | some j =>
          simp only [newRngF, rootOf] at hx
          obtain ⟨o, h1, h2⟩ := hx
          rw [rowsOnly_gt] at h1
          cases hr : (rowOf (gt q j)).isSome with
          | false => rw [hr] at h1; simp [rowOf] at h1
          | true =>
            rw [hr, if_pos rfl] at h1
            have hj := hbig j o h1
            obtain ⟨c, v, e1, e2, e3, e4⟩ := hcell j (by rw [hql]; exact hj)
            have hv : argHv w s pl false (.agg l) (rowsOnly q) (.agg vs) j = v := by
              simp only [argHv]
              rw [rowsOnly_gt, if_pos (by rw [hr]; simp [hr]), hcv, len_getD e2]
            rw [hv] at h2
            obtain ⟨r, c', f1, f2, f3⟩ := e4 o h1 b' x' h2
            refine ⟨r, some c', by simp [srcOf, f1], f3, ?_, c, e1, f2⟩
            simp only [tch, spot1]
            refine hits_iff.2 ⟨(r, c', 1), spotL_mem e1 (by omega) _ (by rw [f2]; simp), ?_⟩
            simp [meets]
  ·
    rename_i fl
    cases hnr : noRow fl with
    | false => rw [hnr] at hcs; simp at hcs
    | true =>
      rw [hnr, cond_true] at hcs
      simp only [SS.flat] at *
      obtain ⟨b0, o, vs, rfl, k1, k2, k3⟩ := behind_ok H hp hcs hlen
      have hrow : ∀ j, j < q.length → rowOf (gt q j) = none := fun j hj => by
        obtain ⟨c, c1, c2, c3⟩ := hto j (by rw [← hql]; exact hj)
        exact noRow_none hnr c (List.mem_of_getElem? c1) _ _ c2 c3
      have hc : ∀ j, j < q.length → CellOK w Sc (gt q j) (vs.getD j undef) := fun j hj => by
        obtain ⟨c, c1, c2, c3⟩ := hto j (by rw [← hql]; exact hj)
        exact k3 j (by rw [← hql]; exact hj) _ (c2.told c3)
      obtain ⟨v1, v2⟩ := hval (vs := vs) (by rw [k1, hql]) (fun j hj hr => by rw [hrow j hj] at hr; simp at hr) hc
      refine ⟨⟨hql, fun s' pl' h1 h2 => ?_, v2, hnone rfl⟩, fun u b' x' hx => ?_⟩
      · simp only [slotOf, build1, RepV]
        refine ⟨b0, o, vs, rfl, k2, ?_, fun u hu => ?_⟩
        · rw [ptake_eq, List.take_of_length_le (by rw [seen_len]; omega)]
          exact v1 s' pl' h1 h2
        · obtain ⟨j, hj⟩ := List.getElem?_of_mem hu
          have hj' : j < q.length := by rw [hql, ← k1]; exact (List.getElem?_eq_some_iff.1 hj).1
          have := (hc j hj').1
          rwa [len_getD hj] at this
      · exfalso
        cases u with
        | none => simp [newRngF, argMem] at hx
        | some j =>
          simp only [newRngF, rootOf] at hx
          obtain ⟨o', h1, h2⟩ := hx
          rw [rowsOnly_gt] at h1
          cases hr : (rowOf (gt q j)).isSome with
          | false => rw [hr] at h1; simp [rowOf] at h1
          | true =>
            rw [hr, if_pos rfl] at h1
            rw [hrow j (by rw [hql]; exact hbig j o' h1)] at h1
            cases h1
  ·
    rename_i f caps f' ps
    split at hcs
    · rename_i ef
      subst ef
      cases hnr : noRow caps.flatten with
      | false => rw [hnr] at hcs; simp at hcs
      | true =>
        rw [hnr, cond_true] at hcs
        simp only [SS.flat] at *
        simp only [RepV] at hp
        obtain ⟨vs, rfl, r1⟩ := hp
        have hrow : ∀ j, j < q.length → rowOf (gt q j) = none := fun j hj => by
          obtain ⟨c, c1, c2, c3⟩ := hto j (by rw [← hql]; exact hj)
          exact noRow_none hnr c (List.mem_of_getElem? c1) _ _ c2 c3
        have hseen : seen i 0 q = q := by
          refine List.ext_getElem (by rw [seen_len]) fun j h1 h2 => ?_
          have := seen_gt i q 0 j
          rw [hrow j h2] at this
          rw [← gt_get _ _ h1, ← gt_get _ _ h2]
          simpa using this
        obtain ⟨g1, g2⟩ := caps_ok H (q := q) hcs r1 (by rw [hql, hlen]) (fun j c hc => by
          have hj : j < caps.flatten.length := (List.getElem?_eq_some_iff.1 hc).1
          exact ⟨(hq j c hc).told (htl c (List.mem_of_getElem? hc)), hrow j (by rw [hql, clen_eq]; exact hj)⟩)
        refine ⟨⟨hql, fun s' pl' h1 h2 => ?_, fun j hj => ?_, hnone rfl⟩, fun u b' x' hx => ?_⟩
        · simp only [slotOf, hseen, build1, RepV]
          exact ⟨vs, rfl, g2 s' pl'⟩
        · simp only [rootOf]
          rw [rowsOnly_gt, hrow j hj]
          refine cellOK_any ?_
          simp only [argHv]
          rw [rowsOnly_gt, hrow j hj]
          simp [rowOf, Value.oneCell']
        · exfalso
          cases u with
          | none => simp [newRngF, argMem] at hx
          | some j =>
            simp only [newRngF, rootOf] at hx
            obtain ⟨o', h1, h2⟩ := hx
            rw [rowsOnly_gt] at h1
            cases hr : (rowOf (gt q j)).isSome with
            | false => rw [hr] at h1; simp [rowOf] at h1
            | true =>
              rw [hr, if_pos rfl] at h1
              rw [hrow j (by rw [hql]; exact hbig j o' h1)] at h1
              cases h1
    · cases hcs
  · cases hcs
end
end Go.Ab
namespace Go.Ab
open Go.RowKit
set_option linter.unusedVariables false
set_option linter.unusedSimpArgs false
theorem hits_append {x : Spot} {a b : List Spot} : hits x (a ++ b) = (hits x a || hits x b) := by
  induction a with
  | nil => simp [hits]
  | cons y a ih => simp [hits, ih, Bool.or_assoc]
theorem loose_append {a b : List Spot} : loose (a ++ b) = true ↔ loose a = true ∧ loose b = true ∧ ∀ x ∈ a, hits x b = false := by
  induction a with
  | nil => simp [loose]
  | cons y a ih =>
    simp only [List.cons_append, loose, Bool.and_eq_true, hits_append, Bool.not_eq_true', Bool.or_eq_false_iff, ih, List.mem_cons]
    constructor
    · rintro ⟨⟨h1, h2⟩, h3, h4, h5⟩
      exact ⟨⟨h1, h3⟩, h4, fun x hx => by rcases hx with rfl | hx; exact h2; exact h5 x hx⟩
    · rintro ⟨⟨h1, h3⟩, h4, h5⟩
      exact ⟨⟨h1, h5 y (.inl rfl)⟩, h3, h4, fun x hx => h5 x (.inr hx)⟩
theorem loose_cell {a b : List Spot} (h : ∀ x ∈ a, hits x b = false) {r c : Nat} (h1 : hits (r, c, 1) a = true) (h2 : hits (r, c, 1) b = true) : False := by
  obtain ⟨y, y1, y2⟩ := hits_iff.1 h1
  obtain ⟨y', y1', y2'⟩ := hits_iff.1 h2
  have := h y y1
  rw [meets_iff] at y2 y2'
  have hh : hits y b = true := hits_iff.2 ⟨y', y1', meets_iff.2 ⟨by omega, by simp only at *; omega, by simp only at *; omega⟩⟩
  rw [this] at hh
  cases hh
theorem spotL_inj {s : St} : ∀ {cs : List CS} {l : List PV}, loose (spotL s cs l) = true → ∀ {j j' : Nat} {c c' : CS} {r k : Nat}, cs[j]? = some c → spotC s c (gt l j) = [(r, k, 1)] → cs[j']? = some c' → spotC s c' (gt l j') = [(r, k, 1)] → j = j'
  | [], l, _, j, j', c, c', r, k, h1, _, _, _ => by simp at h1
  | d :: cs, [], _, j, j', c, c', r, k, h1, h2, _, _ => by
    exfalso
    rw [gt_big _ _ (by simp)] at h2
    cases c with
    | val f t => cases f <;> simp [spotC] at h2
    | _ => simp [spotC] at h2
  | d :: cs, p :: l, hl, j, j', c, c', r, k, h1, h2, h3, h4 => by
    simp only [spotL] at hl
    obtain ⟨l1, l2, l3⟩ := loose_append.1 hl
    have hmem : ∀ {j : Nat} {c : CS}, cs[j]? = some c → spotC s c (gt l j) = [(r, k, 1)] → hits (r, k, 1) (spotL s cs l) = true := fun {j c} g1 g2 => by
      have hj : j < l.length := by
        rcases Nat.lt_or_ge j l.length with h | h
        · exact h
        · exfalso
          rw [gt_big _ _ h] at g2
          cases c with
          | val f t => cases f <;> simp [spotC] at g2
          | _ => simp [spotC] at g2
      exact hits_iff.2 ⟨(r, k, 1), spotL_mem g1 hj _ (by rw [g2]; simp), by simp [meets]⟩
    cases j with
    | zero =>
      cases j' with
      | zero => rfl
      | succ j' =>
        exfalso
        simp only [List.getElem?_cons_zero, Option.some.injEq] at h1
        subst h1
        simp only [gt] at h2 h4
        exact loose_cell l3 (r := r) (c := k) (by rw [h2]; exact hits_self r k) (hmem (by simpa using h3) h4)
    | succ j =>
      cases j' with
      | zero =>
        exfalso
        simp only [List.getElem?_cons_zero, Option.some.injEq] at h3
        subst h3
        simp only [gt] at h2 h4
        exact loose_cell l3 (r := r) (c := k) (by rw [h4]; exact hits_self r k) (hmem (by simpa using h1) h2)
      | succ j' =>
        simp only [gt] at h2 h4
        rw [spotL_inj l2 (by simpa using h1) h2 (by simpa using h3) h4]
def All5 (P : Nat → Bool → SS → PV → List PV → Value → Prop) : Nat → List Bool → List SS → List PV → List PV → List Value → Prop
  | i, b :: bs, x :: l, p :: ps, q, a :: as => P i b x p (ptake (clen x.flat) q) a ∧ All5 P (i + 1) bs l ps (pdrop (clen x.flat) q) as
  | _, [], [], [], _, [] => True
  | _, _, _, _, _, _ => False
theorem All5.imp {P Q : Nat → Bool → SS → PV → List PV → Value → Prop} : ∀ {bs : List Bool} {l : List SS} {ps q : List PV} {as : List Value} {i : Nat}, All5 P i bs l ps q as → (∀ j b x p q a, i ≤ j → P j b x p q a → Q j b x p q a) → All5 Q i bs l ps q as
  | [], [], [], _, [], i, h, _ => trivial
  | b :: bs, x :: l, p :: ps, q, a :: as, i, h, k => ⟨k _ _ _ _ _ _ (Nat.le_refl _) h.1, h.2.imp fun j b x p q a hj => k j b x p q a (by omega)⟩
  | [], [], [], _, _ :: _, _, h, _ => h.elim
  | [], [], _ :: _, _, _, _, h, _ => h.elim
  | [], _ :: _, _, _, _, _, h, _ => h.elim
  | _ :: _, [], _, _, _, _, h, _ => h.elim
  | _ :: _, _ :: _, [], _, _, _, h, _ => h.elim
  | _ :: _, _ :: _, _ :: _, _, [], _, h, _ => h.elim
theorem All5.get {P : Nat → Bool → SS → PV → List PV → Value → Prop} : ∀ {bs : List Bool} {l : List SS} {ps q : List PV} {as : List Value} {i : Nat}, All5 P i bs l ps q as →
    bs.length = l.length ∧ ps.length = l.length ∧ as.length = l.length ∧ ∀ j, j < l.length → ∃ b x p a, bs[j]? = some b ∧ l[j]? = some x ∧ ps[j]? = some p ∧ as[j]? = some a ∧ ∃ q0, gr (entry i bs l q).2 j = rootOf b q0 ∧ gt (entry i bs l q).1 j = slotOf (i + j) b x q0 ∧ P (i + j) b x p q0 a
  | [], [], [], _, [], i, h => ⟨rfl, rfl, rfl, fun j hj => by simp at hj⟩
  | b :: bs, x :: l, p :: ps, q, a :: as, i, h => by
    obtain ⟨k1, k2, k3, k4⟩ := h.2.get
    refine ⟨by simp [k1], by simp [k2], by simp [k3], fun j hj => ?_⟩
    rw [entry_cons]
    cases j with
    | zero => exact ⟨b, x, p, a, rfl, rfl, rfl, rfl, _, rfl, rfl, h.1⟩
    | succ j =>
      obtain ⟨b', x', p', a', g1, g2, g3, g4, q0, g5, g6, g7⟩ := k4 j (by simpa using hj)
      have e : i + (j + 1) = i + 1 + j := by omega
      rw [e]
      exact ⟨b', x', p', a', by simpa using g1, by simpa using g2, by simpa using g3, by simpa using g4, q0, g5, g6, g7⟩
  | [], [], [], _, _ :: _, _, h => h.elim
  | [], [], _ :: _, _, _, _, h => h.elim
  | [], _ :: _, _, _, _, _, h => h.elim
  | _ :: _, [], _, _, _, _, h => h.elim
  | _ :: _, _ :: _, [], _, _, _, h => h.elim
  | _ :: _, _ :: _, _ :: _, _, [], _, h => h.elim
section
variable {w w' : World} {S Sc : Fl → Cset} {pl : Pl} {s s1 : St} {a : Array Value} {z : List Spot}
structure ArgF (w : World) (Sc : Fl → Cset) (s : St) (pl : Pl) (m : Nat → Option (Nat × Nat)) (g : Nat → Nat → Value) (i : Nat) (b : Bool) (x : SS) (p : PV) (q : List PV) (arg : Value) : Prop where
  ok : Arg w Sc i b x q arg (m i) (g i)
  m_eq : m i = argMem s pl b p
  g_eq : g i = argHv w s pl b p (rootOf b q) arg
  src : ∀ u b' x', newRngF (m i) (rootOf b q) (g i) u b' x' → ∃ r us, srcOf b p u = some (r, us) ∧ rng s pl r us b' x' ∧ tch pl (spot1 s b x p) r us b' x' ∧ uniq s b x p u r us
theorem args_ok (H : HC w S Sc pl s s1 a z) : ∀ {bs : List Bool} {l : List SS} {ps cs q : List PV} {args : List Value} {i : Nat}, cellsS s s1 z bs l ps = some cs → RepL w S s pl ps args → q.length = cs.length →
    (∀ j c, (flats l)[j]? = some c → CellC c (gt cs j) (gt q j)) → (∀ c ∈ flats l, tellI c = true) → (∀ y ∈ imms s bs l ps, ∀ b' x', rng s pl y.1 (some y.2.1) b' x' → Sc .imm b' x') →
    ∃ m g, All5 (ArgF w Sc s pl m g) i bs l ps q args
  | [], [], [], cs, q, args, i, hf, hr, _, _, _, _ => by
    simp only [RepL] at hr
    subst hr
    exact ⟨fun _ => none, fun _ _ => .bool false, trivial⟩
  | b :: bs, x :: l, p :: ps, cs, q, args, i, hf, hr, hq, hc, ht, hi => by
    simp only [cellsS] at hf
    split at hf
    · rename_i cs1 h1
      cases hn : Nat.beq (plen cs1) (clen x.flat) with
      | false => rw [hn] at hf; simp at hf
      | true =>
        rw [hn, cond_true] at hf
        split at hf
        · rename_i cs2 h2
          obtain rfl := Option.some.inj hf
          simp only [Nat.beq_eq, plen_eq, clen_eq] at hn
          simp only [RepL] at hr
          obtain ⟨arg, args, rfl, r1, r2⟩ := hr
          rw [pcat_eq] at hq hc
          have hql : q.length = cs1.length + cs2.length := by simpa using hq
          obtain ⟨m, g, k⟩ := args_ok H (i := i + 1) (q := pdrop (clen x.flat) q) h2 r2 (by rw [pdrop_eq, List.length_drop, clen_eq]; omega) (fun j c hj => by
            have := hc (x.flat.length + j) c (by simp only [flats]; rw [List.getElem?_append_right (by omega)]; rw [show x.flat.length + j - x.flat.length = j by omega]; exact hj)
            rw [gt_append, if_neg (by omega), show x.flat.length + j - cs1.length = j by omega] at this
            rw [pdrop_eq, gt_drop, clen_eq]
            exact this) (fun c hc => ht c (by simp only [flats, List.mem_append]; exact .inr hc)) (fun y hy => hi y (by simp only [imms, List.mem_append]; exact .inr hy))
          obtain ⟨g1, g2⟩ := arg_ok H (i := i) (q := ptake (clen x.flat) q) r1 h1 (by rw [clen_eq]; exact hn) (fun j c hj => by
            have hj' : j < x.flat.length := (List.getElem?_eq_some_iff.1 hj).1
            have := hc j c (by simp only [flats]; rw [List.getElem?_append_left hj']; exact hj)
            rw [gt_append, if_pos (by omega)] at this
            rw [ptake_eq, gt_take, clen_eq, if_pos hj']
            exact this) (by rw [ptake_eq, List.length_take, clen_eq]; omega) (fun c hc => ht c (by simp only [flats, List.mem_append]; exact .inl hc)) (fun y hy => hi y (by simp only [imms, List.mem_append]; exact .inl hy))
          refine ⟨fun k => if k = i then argMem s pl b p else m k, fun k => if k = i then argHv w s pl b p (rootOf b (ptake (clen x.flat) q)) arg else g k, ⟨?_, ?_, ?_, ?_⟩, k.imp fun j b x p q a hj h => ⟨?_, ?_, ?_, ?_⟩⟩
          · simp only [if_true]; exact g1
          · simp only [if_true]
          · funext j; simp only [if_true]
          · simp only [if_true]; exact g2
          · rw [if_neg (by omega), if_neg (by omega)]; exact h.ok
          · rw [if_neg (by omega)]; exact h.m_eq
          · rw [if_neg (by omega)]; exact h.g_eq
          · rw [if_neg (by omega), if_neg (by omega)]; exact h.src
        · cases hf
    · cases hf
  | [], [], _ :: _, _, _, _, _, hf, _, _, _, _, _ => by simp [cellsS] at hf
  | [], _ :: _, _, _, _, _, _, hf, _, _, _, _, _ => by simp [cellsS] at hf
  | _ :: _, [], _, _, _, _, _, hf, _, _, _, _, _ => by simp [cellsS] at hf
  | _ :: _, _ :: _, [], _, _, _, _, hf, _, _, _, _, _ => by simp [cellsS] at hf
theorem All5.argsOK {m : Nat → Option (Nat × Nat)} {g : Nat → Nat → Value} : ∀ {bs : List Bool} {l : List SS} {ps q : List PV} {as : List Value} {i : Nat}, All5 (ArgF w Sc s pl m g) i bs l ps q as → ArgsOK w Sc m g i bs l q as
  | [], [], [], _, [], i, h => trivial
  | b :: bs, x :: l, p :: ps, q, a :: as, i, h => ⟨h.1.ok, h.2.argsOK⟩
  | [], [], [], _, _ :: _, _, h => h.elim
  | [], [], _ :: _, _, _, _, h => h.elim
  | [], _ :: _, _, _, _, _, h => h.elim
  | _ :: _, [], _, _, _, _, h => h.elim
  | _ :: _, _ :: _, [], _, _, _, h => h.elim
  | _ :: _, _ :: _, _ :: _, _, [], _, h => h.elim
theorem spots_mem : ∀ {bs : List Bool} {l : List SS} {ps : List PV} {j : Nat} {b : Bool} {x : SS} {p : PV}, bs[j]? = some b → l[j]? = some x → ps[j]? = some p → ∀ y ∈ spot1 s b x p, y ∈ spots s bs l ps
  | [], _, _, _, _, _, _, h, _, _, _, _ => by simp at h
  | _ :: _, [], _, _, _, _, _, _, h, _, _, _ => by simp at h
  | _ :: _, _ :: _, [], _, _, _, _, _, _, h, _, _ => by simp at h
  | b :: bs, x :: l, p :: ps, j, b', x', p', h1, h2, h3, y, hy => by
    simp only [spots, List.mem_append]
    cases j with
    | zero =>
      simp only [List.getElem?_cons_zero, Option.some.injEq] at h1 h2 h3
      subst h1 h2 h3
      exact .inl hy
    | succ j => exact .inr (spots_mem (by simpa using h1) (by simpa using h2) (by simpa using h3) y hy)
theorem spots_apart : ∀ {bs : List Bool} {l : List SS} {ps : List PV}, loose (spots s bs l ps) = true → ∀ {j j' : Nat} {b b' : Bool} {x x' : SS} {p p' : PV}, bs[j]? = some b → l[j]? = some x → ps[j]? = some p → bs[j']? = some b' → l[j']? = some x' → ps[j']? = some p' →
    ∀ {r c : Nat}, hits (r, c, 1) (spot1 s b x p) = true → hits (r, c, 1) (spot1 s b' x' p') = true → j = j' ∧ loose (spot1 s b x p) = true
  | [], _, _, _, _, _, _, _, _, _, _, _, h, _, _, _, _, _, _, _, _, _ => by simp at h
  | _ :: _, [], _, _, _, _, _, _, _, _, _, _, _, h, _, _, _, _, _, _, _, _ => by simp at h
  | _ :: _, _ :: _, [], _, _, _, _, _, _, _, _, _, _, _, h, _, _, _, _, _, _, _ => by simp at h
  | b :: bs, x :: l, p :: ps, hl, j, j', b1, b2, x1, x2, p1, p2, h1, h2, h3, h4, h5, h6, r, c, k1, k2 => by
    simp only [spots] at hl
    obtain ⟨l1, l2, l3⟩ := loose_append.1 hl
    have hup : ∀ {j : Nat} {b : Bool} {x : SS} {p : PV}, bs[j]? = some b → l[j]? = some x → ps[j]? = some p → hits (r, c, 1) (spot1 s b x p) = true → hits (r, c, 1) (spots s bs l ps) = true := fun {j b x p} g1 g2 g3 g4 => by
      obtain ⟨y, y1, y2⟩ := hits_iff.1 g4
      exact hits_iff.2 ⟨y, spots_mem g1 g2 g3 y y1, y2⟩
    cases j with
    | zero =>
      simp only [List.getElem?_cons_zero, Option.some.injEq] at h1 h2 h3
      subst h1 h2 h3
      cases j' with
      | zero => exact ⟨rfl, l1⟩
      | succ j' => exact (loose_cell l3 k1 (hup (by simpa using h4) (by simpa using h5) (by simpa using h6) k2)).elim
    | succ j =>
      cases j' with
      | zero =>
        simp only [List.getElem?_cons_zero, Option.some.injEq] at h4 h5 h6
        subst h4 h5 h6
        exact (loose_cell l3 k2 (hup (by simpa using h1) (by simpa using h2) (by simpa using h3) k1)).elim
      | succ j' =>
        obtain ⟨e1, e2⟩ := spots_apart l2 (by simpa using h1) (by simpa using h2) (by simpa using h3) (by simpa using h4) (by simpa using h5) (by simpa using h6) k1 k2
        exact ⟨by omega, e2⟩
end
end Go.Ab
namespace Go.Ab
open Go.RowKit
set_option linter.unusedVariables false
set_option linter.unusedSimpArgs false
section
variable {w w' : World} {S Sc : Fl → Cset} {pl : Pl} {s s1 : St} {a : Array Value} {z zi bx : List Spot}
theorem strikeL_gt (z : List Spot) (r : Nat) (l : List PV) : ∀ c j, gt (strikeL z r c l) j = if hits (r, c + j, 1) z = true then .any else gt l j := by
  induction l with
  | nil => intro c j; simp [strikeL, gt]
  | cons x l ih =>
    intro c j
    cases j with
    | zero => simp only [strikeL, gt, Nat.add_zero]; cases hits (r, c, 1) z <;> rfl
    | succ j =>
      simp only [strikeL, gt]
      rw [ih, show c + 1 + j = c + (j + 1) by omega]
theorem strikeL_len (z : List Spot) (r : Nat) (l : List PV) : ∀ c, (strikeL z r c l).length = l.length := by
  induction l with
  | nil => intro c; rfl
  | cons x l ih => intro c; simp [strikeL, ih]
theorem strikeR_gr (z : List Spot) (l : List (List PV)) : ∀ i r, gr (strikeR z i l) r = strikeL z (i + r) 0 (gr l r) := by
  induction l with
  | nil => intro i r; simp [strikeR, gr, strikeL]
  | cons x l ih =>
    intro i r
    cases r with
    | zero => rfl
    | succ r =>
      simp only [strikeR, gr]
      rw [ih, show i + 1 + r = i + (r + 1) by omega]
theorem strikeR_len (z : List Spot) (l : List (List PV)) : ∀ i, (strikeR z i l).length = l.length := by
  induction l with
  | nil => intro i; rfl
  | cons x l ih => intro i; simp [strikeR, ih]
theorem strike_gt (z bx : List Spot) (s : St) (r c : Nat) : gt (gr (strike z bx s).r r) c = if hits (r, c, 1) z = true then .any else scrV (fun r c => hits (r, c, 1) bx) (fun _ => false) (gt (gr s.r r) c) := by
  simp only [strike]
  rw [strikeR_gr, strikeL_gt, Nat.zero_add, Nat.zero_add]
  simp only [scr, gr_scrR, scrL_gt]
theorem strike_len (z bx : List Spot) (s : St) (r : Nat) : (gr (strike z bx s).r r).length = (gr s.r r).length := by
  simp only [strike]
  rw [strikeR_gr, strikeL_len]
  simp only [scr, gr_scrR, scrL_len]
theorem strike_row {r c : Nat} {o : Row} (h : rowAt (strike z bx s) r c = some o) : rowAt s r c = some o ∧ hits (r, c, 1) z = false := by
  unfold rowAt at h ⊢
  rw [strike_gt] at h
  cases hz : hits (r, c, 1) z with
  | true => rw [hz] at h; simp [rowOf] at h
  | false =>
    rw [hz] at h
    simp only [Bool.false_eq_true, if_false, rowOf_scr] at h
    exact ⟨h, rfl⟩
def given (s : St) (pl : Pl) (zi : List Spot) : Cset := fun b x => ∃ y ∈ zi, rng s pl y.1 (some y.2.1) b x
def callS (S : Fl → Cset) (s : St) (pl : Pl) (z zi : List Spot) : Fl → Cset
  | .imm => fun b x => S .imm b x ∨ given s pl zi b x
  | .bor => fun b x => S .bor b x ∨ given s pl zi b x ∨ ∃ r u, rng s pl r u b x ∧ ¬ tch pl z r u b x
  | f => S f
theorem call_HC (h : Rep w S pl s a) (zi : List Spot) : HC w S (callS S s pl z zi) pl s (strike z bx s) a z := by
  refine ⟨h, fun b x hx => .inl hx, fun b x hx => .inl hx, fun b x hx => ?_, fun r c o ho => ?_, fun r c b o hm hc hz => ?_, fun r c => ?_, fun r => strike_len z bx s r⟩
  · rcases hx with hx | hx
    · exact .inl (h.sub b x hx)
    · exact .inr (.inl hx)
  · obtain ⟨h1, h2⟩ := strike_row ho
    exact ⟨h1, fun b x hx => .inr (.inr ⟨r, some c, hx, by simp only [tch]; rw [h2]; simp⟩)⟩
  · refine .inr (.inr ⟨r, none, ⟨o, hm, by omega, by omega⟩, ?_⟩)
    rintro ⟨o', h1, h2, h3⟩
    rw [hm] at h1
    obtain ⟨_, rfl⟩ := Prod.mk.inj (Option.some.inj h1)
    rw [show o + c - o = c by omega, hz] at h3
    cases h3
  · rw [strike_gt]
    split
    · exact .inl rfl
    · exact .inr (Thin.scr _ _ _)
theorem tch_mono {z z' : List Spot} (h : ∀ r c, hits (r, c, 1) z = true → hits (r, c, 1) z' = true) {r : Nat} {u : Option Nat} {b x : Nat} (ht : tch pl z r u b x) : tch pl z' r u b x := by
  cases u with
  | none =>
    obtain ⟨o, h1, h2, h3⟩ := ht
    exact ⟨o, h1, h2, h _ _ h3⟩
  | some c => exact h _ _ ht
theorem tch_both {z z' : List Spot} {r : Nat} {u : Option Nat} {b x : Nat} (h : tch pl z r u b x) (h' : tch pl z' r u b x) : ∃ c, hits (r, c, 1) z = true ∧ hits (r, c, 1) z' = true := by
  cases u with
  | none =>
    obtain ⟨o, h1, h2, h3⟩ := h
    obtain ⟨o', h1', h2', h3'⟩ := h'
    rw [h1] at h1'
    obtain ⟨_, rfl⟩ := Prod.mk.inj (Option.some.inj h1')
    exact ⟨_, h3, h3'⟩
  | some c => exact ⟨c, h, h'⟩
theorem srcOf_inj {b : Bool} {x : SS} {p : PV} {u u' : Option Nat} {r : Nat} {us : Option Nat} (h : srcOf b p u = some (r, us)) (h' : srcOf b p u' = some (r, us)) (k : uniq s b x p u r us) (k' : uniq s b x p u' r us) (hx : ∀ l, b = false → p = .agg l → ∃ fl, x = .agg fl) (hl : loose (spot1 s b x p) = true) : u = u' := by
  cases b with
  | true =>
    cases p with
    | ptr r c =>
      cases u <;> cases u' <;> simp [srcOf] at h h'
      · rfl
      · rw [← h.2] at h'; simp at h'
      · rw [← h'.2] at h; simp at h
      · rw [← h'.2] at h
        obtain ⟨_, h⟩ := h
        simp at h
        rw [h]
    | eptr r c i d => cases u <;> cases u' <;> simp [srcOf] at h h'; rfl
    | _ => simp [srcOf] at h
  | false =>
    cases p with
    | view r c =>
      cases u with
      | none => simp [srcOf] at h
      | some j => cases u' with
        | none => simp [srcOf] at h'
        | some j' => cases j <;> cases j' <;> simp [srcOf] at h h'; rfl
    | agg l =>
      obtain ⟨fl, rfl⟩ := hx l rfl rfl
      cases u with
      | none => simp [srcOf] at h
      | some j => cases u' with
        | none => simp [srcOf] at h'
        | some j' =>
          have hus : ∃ c, us = some c := by
            simp only [srcOf] at h
            split at h
            · simp only [Option.some.injEq, Prod.mk.injEq] at h; exact ⟨_, h.2.symm⟩
            · cases h
          obtain ⟨c, rfl⟩ := hus
          obtain ⟨c1, q1, q2⟩ := k
          obtain ⟨c2, q3, q4⟩ := k'
          rw [spotL_inj hl q1 q2 q3 q4]
    | _ => simp [srcOf] at h
theorem immC_one {c : CS} {p : PV} : ∀ y ∈ immC s c p, y.2.2 = 1 := by
  intro y hy
  unfold immC at hy
  split at hy
  · split at hy
    · simp only [List.mem_singleton] at hy; subst hy; rfl
    · simp at hy
  · simp at hy
theorem immL_one : ∀ {cs : List CS} {l : List PV}, ∀ y ∈ immL s cs l, y.2.2 = 1
  | [], _, y, hy => by simp [immL] at hy
  | _ :: _, [], y, hy => by simp [immL] at hy
  | c :: cs, p :: l, y, hy => by
    simp only [immL, List.mem_append] at hy
    rcases hy with hy | hy
    · exact immC_one y hy
    · exact immL_one y hy
theorem imms_one : ∀ {bs : List Bool} {l : List SS} {ps : List PV}, ∀ y ∈ imms s bs l ps, y.2.2 = 1
  | [], _, _, y, hy => by simp [imms] at hy
  | _ :: _, [], _, y, hy => by simp [imms] at hy
  | _ :: _, _ :: _, [], y, hy => by simp [imms] at hy
  | b :: bs, x :: l, p :: ps, y, hy => by
    simp only [imms, List.mem_append] at hy
    rcases hy with hy | hy
    · unfold imm1 at hy
      split at hy
      · exact immC_one y hy
      · exact immL_one y hy
      · simp at hy
    · exact imms_one y hy
theorem hands_ok (h : Rep w S pl s a) {ptrs : List Bool} {ins : List SS} {ps cs : List PV} {args : List Value} {v : (tyL (flats ins)).val} (hh : hands s ptrs ins ps = some (cs, s1)) (hv : decL (flats ins) cs = some v) (ht : tells tellI (flats ins) = true)
    (hr : RepL w S s pl ps args) : ∃ m g, s1 = strike (spots s ptrs ins ps ++ imms s ptrs ins ps) (boxes ptrs ins ps) s ∧ loose (spots s ptrs ins ps ++ imms s ptrs ins ps) = true ∧
      All5 (ArgF w (callS S s pl (spots s ptrs ins ps ++ imms s ptrs ins ps) (imms s ptrs ins ps)) s pl m g) 0 ptrs ins ps (encL _ v) args ∧
      (∀ n, ∀ i u b x, rng (start ptrs ins n v) ⟨m, g⟩ i u b x → ∃ B X p, ptrs[i]? = some B ∧ ins[i]? = some X ∧ ps[i]? = some p ∧ ∃ r us, srcOf B p u = some (r, us) ∧ rng s pl r us b x ∧ tch pl (spot1 s B X p) r us b x ∧ uniq s B X p u r us) ∧
      ∀ n, ins.length ≤ n → Rep w (callS S s pl (spots s ptrs ins ps ++ imms s ptrs ins ps) (imms s ptrs ins ps)) ⟨m, g⟩ (start ptrs ins n v) (args.toArray ++ Array.replicate (n - args.toArray.size) undef) := by
  unfold hands at hh
  simp only at hh
  generalize hz : spots s ptrs ins ps ++ imms s ptrs ins ps = z at hh ⊢
  cases hl : loose z with
  | false => rw [hl] at hh; simp at hh
  | true =>
    rw [hl, cond_true] at hh
    split at hh
    · rename_i r0 hcs
      simp only [Option.some.injEq, Prod.mk.injEq] at hh
      obtain ⟨rfl, rfl⟩ := hh
      obtain ⟨d1, d2, d3⟩ := decL_cells _ _ _ hv
      have H := call_HC (z := z) (bx := boxes ptrs ins ps) h (imms s ptrs ins ps)
      obtain ⟨m, g, k⟩ := args_ok H (i := 0) hcs hr (q := encL _ v) (by rw [d2, d1]) d3 (tells_mem ht) (fun y hy b' x' hx => .inr ⟨y, hy, hx⟩)
      obtain ⟨k1, k2, k3, k4⟩ := k.get
      have hl' := hl
      rw [← hz] at hl'
      obtain ⟨l1, l2, l3⟩ := loose_append.1 hl'
      have hsrc : ∀ n, ∀ i u b x, rng (start ptrs ins n v) ⟨m, g⟩ i u b x → ∃ B X p, ptrs[i]? = some B ∧ ins[i]? = some X ∧ ps[i]? = some p ∧ (∀ l, B = false → p = .agg l → ∀ r us, uniq s B X p u r us → tch pl (spot1 s B X p) r us b x → ∃ fl, X = .agg fl) ∧ ∃ r us, srcOf B p u = some (r, us) ∧ rng s pl r us b x ∧ tch pl (spot1 s B X p) r us b x ∧ uniq s B X p u r us := fun n i u b x hx => by
        have hi : i < ins.length := by
          rcases Nat.lt_or_ge i ins.length with hi | hi
          · exact hi
          · exfalso
            rcases start_slot (n := n) k.argsOK i with ⟨hi', _⟩ | ⟨_, _, e⟩
            · omega
            · cases u with
              | none => obtain ⟨o, _, h2, h3⟩ := hx; rw [e] at h3; simp at h3; omega
              | some j => obtain ⟨o, h1, _⟩ := hx; unfold rowAt at h1; rw [e] at h1; simp [gt, rowOf] at h1
        obtain ⟨B, X, p, arg, g1, g2, g3, g4, q0, g5, g6, g7⟩ := k4 i hi
        rw [Nat.zero_add] at g7
        have hgr : gr (start ptrs ins n v).r i = rootOf B q0 := by
          obtain ⟨e1, e2, _⟩ := args_get k.argsOK
          rw [start_eq]
          show gr _ i = _
          rw [gr_append, if_pos (by omega)]
          exact g5
        refine ⟨B, X, p, g1, g2, g3, fun l eb ep r us _ ht => ?_, g7.src u b x ?_⟩
        · subst eb ep
          cases X with
          | agg fl => exact ⟨fl, rfl⟩
          | cell c =>
            exfalso
            have hsp : spot1 s false (.cell c) (.agg l) = [] := by
              simp only [spot1]
              cases c with
              | val f t => cases f <;> rfl
              | _ => rfl
            rw [hsp] at ht
            cases us with
            | none => obtain ⟨_, _, _, e⟩ := ht; simp [hits] at e
            | some c => simp [tch, hits] at ht
          | _ =>
            exfalso
            cases us with
            | none => obtain ⟨_, _, _, e⟩ := ht; simp [spot1, hits] at e
            | some c => simp [tch, spot1, hits] at ht
        · cases u with
          | none =>
            obtain ⟨o, h1, h2, h3⟩ := hx
            rw [hgr] at h3
            exact ⟨o, h1, h2, h3⟩
          | some j =>
            obtain ⟨o, h1, h2⟩ := hx
            unfold rowAt at h1
            rw [hgr] at h1
            exact ⟨o, h1, h2⟩
      have hown : ∀ n b x, owned (start ptrs ins n v) ⟨m, g⟩ b x → ∃ r us, rng s pl r us b x ∧ tch pl (spots s ptrs ins ps) r us b x := fun n b x ⟨i, u, hx⟩ => by
        obtain ⟨B, X, p, e1, e2, e3, _, r, us, e4, e5, e6, _⟩ := hsrc n i u b x hx
        refine ⟨r, us, e5, tch_mono (fun r c hh => ?_) e6⟩
        obtain ⟨y, y1, y2⟩ := hits_iff.1 hh
        exact hits_iff.2 ⟨y, spots_mem e1 e2 e3 y y1, y2⟩
      refine ⟨m, g, rfl, rfl, k, fun n i u b x hx => ?_, fun n hn => ?_⟩
      · obtain ⟨B, X, p, e1, e2, e3, _, r⟩ := hsrc n i u b x hx
        exact ⟨B, X, p, e1, e2, e3, r⟩
      · refine start_rep k.argsOK hn (fun r j r' j' b x h1 h2 => ?_) (fun b x hb ho => ?_) H.hs (fun b x hb => ?_) (h.stat.mono H.hi)
        · obtain ⟨B, X, p, e1, e2, e3, e9, r1, us, e4, e5, e6, e7⟩ := hsrc n r j b x h1
          obtain ⟨B', X', p', f1, f2, f3, f9, r1', us', f4, f5, f6, f7⟩ := hsrc n r' j' b x h2
          obtain ⟨rfl, rfl⟩ := h.disj _ _ _ _ _ _ e5 f5
          obtain ⟨c, c1, c2⟩ := tch_both e6 f6
          obtain ⟨rfl, hlo⟩ := spots_apart l1 e1 e2 e3 f1 f2 f3 c1 c2
          rw [e1] at f1; obtain rfl := Option.some.inj f1
          rw [e2] at f2; obtain rfl := Option.some.inj f2
          rw [e3] at f3; obtain rfl := Option.some.inj f3
          exact ⟨rfl, srcOf_inj e4 f4 e7 f7 (fun l eb ep => e9 l eb ep _ _ e7 e6) hlo⟩
        · obtain ⟨r, us, e5, e6⟩ := hown n b x ho
          rcases hb with hb | ⟨y, hy, hb⟩ | ⟨r1, u1, hb1, hb2⟩
          · exact h.apart b x hb ⟨r, us, e5⟩
          · obtain ⟨rfl, rfl⟩ := h.disj _ _ _ _ _ _ e5 hb
            refine loose_cell l3 (r := y.1) (c := y.2.1) e6 (hits_iff.2 ⟨y, hy, ?_⟩)
            have hy1 : y.2.2 = 1 := imms_one y hy
            rw [meets_iff]
            exact ⟨rfl, by simp only [hy1]; omega, by simp only; omega⟩
          · obtain ⟨rfl, rfl⟩ := h.disj _ _ _ _ _ _ e5 hb1
            refine hb2 (tch_mono (fun r c hh => ?_) e6)
            rw [← hz, hits_append, hh]; rfl
        · rcases hb with hb | ⟨y, hy, hb⟩ | ⟨r1, u1, hb1, hb2⟩
          · exact h.live b x hb
          · exact h.rng_lt hb
          · exact h.rng_lt hb1
    · cases hh
end
end Go.Ab

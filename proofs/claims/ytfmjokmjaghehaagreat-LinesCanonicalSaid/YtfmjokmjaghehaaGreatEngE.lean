/- The engine, part 35: what a statement's reader reads is plain data of the engine's. -/
import Derived.Test.YtfmjokmjaghehaaGreatEngD
import Derived.OpenShut
set_option linter.unusedVariables false
set_option linter.unusedSimpArgs false
namespace Go.Eng
open Go.RowKit Go.ChangeShapes

/-- the type t, or the fields that are left (with the place and the whole's size), are read as the engine's type -/
def shp (P : Program) : Ty → (TypeId ⊕ (List Field × Nat × Nat)) → Bool
  | .int k, .inl t => match P.underlying t with
    | some (.int k') => decide (k' = k)
    | _ => false
  | .bool, .inl t => match P.underlying t with
    | some .bool => true
    | _ => false
  | .pair a b, .inl t => match P.underlying t with
    | some (.struct fs) => match fs.toList with
      | f :: r => decide (f.offset = 0) && shp P a (.inl f.type) && shp P b (.inr (r, P.cellsOf f.type, P.cellsOf t))
      | [] => false
    | _ => false
  | .pair a b, .inr (f :: r, off, tot) => decide (f.offset = off) && shp P a (.inl f.type) && shp P b (.inr (r, off + P.cellsOf f.type, tot))
  | .unit, .inr ([], off, tot) => decide (off = tot)
  | .arr n e', .inl t => match P.underlying t with
    | some (.array m e) => decide (m = n) && decide (P.cellsOf t = n * P.cellsOf e) && shp P e' (.inl e)
    | _ => false
  | .slice e', .inl t => match P.underlying t with
    | some (.slice e) => decide (0 < P.cellsOf e) && shp P e' (.inl e)
    | _ => false
  | _, _ => false

/-- the numbers in their ranges -/
def wfT : (T : Ty) → T.den → Prop
  | .int k, x => (Lit.int k x).wf = true
  | .bool, _ => True
  | .str, _ => True
  | .unit, _ => True
  | .pair a b, x => wfT a x.1 ∧ wfT b x.2
  | .arr n e, l => List.length l = n ∧ ∀ x ∈ (l : List e.den), wfT e x
  | .slice e, l => List.length l ≤ maxLen ∧ ∀ x ∈ (l : List e.den), wfT e x

section
variable {H : Type} {enc : TypeId × Value → H} {P : Program} {w : World} {base : Nat} {spare : Nat → Bool} {held : Bool}

theorem mapM_range_get {α : Type} {f : Nat → Option α} {n : Nat} {xs : List α} (h : (List.range n).mapM f = some xs) : xs.length = n ∧ ∀ i, i < n → f i = xs[i]? := by
  refine ⟨by simpa using mapM_some_length h, fun i hi => mapM_some_get h i i (by simp [hi])⟩

theorem add_add (a : Addr) (m n : Nat) : (a.add m).add n = a.add (m + n) := by
  unfold Addr.add
  by_cases h1 : m = 0 <;> by_cases h2 : n = 0 <;> simp_all [Nat.add_assoc]

theorem cells_get {a : Addr} {n : Nat} {xs : List Value} (h : w.cells? base a n = some xs) : xs.length = n ∧ ∀ i, i < n → w.cell? (a.add i) = xs[i]? := by
  unfold World.cells? at h
  split at h
  · exact mapM_range_get h
  · cases h

/-- elements that lie in memory one behind the other -/
theorem rows_of {α : Type} {Q : α → List Value → Prop} {R : α → Prop} {a : Addr} {c : Nat} : ∀ (n : Nat),
    (∀ i, i < n → ∃ chunk y, w.cells? base (a.add (i * c)) c = some chunk ∧ Q y chunk ∧ R y) →
    ∃ (ys : List α) (cs : List Value), ys.length = n ∧ FlatL Q ys cs ∧ cs.length = n * c ∧ (∀ j, j < n * c → w.cell? (a.add j) = cs[j]?) ∧ ∀ y ∈ ys, R y := by
  intro n
  induction n with
  | zero => intro _; exact ⟨[], [], rfl, rfl, by simp, fun j hj => by simp at hj, fun y hy => by simp at hy⟩
  | succ n ih =>
    intro h
    obtain ⟨ys, cs, h1, h2, h3, h4, h5⟩ := ih fun i hi => h i (by omega)
    obtain ⟨chunk, y, g1, g2, g3⟩ := h n (by omega)
    obtain ⟨k1, k2⟩ := cells_get g1
    refine ⟨ys ++ [y], cs ++ chunk, by simp [h1], FlatL.append h2 (FlatL.single g2), by simp [h3, k1, Nat.add_mul], ?_, ?_⟩
    · intro j hj
      by_cases hjn : j < n * c
      · rw [List.getElem?_append_left (by omega)]
        exact h4 j hjn
      · rw [List.getElem?_append_right (by omega), h3, ← k2 (j - n * c) (by rw [Nat.add_mul] at hj; omega), add_add]
        congr 2
        omega
    · intro z hz
      rcases List.mem_append.1 hz with hz | hz
      · exact h5 z hz
      · simp at hz; subst hz; exact g3

/-- pieces of a list of cells -/
theorem chunks_of {α : Type} {Q : α → List Value → Prop} {R : α → Prop} {c : Nat} : ∀ (n : Nat) (cs : List Value), cs.length = n * c →
    (∀ i, i < n → ∃ y, Q y ((cs.drop (i * c)).take c) ∧ R y) → ∃ ys : List α, ys.length = n ∧ FlatL Q ys cs ∧ ∀ y ∈ ys, R y := by
  intro n
  induction n with
  | zero =>
    intro cs hl _
    have : cs = [] := by simpa using hl
    subst this
    exact ⟨[], rfl, rfl, fun y hy => by simp at hy⟩
  | succ n ih =>
    intro cs hl h
    obtain ⟨y, g1, g2⟩ := h 0 (by omega)
    rw [Nat.zero_mul, List.drop_zero] at g1
    obtain ⟨ys, h1, h2, h3⟩ := ih (cs.drop c) (by rw [List.length_drop, hl, Nat.add_mul]; omega) fun i hi => by
      obtain ⟨y, k1, k2⟩ := h (i + 1) (by omega)
      refine ⟨y, ?_, k2⟩
      rw [List.drop_drop]
      rw [show c + i * c = (i + 1) * c by rw [Nat.add_mul]; omega]
      exact k1
    refine ⟨y :: ys, by simp [h1], ⟨cs.take c, cs.drop c, by simp, g1, h2⟩, ?_⟩
    intro z hz
    rcases List.mem_cons.1 hz with hz | hz
    · subst hz; exact g2
    · exact h3 z hz

/-- cells in memory, as the engine wants them -/
theorem mem_of {α : Type} {Q : α → List Value → Prop} {a : Addr} {ys : List α} {cs : List Value} {cap : Nat} (hne : ys ≠ []) (hc : 0 < cs.length) (hf : FlatL Q ys cs) (hcell : ∀ j, j < cs.length → w.cell? (a.add j) = cs[j]?) :
    ∃ b off cur e fz, some a = some ⟨b, off, none⟩ ∧ heapM w b = some (.cells cur e fz) ∧ ∃ cs, FlatL Q ys cs ∧ (cur.toList.drop off).take cs.length = cs := by
  have h0 := hcell 0 hc
  rw [List.getElem?_eq_getElem hc] at h0
  simp only [Addr.add, if_true] at h0
  obtain ⟨hs, cur, e, fz, hb, _⟩ := cell?_some h0
  refine ⟨a.block, a.off, cur, e, fz, by cases a; simp_all, hb, cs, hf, ?_⟩
  apply List.ext_getElem?
  intro i
  rw [List.getElem?_take]
  split
  · rename_i hi
    have hci := hcell i hi
    rw [List.getElem?_eq_getElem hi] at hci
    have hoff : (a.add i).off = a.off + i := by unfold Addr.add; split <;> simp_all
    have hblk : (a.add i).block = a.block := by unfold Addr.add; split <;> rfl
    obtain ⟨_, cur2, e2, fz2, hb2, hc2⟩ := cell?_some hci
    rw [hblk, hb] at hb2
    cases hb2
    rw [hoff] at hc2
    rw [List.getElem?_drop, Array.getElem?_toList, hc2, List.getElem?_eq_getElem hi]
  · rename_i hi
    exact (List.getElem?_eq_none (by omega)).symm

theorem open_both : ∀ (T : Ty), (∀ (t : TypeId) (fuel : Nat) (cs : List Value) (x : DataW H × List MemPlace), shp P T (.inl t) = true → DataW.trod enc P w base spare held fuel t cs = some x → ∃ y : T.den, Flat (heapM w) T y cs ∧ wfT T y) ∧
    (∀ (fs : List Field) (off tot : Nat) (cs : List Value), shp P T (.inr (fs, off, tot)) = true → cs.length = tot →
      (∀ f ∈ fs, ∃ n x, DataW.trod enc P w base spare held n f.type ((cs.drop f.offset).take (P.cellsOf f.type)) = some x) → ∃ y : T.den, Flat (heapM w) T y (cs.drop off) ∧ wfT T y) := by
  intro T
  induction T with
  | int k =>
    refine ⟨fun t fuel cs x hs h => ?_, fun fs off tot cs hs => by simp [shp] at hs⟩
    simp only [shp] at hs
    split at hs
    · rename_i k' ht
      have hk : k' = k := by simpa using hs
      subst hk
      obtain ⟨n, rfl, _, hw⟩ := DataW.trod_int ht h
      exact ⟨n, rfl, hw⟩
    · cases hs
  | bool =>
    refine ⟨fun t fuel cs x hs h => ?_, fun fs off tot cs hs => by simp [shp] at hs⟩
    simp only [shp] at hs
    split at hs
    · rename_i ht
      obtain ⟨b, rfl, _⟩ := DataW.trod_bool ht h
      exact ⟨b, rfl, trivial⟩
    · cases hs
  | str => exact ⟨fun t fuel cs x hs h => by simp [shp] at hs, fun fs off tot cs hs => by simp [shp] at hs⟩
  | unit =>
    refine ⟨fun t fuel cs x hs h => by simp [shp] at hs, fun fs off tot cs hs hl hf => ?_⟩
    cases fs with
    | nil =>
      have : off = tot := by simpa [shp] using hs
      exact ⟨(), by show cs.drop off = []; simp; omega, trivial⟩
    | cons f r => simp [shp] at hs
  | pair a b iha ihb =>
    have step : ∀ (f : Field) (r : List Field) (off tot : Nat) (cs : List Value), f.offset = off → shp P a (.inl f.type) = true → shp P b (.inr (r, off + P.cellsOf f.type, tot)) = true → cs.length = tot →
        (∀ g ∈ f :: r, ∃ n x, DataW.trod enc P w base spare held n g.type ((cs.drop g.offset).take (P.cellsOf g.type)) = some x) → ∃ y : (Ty.pair a b).den, Flat (heapM w) (.pair a b) y (cs.drop off) ∧ wfT (.pair a b) y := by
      intro f r off tot cs ho h1 h2 hl hf
      obtain ⟨n, x, hx⟩ := hf f (by simp)
      obtain ⟨y1, k1, k2⟩ := iha.1 _ _ _ _ h1 hx
      obtain ⟨y2, k3, k4⟩ := ihb.2 r _ tot cs h2 hl fun g hg => hf g (by simp [hg])
      refine ⟨(y1, y2), ⟨_, _, ?_, k1, k3⟩, k2, k4⟩
      rw [ho, ← List.drop_drop, List.take_append_drop]
    refine ⟨fun t fuel cs x hs h => ?_, fun fs off tot cs hs hl hf => ?_⟩
    · simp only [shp] at hs
      split at hs
      · rename_i fs ht
        obtain ⟨xs, n, _, _, hl, hxl, hfx⟩ := DataW.trod_struct ht h
        cases hfs : fs.toList with
        | nil => rw [hfs] at hs; cases hs
        | cons f r =>
          rw [hfs] at hs
          simp only [Bool.and_eq_true, decide_eq_true_eq] at hs
          obtain ⟨⟨h0, h1⟩, h2⟩ := hs
          have := step f r 0 (P.cellsOf t) cs h0 h1 (by rw [Nat.zero_add]; exact h2) hl fun g hg => by
            rw [← hfs] at hg
            obtain ⟨i, hi, hgi⟩ := List.getElem_of_mem hg
            have hi' : i < fs.size := by simpa using hi
            have hgf : fs[i]? = some g := by rw [Array.getElem?_eq_getElem hi']; simpa using hgi
            have := hfx i g hgf
            rw [List.getElem?_eq_getElem (by omega)] at this
            exact ⟨n, _, this⟩
          simpa using this
      · cases hs
    · cases fs with
      | nil => simp [shp] at hs
      | cons f r =>
        simp only [shp, Bool.and_eq_true, decide_eq_true_eq] at hs
        exact step f r off tot cs hs.1.1 hs.1.2 hs.2 hl hf
  | arr n e' ih =>
    refine ⟨fun t fuel cs x hs h => ?_, fun fs off tot cs hs => by cases fs <;> simp [shp] at hs⟩
    simp only [shp] at hs
    split at hs
    · rename_i m e ht
      simp only [Bool.and_eq_true, decide_eq_true_eq] at hs
      obtain ⟨⟨rfl, hsz⟩, hsh⟩ := hs
      obtain ⟨xs, q, _, _, hl, hxl, hfx⟩ := DataW.trod_array ht h
      obtain ⟨ys, h1, h2, h3⟩ := chunks_of (Q := Flat (heapM w) e') (R := wfT e') (c := P.cellsOf e) m cs (by rw [hl, hsz]) fun i hi => by
        have := hfx i hi
        rw [List.getElem?_eq_getElem (by omega)] at this
        exact ih.1 _ _ _ _ hsh this
      exact ⟨ys, ⟨h1, h2⟩, h1, h3⟩
    · cases hs
  | slice e' ih =>
    refine ⟨fun t fuel cs x hs h => ?_, fun fs off tot cs hs => by cases fs <;> simp [shp] at hs⟩
    simp only [shp] at hs
    split at hs
    · rename_i e ht
      simp only [Bool.and_eq_true, decide_eq_true_eq] at hs
      obtain ⟨hpos, hsh⟩ := hs
      rcases DataW.trod_slice ht h with ⟨rfl, _⟩ | ⟨a, len, cap, elems, rest, q, _, rfl, _, hb, hl, hm, hlen, hel, _, _⟩
      · exact ⟨[], ⟨_, rfl, none, 0, rfl, by simp, fun _ => rfl, fun h => absurd rfl h⟩, by simp, fun y hy => by simp at hy⟩
      · obtain ⟨ys, cs', h1, h2, h3, h4, h5⟩ := rows_of (w := w) (base := base) (Q := Flat (heapM w) e') (R := wfT e') (a := a) (c := P.cellsOf e) len fun i hi => by
          have := hel i hi
          rw [List.getElem?_eq_getElem (by omega)] at this
          obtain ⟨chunk, hc, ht⟩ := Option.bind_eq_some_iff.1 this
          obtain ⟨y, k1, k2⟩ := ih.1 _ _ _ _ hsh ht
          exact ⟨chunk, y, hc, k1, k2⟩
        refine ⟨ys, ⟨_, rfl, some a, cap, by rw [h1], by omega, (fun h => by cases h), fun hne => ?_⟩, by omega, h5⟩
        have hlp : 0 < ys.length := List.length_pos_iff.2 hne
        have hcp : 0 < cs'.length := by rw [h3]; exact Nat.mul_pos (by omega) hpos
        exact mem_of (cap := cap) hne hcp h2 (fun j hj => h4 j (by omega))
    · cases hs

/-- An argument that is read is plain data. -/
theorem open_any {T : Ty} {t : TypeId} {v : Value} {d : DataW H} {ps : List MemPlace} (hs : shp P T (.inl t) = true) (h : DataW.Trod enc P w base spare held t v d ps) : ∃ y : T.den, Flat (heapM w) T y v.cells.toList ∧ wfT T y := by
  obtain ⟨fuel, hf⟩ := h
  exact (open_both T).1 t fuel _ _ hs hf

theorem okWide_agg {t : TypeId} {v : Value} {r : Reach} {b0 : Nat} {T : Ty} (hs : shp P T (.inl t) = true) (hv : Value.okWide P w r b0 t v) : (∃ cs : Array Value, v = .agg cs ∧ T.isAgg = true) ∨ (v.cells = #[v] ∧ T.isAgg = false) := by
  cases T with
  | int k =>
    simp only [shp] at hs
    split at hs
    · rename_i k' ht
      obtain ⟨n, rfl⟩ := WideShapes.okWide_int ht hv
      exact .inr ⟨rfl, rfl⟩
    · cases hs
  | bool =>
    simp only [shp] at hs
    split at hs
    · rename_i ht
      obtain ⟨b, rfl⟩ := WideShapes.okWide_bool ht hv
      exact .inr ⟨rfl, rfl⟩
    · cases hs
  | str => simp [shp] at hs
  | unit => simp [shp] at hs
  | pair a b =>
    simp only [shp] at hs
    split at hs
    · rename_i fs ht
      simp only [Value.okWide, ht] at hv
      obtain ⟨cs, rfl, _⟩ := hv
      exact .inl ⟨cs, rfl, rfl⟩
    · cases hs
  | arr n e =>
    simp only [shp] at hs
    split at hs
    · rename_i m e ht
      simp only [Value.okWide, ht] at hv
      obtain ⟨cs, rfl, _⟩ := hv
      exact .inl ⟨cs, rfl, rfl⟩
    · cases hs
  | slice e =>
    simp only [shp] at hs
    split at hs
    · rename_i e ht
      obtain ⟨a, l, c, rfl⟩ := WideShapes.okWide_slice ht hv
      exact .inr ⟨rfl, rfl⟩
    · cases hs

theorem plain_of {t : TypeId} {v : Value} {r : Reach} {b0 : Nat} {T : Ty} {M : Mem} {y : T.den} (hs : shp P T (.inl t) = true) (hv : Value.okWide P w r b0 t v) (hf : Flat M T y v.cells.toList) : Plain M v (.d T y) := by
  refine ⟨_, hf, ?_⟩
  rcases okWide_agg hs hv with ⟨cs, rfl, ha⟩ | ⟨hc, ha⟩
  · simp [mkVal, ha, Value.cells]
  · simp [mkVal, ha, hc]

/-- An argument that is read is plain data. -/
theorem open_arg {T : Ty} {t : TypeId} {v : Value} {d : DataW H} {ps : List MemPlace} {r : Reach} {b0 : Nat} (hs : shp P T (.inl t) = true) (hv : Value.okWide P w r b0 t v) (h : DataW.Trod enc P w base spare held t v d ps) :
    ∃ y : T.den, Plain (heapM w) v (.d T y) ∧ wfT T y := by
  obtain ⟨y, h1, h2⟩ := open_any hs h
  exact ⟨y, plain_of hs hv h1, h2⟩

/-- A slice that is read: as many elements as its reading has. -/
theorem open_slice {T : Ty} {t : TypeId} {v : Value} {d : DataW H} {ps : List MemPlace} {r : Reach} {b0 : Nat} (hs : shp P (.slice T) (.inl t) = true) (hv : Value.okWide P w r b0 t v) (h : DataW.Trod enc P w base spare held t v d ps) :
    ∃ y : (Ty.slice T).den, Plain (heapM w) v (.d (.slice T) y) ∧ wfT (.slice T) y ∧ (List.length y = 0 ∨ ∃ el sp, d = .slice el sp ∧ el.length = List.length y) := by
  obtain ⟨y, h1, h2⟩ := open_any hs h
  refine ⟨y, plain_of hs hv h1, h2, ?_⟩
  obtain ⟨fuel, hf⟩ := h
  simp only [shp] at hs
  split at hs
  · rename_i e ht
    obtain ⟨u, hu, ao, cap, rfl, _⟩ := h1
    rcases DataW.trod_slice ht hf with ⟨hc, _⟩ | ⟨a, len, cap', elems, rest, q, _, hc, hx, _, _, _, hlen, _⟩
    · rw [hc] at hu
      simp at hu
      exact .inl hu.2.1.symm
    · rw [hc] at hu
      simp at hu
      refine .inr ⟨_, _, (Prod.mk.inj hx).1, ?_⟩
      simp [hlen, hu.2.1]
  · cases hs

end
end Go.Eng

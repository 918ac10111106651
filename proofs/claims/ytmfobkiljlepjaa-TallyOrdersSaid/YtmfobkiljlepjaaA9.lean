/- AM, part 9: what makes memory: alloc, box, build, literals, make. -/
import Derived.Test.YtmfobkiljlepjaaA8
set_option linter.unusedVariables false
set_option linter.unusedSimpArgs false
namespace Go.AM
open Go Go.RowKit

def setAll {α : Type} (cells : List α) (off : Nat) : List α → List α
  | [] => cells
  | c :: cs => setAll (cells.set off c) (off + 1) cs

theorem setAll_len {α : Type} : ∀ (cs : List α) (cells : List α) (off : Nat), (setAll cells off cs).length = cells.length
  | [], _, _ => rfl
  | c :: cs, cells, off => by simp [setAll, setAll_len cs]

theorem foldl_setAll {α : Type} : ∀ (l : List α) (k off : Nat) (cells : Array α),
    ((l.zipIdx k).foldl (fun (cs : Array α) (p : α × Nat) => cs.setIfInBounds (off + p.2) p.1) cells).toList = setAll cells.toList (off + k) l
  | [], k, off, cells => rfl
  | c :: l, k, off, cells => by
    simp only [List.zipIdx_cons, List.foldl_cons, setAll]
    rw [foldl_setAll l (k + 1) off]
    simp [Array.toList_setIfInBounds, Nat.add_assoc]

theorem fill_setAll (cs cells : Array Value) (off : Nat) : (cs.zipIdx.foldl (fun cs (c, j) => cs.setIfInBounds (off + j) c) cells).toList = setAll cells.toList off cs.toList := by
  have h : cs.zipIdx.foldl (fun cs (c, j) => cs.setIfInBounds (off + j) c) cells = (cs.toList.zipIdx 0).foldl (fun (cs : Array Value) (p : Value × Nat) => cs.setIfInBounds (off + p.2) p.1) cells := by
    rw [← Array.foldl_toList]
    simp
  rw [h, foldl_setAll]
  rfl

def fillA {α : Type} (place : Nat → Option (Nat × Nat)) (cells : List α) : List (Nat × List α) → Option (List α)
  | [] => some cells
  | (i, cs) :: rest => match place i with
    | none => none
    | some (off, size) => if cs.length = size ∧ off + cs.length ≤ cells.length then fillA place (setAll cells off cs) rest else none

theorem VL.set {C : Cx} : ∀ {as : List AV} {vs : List Value} {i : Nat} {x : AV} {y : Value}, AV.VL C as vs → x.VR C y → AV.VL C (as.set i x) (vs.set i y)
  | [], vs, i, x, y, h, hx => by unfold AV.VL at h; subst h; simp [AV.VL]
  | a :: as, vs, i, x, y, h, hx => by
    unfold AV.VL at h
    obtain ⟨z, rest, rfl, h1, h2⟩ := h
    cases i with
    | zero => simp only [List.set_cons_zero, AV.VL]; exact ⟨y, rest, rfl, hx, h2⟩
    | succ i => simp only [List.set_cons_succ, AV.VL]; exact ⟨z, _, rfl, h1, VL.set h2 hx⟩

theorem VL.setAll {C : Cx} : ∀ {cs : List AV} {ys : List Value} {as : List AV} {vs : List Value} {off : Nat}, AV.VL C as vs → AV.VL C cs ys → AV.VL C (setAll as off cs) (AM.setAll vs off ys)
  | [], ys, as, vs, off, h, hc => by unfold AV.VL at hc; subst hc; exact h
  | c :: cs, ys, as, vs, off, h, hc => by
    unfold AV.VL at hc
    obtain ⟨y, rest, rfl, h1, h2⟩ := hc
    simp only [AM.setAll]
    exact VL.setAll (VL.set h h1) h2

theorem mem_setAll {α : Type} {q : α} : ∀ {cs : List α} {as : List α} {off : Nat}, q ∈ setAll as off cs → q ∈ as ∨ q ∈ cs
  | [], as, off, h => .inl h
  | c :: cs, as, off, h => by
    simp only [setAll] at h
    rcases mem_setAll h with h | h
    · rcases List.mem_or_eq_of_mem_set h with h | rfl
      · exact .inl h
      · exact .inr (by simp)
    · exact .inr (by simp [h])

/-- Values whose cells are told. -/
def CellsOf (C : Cx) (fs : List AV) (v : Value) : Prop := AV.VL C fs v.cells.toList ∧ ∀ q ∈ v.cells.toList, q.oneCell' = true

inductive Parts (C : Cx) : List (Nat × List AV) → List (Nat × Value) → Prop where
  | nil : Parts C [] []
  | cons {p : Nat × List AV} {v : Nat × Value} {ps : List (Nat × List AV)} {vs : List (Nat × Value)} : p.1 = v.1 ∧ CellsOf C p.2 v.2 → Parts C ps vs → Parts C (p :: ps) (v :: vs)

theorem fill_sound {C : Cx} {place : Nat → Option (Nat × Nat)} : ∀ {ps : List (Nat × List AV)} {vs : List (Nat × Value)} {as : List AV} {cells : Array Value} {out : List AV},
    fillA place as ps = some out → AV.VL C as cells.toList → (∀ q ∈ cells.toList, q.oneCell' = true) → Parts C ps vs →
    ∃ cells', Instr.fill place cells vs = some cells' ∧ AV.VL C out cells'.toList ∧ (∀ q ∈ cells'.toList, q.oneCell' = true)
  | [], vs, as, cells, out, h, hv, h1, hf => by
    cases hf
    simp only [fillA, Option.some.injEq] at h
    subst h
    exact ⟨cells, rfl, hv, h1⟩
  | (i, cs) :: ps, vs, as, cells, out, h, hv, h1, hf => by
    cases hf with
    | cons hp hrest =>
      rename_i p vs
      obtain ⟨j, x⟩ := p
      obtain ⟨rfl, hc1, hc2⟩ := hp
      simp only [fillA] at h
      split at h
      · simp at h
      · rename_i off size e
        split at h
        · rename_i hl
          have l1 := VL.len hc1
          have l2 := VL.len hv
          have e1 : x.cells.size = size := by rw [← hl.1, ← l1]; simp
          have e2 : ¬ (off + x.cells.size > cells.size) := by
            have : cells.size = as.length := by rw [← l2]; simp
            rw [this, e1, ← hl.1]; omega
          have hset := fill_setAll x.cells cells off
          obtain ⟨cells', g1, g2, g3⟩ := fill_sound (cells := x.cells.zipIdx.foldl (fun cs (c, j) => cs.setIfInBounds (off + j) c) cells) h (by rw [hset]; exact VL.setAll hv hc1)
            (fun q hq => by rw [hset] at hq; rcases mem_setAll hq with hq | hq; exact h1 q hq; exact hc2 q hq) hrest
          refine ⟨cells', ?_, g2, g3⟩
          simp only [Instr.fill, e, e1]
          rw [if_neg (by simp; omega)]
          exact g1
        · simp at h

section
variable {P : Program} {S : SpecEqT} {E : En} {st : St} {a : Act} {w : World} {hs : List Hd} {o : Oper} {v : AV} {u : List (Nat × Ob)} {n : List Ob} {T : Nat → TI}

/-- A new object. -/
theorem OpOK.add (h : Rel E st a w hs) (hd : ∀ t, o.dst = some t → t < E.N) {w' : World} {val : Value} {av : AV} {ob : Ob} {k : Hd} (hrun : (execOp a.eval o).run P w = .ok (.value val) w')
    (hb : Below w.heap.size w w') (hn : ∀ b ∈ k.blks, w.heap.size ≤ b) (hor : ob.OR ((st.cx E w hs).add w' ob k) k) (hv : av.VR ((st.cx E w hs).add w' ob k) val) : OpOK P E o st a w hs av [] [ob] := by
  intro Kp Q hK
  unfold Oper.wp
  rw [hrun, Oper.upon_value]
  have le := Cx.Le.add (C := st.cx E w hs) (o := ob) h.wok.len hb hn
  have wok := h.wok.add hb hn hor
  have hr : Rel E ⟨st.env, st.obs ++ [some ob]⟩ a w' (hs ++ [k]) := h.le le wok
  have := hr.put (av := av) (v := val) hv o.dst hd
  refine hK _ _ (hs ++ [k]) ?_
  cases hdst : o.dst <;> simpa [St.upd, St.put, hdst] using this

/-- The cells of an operand. -/
def Q.cells (av : AV) (k : List AV → Q) : Q :=
  match av with
  | .d fr x => k (x.cells.map (.d fr))
  | .agg fs => k fs
  | .own m γ => .obj m fun ob => (match ob with
    | .row _ _ γ' _ _ => if γ = γ' then k [.own m γ] else .bad
    | _ => .bad)
  | .ptr m off => .obj m fun _ => k [.ptr m off]
  | .fn f c => k [.fn f c]
  | _ => .bad

theorem Qcells_sound (h : Rel E st a w hs) {av : AV} {x : Value} (hx : av.VR (st.cx E w hs) x) {k : List AV → Q} (hr : (Q.cells av k).Runs S st v u n) : ∃ fs, (k fs).Runs S st v u n ∧ CellsOf (st.cx E w hs) fs x := by
  unfold Q.cells at hr
  split at hr
  · refine ⟨_, hr, ?_⟩
    exact VR.cells hx rfl (fun _ _ e => by cases e) (fun _ _ e => by cases e) (fun m k' e1 ⟨ob, e2⟩ => by
      obtain ⟨hd, e3, e4⟩ := h.obj e2
      have : (st.cx E w hs).hs = hs := rfl
      rw [this, e3] at e1
      simp only [Option.some.injEq] at e1
      subst e1
      cases ob with
      | row E sz γ fr xs => obtain ⟨_, _, fl, _, ho⟩ := e4; obtain ⟨A, c, rfl, _⟩ := owns_slice ho; rfl
      | _ => exact e4.elim)
  · exact ⟨_, hr, VR.cells hx rfl (fun _ _ e => by cases e) (fun _ _ e => by cases e) (fun m k' e1 ⟨ob, e2⟩ => by
      obtain ⟨hd, e3, e4⟩ := h.obj e2
      have : (st.cx E w hs).hs = hs := rfl
      rw [this, e3] at e1
      simp only [Option.some.injEq] at e1
      subst e1
      cases ob with
      | row E sz γ fr xs => obtain ⟨_, _, fl, _, ho⟩ := e4; obtain ⟨A, c, rfl, _⟩ := owns_slice ho; rfl
      | _ => exact e4.elim)⟩
  · rename_i m γ
    unfold Q.Runs at hr
    obtain ⟨ob, hob, hr⟩ := hr
    dsimp only at hr
    split at hr
    · split at hr
      · rename_i eγ
        subst eγ
        refine ⟨_, hr, ?_⟩
        have hx' := hx
        unfold AV.VR at hx'
        have h2 := (hx'.2 _ _ _ _ _ hob).2 rfl
        obtain ⟨hd', e3, h3⟩ := h.obj hob
        obtain ⟨vv, rfl, _, _, fl, _, h4⟩ := OR.row_val h3
        have e4 : vv = x := by
          have : (st.cx E w hs).hs = hs := rfl
          rw [this, e3] at h2
          simpa using h2
        obtain ⟨A, c, e5, _⟩ := owns_slice h4
        have e6 : x.cells = #[x] := by rw [← e4, e5]; rfl
        have e7 : x.oneCell' = true := by rw [← e4, e5]; rfl
        unfold CellsOf
        rw [e6]
        simp [AV.VL, hx, e7]
      · unfold Q.Runs at hr; exact hr.elim
    · unfold Q.Runs at hr; exact hr.elim
  · rename_i m off
    unfold Q.Runs at hr
    obtain ⟨ob, hob, hr⟩ := hr
    refine ⟨_, hr, ?_⟩
    have hx' := hx
    unfold AV.VR at hx'
    obtain ⟨b, _, rfl⟩ := hx'.2 ob hob
    have e6 : (Value.pointer (some ⟨b, off, none⟩)).cells = #[.pointer (some ⟨b, off, none⟩)] := rfl
    unfold CellsOf
    rw [e6]
    simp [AV.VL, hx, Value.oneCell']
  · rename_i f c
    refine ⟨_, hr, ?_⟩
    have hx' := hx
    unfold AV.VR at hx'
    obtain ⟨cs, rfl, h2⟩ := hx'
    have e6 : (Value.func (.func f) #[] cs).cells = #[.func (.func f) #[] cs] := rfl
    unfold CellsOf
    rw [e6]
    simp [AV.VL, hx, Value.oneCell']
  · unfold Q.Runs at hr; exact hr.elim

theorem below_alloc1 (w : World) (o : Obj) : Below w.heap.size w (w.alloc o) := (Below.refl _ _).alloc (Nat.le_refl _) o

/-- A block of cells told. -/
theorem add_cells (h : Rel E st a w hs) {t : Nat} {fs : List AV} {vs : List Value} (hv : AV.VL (st.cx E w hs) fs vs) (h1 : ∀ q ∈ vs, q.oneCell' = true) :
    (Ob.cells t fs).OR ((st.cx E w hs).add (w.alloc (.cells vs.toArray t)) (.cells t fs) (.ptr w.heap.size)) (.ptr w.heap.size) ∧
    (AV.ptr st.obs.length 0).VR ((st.cx E w hs).add (w.alloc (.cells vs.toArray t)) (.cells t fs) (.ptr w.heap.size)) (.pointer (some ⟨w.heap.size, 0, none⟩)) := by
  have le := Cx.Le.add (C := st.cx E w hs) (o := .cells t fs) (h := .ptr w.heap.size) h.wok.len (below_alloc1 w (.cells vs.toArray t)) (by simp [Hd.blks, St.cx])
  refine ⟨⟨vs, ?_, AV.VL.le le _ _ hv, h1⟩, ?_⟩
  · exact heap_alloc_new w _
  · unfold AV.VR
    refine ⟨by simp [Cx.add, St.cx], fun ob _ => ⟨w.heap.size, .inl ?_, rfl⟩⟩
    have : st.obs.length = hs.length := h.wok.len
    simp [Cx.add, St.cx, this]

/-! ### alloc, box -/
def opAlloc (T : Nat → TI) (t : Nat) : Q := if (T t).desc.known = true then .fresh fun m => .fin (.ptr m 0) [] [.cells t ((T t).zero.map fun z => .d true (.v z))] else .bad

theorem VL.vals {C : Cx} : ∀ {zs : List Value}, (∀ q ∈ zs, q.oneCell' = true) → AV.VL C (zs.map fun z => .d true (.v z)) zs
  | [], _ => by simp [AV.VL]
  | z :: zs, h => by
    simp only [List.map_cons, AV.VL]
    exact ⟨z, zs, rfl, vr_v (h z (by simp)), VL.vals fun q hq => h q (by simp [hq])⟩

theorem opAlloc_sound (hT : TabOK P T) (h : Rel E st a w hs) (hd : ∀ t, o.dst = some t → t < E.N) {t : Nat} (ho : o.op = .alloc t) (hr : (opAlloc T t).Runs S st v u n) : OpOK P E o st a w hs v u n := by
  unfold opAlloc at hr
  split at hr
  · rename_i hk
    unfold Q.Runs at hr
    unfold Q.Runs at hr
    obtain ⟨rfl, rfl, rfl⟩ := hr
    obtain ⟨_, ⟨info, i1, i2, i3, z, i4, i5⟩, i6⟩ := hT t (KD.known_ne hk)
    obtain ⟨g1, g2⟩ := add_cells (t := t) h (VL.vals i6) i6
    refine OpOK.add h hd (w' := w.alloc (.cells (T t).zero.toArray t)) (val := .pointer (some ⟨w.heap.size, 0, none⟩)) ?_ (below_alloc1 _ _) (by simp [Hd.blks]) g1 g2
    have : z.cells = (T t).zero.toArray := by rw [← i5]
    simp [execOp, ho, Instr.alloc, zeroValue, typeInfo, i1, i4, newVar, newRow, this]
  · unfold Q.Runs at hr; exact hr.elim

def opBox (T : Nat → TI) (t : Nat) (x : Operand) : Q := Q.opnd x fun a => Q.cells a fun fs => .fresh fun m => .fin (.ptr m 0) [] [.cells t fs]

theorem opBox_sound (h : Rel E st a w hs) (hd : ∀ t, o.dst = some t → t < E.N) {t : Nat} {x : Operand} (ho : o.op = .box t x) (hr : (opBox T t x).Runs S st v u n) : OpOK P E o st a w hs v u n := by
  replace hr := opnd_sound h hr; obtain ⟨av, hav, hr⟩ := hr
  obtain ⟨fs, hr, hc1, hc2⟩ := Qcells_sound h hav hr
  unfold Q.Runs at hr
  unfold Q.Runs at hr
  obtain ⟨rfl, rfl, rfl⟩ := hr
  obtain ⟨g1, g2⟩ := add_cells (t := t) h hc1 hc2
  refine OpOK.add h hd (w' := w.alloc (.cells (a.eval x).cells.toList.toArray t)) (val := .pointer (some ⟨w.heap.size, 0, none⟩)) ?_ (below_alloc1 _ _) (by simp [Hd.blks]) g1 g2
  simp [execOp, ho, Instr.box, newVar, newRow]

/-! ### parts of a literal -/
def Q.parts : List (Nat × Operand) → (List (Nat × List AV) → Q) → Q
  | [], k => k []
  | (i, x) :: ps, k => Q.opnd x fun a => Q.cells a fun fs => Q.parts ps fun rest => k ((i, fs) :: rest)

theorem parts_sound (h : Rel E st a w hs) : ∀ {ps : List (Nat × Operand)} {k : List (Nat × List AV) → Q}, (Q.parts ps k).Runs S st v u n →
    ∃ fs, (k fs).Runs S st v u n ∧ Parts (st.cx E w hs) fs (ps.map fun p => (p.1, a.eval p.2))
  | [], k, hr => ⟨[], hr, .nil⟩
  | (i, x) :: ps, k, hr => by
    unfold Q.parts at hr
    replace hr := opnd_sound h hr; obtain ⟨av, hav, hr⟩ := hr
    obtain ⟨fs, hr, hc⟩ := Qcells_sound h hav hr
    obtain ⟨rest, hr, hf⟩ := parts_sound h hr
    exact ⟨(i, fs) :: rest, hr, .cons ⟨rfl, hc⟩ hf⟩

/-! ### build -/
def placeOf (T : Nat → TI) (fs : List (Nat × Nat)) (i : Nat) : Option (Nat × Nat) := (fs[i]?).map fun p => (p.1, (T p.2).size)

def opBuild (T : Nat → TI) (t : Nat) (parts : Array (Nat × Operand)) : Q := match (T t).desc with
  | .struct fs => if fs.all (fun p => (T p.2).desc.known) = true then Q.parts parts.toList fun ps => (match fillA (placeOf T fs) ((T t).zero.map fun z => AV.d true (.v z)) ps with
    | some cs => .fin (mkAgg cs) [] []
    | none => .bad) else .bad
  | _ => .bad

theorem mapM_places (hT : TabOK P T) {t : Nat} {fs : List (Nat × Nat)} {fields : Array Field} (e : (fields.toList.map fun f => (f.offset, f.type)) = fs) (hk : fs.all (fun p => (T p.2).desc.known) = true) :
    ∃ places : Array (Nat × Nat), (fields.mapM fun f => do pure (f.offset, ← sizeOf f.type) : Sem (Array (Nat × Nat))).run P w = .ok places w ∧ ∀ i : Nat, places[i]? = placeOf T fs i := by
  have key : ∀ (l : List Field) (gs : List (Nat × Nat)), (l.map fun f => (f.offset, f.type)) = gs → gs.all (fun p => (T p.2).desc.known) = true →
      (l.mapM fun f => do pure (f.offset, ← sizeOf f.type) : Sem (List (Nat × Nat))).run P w = .ok (gs.map fun p => (p.1, (T p.2).size)) w := by
    intro l
    induction l with
    | nil => intro gs e _; subst e; rfl
    | cons f l ih =>
      intro gs e hk
      subst e
      simp only [List.map_cons, List.all_cons, Bool.and_eq_true] at hk
      obtain ⟨_, ⟨info, i1, i2, _⟩, _⟩ := hT f.type (KD.known_ne hk.1)
      have := ih _ rfl hk.2
      simp only [List.mapM_cons, Sem.run_bind, sizeOf, typeInfo, run_program, Result.andThen_ok, i1, Sem.run_pure, i2, List.map_cons] at this ⊢
      rw [this]
      rfl
  refine ⟨(fs.map fun p => (p.1, (T p.2).size)).toArray, ?_, fun i => by simp [placeOf]⟩
  have := key fields.toList fs e hk
  rw [Array.mapM_eq_mapM_toList, Sem.run_map, this]
  rfl

theorem opBuild_sound (hT : TabOK P T) (h : Rel E st a w hs) (hd : ∀ t, o.dst = some t → t < E.N) {t : Nat} {parts : Array (Nat × Operand)} (ho : o.op = .build t parts) (hr : (opBuild T t parts).Runs S st v u n) : OpOK P E o st a w hs v u n := by
  unfold opBuild at hr
  split at hr
  · rename_i fs e1
    split at hr
    · rename_i hk
      obtain ⟨ps, hr, hf⟩ := parts_sound h hr
      split at hr
      · rename_i cs ec
        unfold Q.Runs at hr
        obtain ⟨rfl, rfl, rfl⟩ := hr
        obtain ⟨g1, ⟨info, i1, i2, i3, z, i4, i5⟩, i6⟩ := hT t (by rw [e1]; simp)
        rw [e1] at g1
        obtain ⟨fields, g2, g3⟩ := g1
        obtain ⟨places, p1, p2⟩ := mapM_places (P := P) (w := w) (t := t) hT g3 hk
        have p3 : (fun i => places[i]?) = placeOf T fs := funext p2
        obtain ⟨cells', q1, q2, q3⟩ := fill_sound (cells := z.cells) ec (by rw [i5]; exact VL.vals i6) (by rw [i5]; exact i6) hf
        have hz : (zeroValue t).run P w = .ok z w := by simp [zeroValue, typeInfo, i1, i4]
        refine OpOK.pure h hd (v := .agg cells') (by simpa using VR.mkAgg q2 q3) ?_
        have e5 : (parts.map fun (i, x) => (i, a.eval x)).toList = parts.toList.map fun p => (p.1, a.eval p.2) := by simp
        simp only [execOp, ho, Instr.build, Sem.run_bind, hz, Result.andThen_ok, run_underlying g2, p1, e5]
        have : (fun x => places[x]?) = placeOf T fs := p3
        simp only [this, q1, Sem.run_pure, Result.andThen_ok]
      · unfold Q.Runs at hr; exact hr.elim
    · unfold Q.Runs at hr; exact hr.elim
  · unfold Q.Runs at hr; exact hr.elim

end
end Go.AM

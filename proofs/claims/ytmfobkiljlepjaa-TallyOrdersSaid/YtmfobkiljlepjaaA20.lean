/- AM, part 20: append of noughts; a slice against nil; an own row's name lifted. (Before part 13.) -/
import Derived.Test.YtmfobkiljlepjaaA12
import Derived.Lib.AppendZerosOnto
import Derived.Lib.AppendZeros
import Derived.Laws.Cover3
set_option linter.unusedVariables false
set_option linter.unusedSimpArgs false
namespace Go.AM
open Go Go.RowKit
section
variable {P : Program} {S : SpecEqT} {E : En} {st : St} {a : Act} {w : World} {hs : List Hd} {o : Oper} {v : AV} {u : List (Nat × Ob)} {n : List Ob} {T : Nat → TI}

theorem zeroCells_one (z : Value) (m : Nat) : (Builtin.zeroCells #[z] m).toList = List.replicate m z := by
  simp only [Builtin.zeroCells, Array.toList_map, Array.toList_range]
  apply List.ext_getElem
  · simp
  · intro j h1 h2
    simp [Nat.mod_one]

theorem run_append_zeros (hT : TabOK P T) {t tn e : Nat} (ty : TypeId) (kn : IntKind) (e1 : (T t).desc = .slice e) (en : (T tn).desc = .int kn) (hk : (T e).desc.known = true) {z : Value} (hz : (T e).zero = [z]) (hs1 : (T e).size = 1)
    {vv : Value} {m : Nat} {fl : List Value} (ho : w.ownsRow 0 e 1 vv m fl) {kq : IntKind} (k : Nat) (h63 : m + k ≤ maxLen) (hbytes : (m + k) * (T e).bytes ≤ 140737488355328) :
    ∃ v' w', (Builtin.append_ #[t, tn] ty #[vv, .int kq k]).run P w = .ok v' w' ∧ w'.ownsRow 0 e 1 v' (m + k) (fl ++ List.replicate k z) ∧ w.grownBy w' vv.ownBlock ∧
      (v'.ownBlock = vv.ownBlock ∨ v'.ownBlock = some w.heap.size) := by
  obtain ⟨g1, _⟩ := hT t (by rw [e1]; simp)
  rw [e1] at g1
  obtain ⟨gn, _⟩ := hT tn (by rw [en]; simp)
  rw [en] at gn
  obtain ⟨_, ⟨i, i1, i2, i3, zz, i4, i5⟩, i6⟩ := hT e (KD.known_ne hk)
  have hu1 : z.oneCell' = true := i6 z (by rw [hz]; simp)
  have hzz : zz.cells = #[z] := by
    rw [hz] at i5
    have := congrArg List.toArray i5
    simpa using this
  have hsz : i.size = 1 := i2.trans hs1
  have hby : i.bytes = (T e).bytes := i3
  have hsmall : m + k ≤ 9223372036854775807 := by simp only [maxLen] at h63; omega
  have hlen : (fl ++ List.replicate k z).length = (m + k) * 1 := by rw [List.length_append, ho.1, List.length_replicate]; omega
  have hwrap : IntKind.i64.wrap (k : Int) = k := by rw [IntKind.wrap_i64]; omega
  have hkb : k * i.bytes ≤ 140737488355328 := by rw [hby]; exact Nat.le_trans (Nat.mul_le_mul_right _ (by omega)) hbytes
  have grown : ∀ (old : Nat), old < m + k → ∀ (row : Option Nat),
      (w.drew.alloc (.cells (fl.toArray ++ (List.replicate k z).toArray ++ Builtin.zeroCells zz.cells (grownCap w (m + k) old e - (m + k))) e)).ownsRow 0 e 1
        (.slice (some ⟨w.heap.size, 0, none⟩) (m + k) (grownCap w (m + k) old e)) (m + k) (fl ++ List.replicate k z) ∧
      w.grownBy (w.drew.alloc (.cells (fl.toArray ++ (List.replicate k z).toArray ++ Builtin.zeroCells zz.cells (grownCap w (m + k) old e - (m + k))) e)) row := by
    intro old ho' row
    have hge := grownCap_ge w (m + k) old e
    have hcm : grownCap w (m + k) old e ≤ maxLen := grownCap_le_maxLen w (m + k) old e h63
    refine ⟨⟨hlen, .inr ⟨w.heap.size, _, _, rfl, Nat.zero_le _, heap_alloc_new w.drew _, hge, hcm, ?_, ?_⟩⟩, ⟨rfl, rfl, rfl, by simp, fun q hk _ => Below.heap_alloc w.drew _ q hk⟩⟩
    · have hone : (#[z] : Array Value).size = 1 := rfl
      simp only [Array.size_append, List.size_toArray, size_zeroCells, hzz, ho.1, List.length_replicate, hone]
      omega
    · simp only [Array.toList_append, List.append_assoc]
      rw [← List.append_assoc, ← hlen]
      exact List.take_left
  have hzk : Builtin.zeroCells zz.cells k = (List.replicate k z).toArray := by
    have := congrArg List.toArray (zeroCells_one z k)
    rw [Array.toArray_toList] at this
    rw [hzz]; exact this
  rcases ho.2 with ⟨rfl, rfl⟩ | ⟨g, cap, cur, rfl, hbg, hg, hnc, hcm, hcs, htake⟩
  · have hx : fl = [] := List.eq_nil_of_length_eq_zero (by simpa using ho.1)
    subst hx
    by_cases hm : k = 0
    · subst hm
      refine ⟨.slice none 0 0, w, ?_, by simpa using World.ownsRow_nil w 0 e 1, ⟨rfl, rfl, rfl, Nat.le_refl _, fun _ _ _ => rfl⟩, .inl rfl⟩
      simp [Builtin.append_, run_underlying g1, run_underlying gn, sizeOf, typeInfo, i1, asInt, asIntOf, hwrap, IntKind.wrap_i64]
    · have hr := Lib.run_append_nil_zeros (P := P) w t tn ty e i zz kq kn g1 gn i1 i4 k (by omega) (by omega) (by omega) (by omega)
      have hgr := grown 0 (by omega) (Value.ownBlock (.slice none 0 0))
      rw [hzk] at hr
      simp only [Nat.zero_add, List.nil_append, Array.empty_append] at hgr ⊢
      exact ⟨_, _, hr, hgr.1, hgr.2, .inr rfl⟩
  · by_cases hk0 : k = 0
    · subst hk0
      have hroom : m + 0 ≤ cap := by omega
      refine ⟨.slice (some ⟨g, 0, none⟩) (m + 0) cap, w, ?_, by simpa using ho, ⟨rfl, rfl, rfl, Nat.le_refl _, fun _ _ _ => rfl⟩, .inl rfl⟩
      have hw0 : IntKind.i64.wrap 0 = 0 := by rw [IntKind.wrap_i64]; omega
      simp [Builtin.append_, run_underlying g1, run_underlying gn, sizeOf, typeInfo, i1, asInt, asIntOf, hw0, hsz, storeCells, hnc]
    by_cases hroom : m + k ≤ cap
    · have hst := run_storeCells_at P g m e (List.replicate k z) 0 cur w hg (by simp; omega) (fun u hu => by rw [(List.mem_replicate.1 hu).2]; exact hu1)
      simp only [Nat.add_zero, List.length_replicate] at hst
      refine ⟨.slice (some ⟨g, 0, none⟩) (m + k) cap, w.setRow g (cur.toList.take m ++ List.replicate k z ++ cur.toList.drop (m + k)).toArray, ?_, ⟨hlen, .inr ⟨g, cap, _, rfl, hbg, setRow_heap w g cur _ e _ hg, hroom, hcm, ?_, ?_⟩⟩,
        ⟨rfl, rfl, rfl, by simp, fun q _ hk => setRow_other w g q _ (fun e => hk (by simp [Value.ownBlock, e]))⟩, .inl rfl⟩
      · have hneg : ¬ ((k : Int) < 0) := by omega
        have h48' : ¬ (281474976710656 < (k : Int) * (i.bytes : Int)) := by
          have : ((k * i.bytes : Nat) : Int) ≤ 140737488355328 := by omega
          rw [Int.natCast_mul] at this
          omega
        simp [Builtin.append_, run_underlying g1, run_underlying gn, sizeOf, typeInfo, i1, i4, asInt, asIntOf, hwrap, h48', hneg, hroom, hsz, hk0, zeroValue, hzk, Addr.add_lit, hst]
      · simp only [List.size_toArray, List.length_append, List.length_take, List.length_drop, Array.length_toList, List.length_replicate]
        omega
      · rw [Nat.mul_one] at htake
        rw [htake, ← hlen]
        exact List.take_left
    · have hfc : (Builtin.firstCells i.size m (.slice (some ⟨g, 0, none⟩) m cap)).run P w.drew = .ok fl.toArray w.drew :=
        run_firstCells_some (P := P) w.drew i.size m ⟨g, 0, none⟩ m cap fl (by rw [hsz]; exact ho.1) (by simpa using ho.cells (g := g) rfl)
      have hr := Lib.run_append_grow_zeros (P := P) w t tn ty e i zz kq kn g1 gn i1 i4 (some ⟨g, 0, none⟩) m cap fl hfc k (by omega) (by omega) (by omega) (by omega) (by omega) (growslice_fits (by omega) (by rw [hby]; exact hbytes))
      rw [hzk] at hr
      have hgr := grown cap (by omega) (Value.ownBlock (.slice (some ⟨g, 0, none⟩) m cap))
      exact ⟨_, _, hr, hgr.1, hgr.2, .inr rfl⟩

/-- append(x, make([]T, n)...) -/
def opAppendZ (T : Nat → TI) (t tn : Nat) (x y : Operand) : Q := match (T t).desc, (T tn).desc with
  | .slice e, .int _ => (match (T e).zero with
    | [z] => if (T e).desc.known = true ∧ (T e).size = 1 then Q.opnd x fun a => Q.opnd y fun b => (match a, b with
      | .own m γ, .d _ (.v (.int _ k)) => .obj m fun ob => (match ob with
        | .row E' sz γ' fr xs => if γ = γ' ∧ E' = e ∧ sz = 1 then .side (0 ≤ k ∧ ((xs.length : Int) + k) * ((T e).bytes : Int) ≤ 140737488355328 ∧ (xs.length : Int) + k ≤ 9223372036854775807)
            (.fin (.own m (γ + 1)) [(m, .row e 1 (γ + 1) fr (xs ++ List.replicate k.toNat (.v z)))] []) else .bad
        | _ => .bad)
      | _, _ => .bad) else .bad
    | _ => .bad)
  | _, _ => .bad

theorem opAppendZ_sound (hT : TabOK P T) (h : Rel E st a w hs) (hd : ∀ t, o.dst = some t → t < E.N) {t tn : Nat} {x y : Operand} (ho : o.op = .call { callee := .builtin .append, args := #[x, y], argTypes := #[t, tn] })
    (hr : (opAppendZ T t tn x y).Runs S st v u n) : OpOK P E o st a w hs v u n := by
  unfold opAppendZ at hr
  split at hr
  · rename_i e kn e1 en
    split at hr
    · rename_i z ez
      split at hr
      · rename_i hc
        obtain ⟨hk, hs1⟩ := hc
        replace hr := opnd_sound h hr; obtain ⟨av, hav, hr⟩ := hr
        replace hr := opnd_sound h hr; obtain ⟨bv, hbv, hr⟩ := hr
        split at hr
        · rename_i m γ fr0 kq k
          unfold Q.Runs at hr
          obtain ⟨ob, hob, hr⟩ := hr
          dsimp only at hr
          split at hr
          · split at hr
            · rename_i E' sz γ' fr xs ec
              obtain ⟨rfl, rfl, rfl⟩ := ec
              unfold Q.Runs at hr
              obtain ⟨⟨hk0, hb1, hb2⟩, hr⟩ := hr
              unfold Q.Runs at hr
              obtain ⟨rfl, rfl, rfl⟩ := hr
              unfold AV.VR at hav
              have h2 := (hav.2 _ _ _ _ _ hob).2 rfl
              obtain ⟨hd', e3, h3⟩ := h.obj hob
              obtain ⟨vv, rfl, _, hz, fl, hl, h4⟩ := OR.row_val h3
              have e4 : vv = a.eval x := by
                have : (st.cx E w hs).hs = hs := rfl
                rw [this, e3] at h2
                simpa using h2
              have ey := vr_int hbv
              obtain ⟨kk, rfl⟩ : ∃ kk : Nat, k = kk := ⟨k.toNat, by omega⟩
              have hbb : (xs.length + kk) * (T E').bytes ≤ 140737488355328 := by
                have : (((xs.length + kk) * (T E').bytes : Nat) : Int) ≤ 140737488355328 := by rw [Int.natCast_mul, Int.natCast_add]; exact hb1
                omega
              have u1 : z.oneCell' = true := by
                obtain ⟨_, _, i6⟩ := hT E' (KD.known_ne hk)
                exact i6 z (by rw [ez]; simp)
              obtain ⟨v', w', hrun, hown, hg, hat⟩ := run_append_zeros (P := P) hT o.type kn e1 en hk ez hs1 h4 (kq := kq) kk (by simp only [maxLen]; omega) hbb
              have hwr : Wrote w w' (Hd.row vv).blks := ⟨hg.os, hg.tape, hg.output, hg.size, fun b hb hnb => hg.block b hb (fun e => hnb (by simp [Hd.blks, ← e]))⟩
              have hnew : ∀ b ∈ (Hd.row v').blks, b ∈ (Hd.row vv).blks ∨ w.heap.size ≤ b := by
                intro b hb
                simp only [Hd.blks, Option.mem_toList] at hb ⊢
                rcases hat with hat | hat
                · rw [hat] at hb; exact .inl hb
                · rw [hat] at hb; right; simp at hb; rw [← hb]; exact Nat.le_refl _
              simp only [Int.toNat_natCast]
              have hfol : (Ob.row E' 1 γ fr xs).follows (.row vv) (.row E' 1 (γ + 1) fr (xs ++ List.replicate kk (.v z))) (.row v') := by
                refine ⟨fun E2 sz2 γ2 fr2 xs2 e => ?_, fun b e => by simp at e, fun b q e => by simp at e⟩
                simp only [Ob.row.injEq] at e
                obtain ⟨_, _, rfl, _, _⟩ := e
                exact ⟨_, _, γ, _, _, rfl, Nat.le_succ _, fun e => by omega⟩
              have le := Cx.Le.setO (C := st.cx E w hs) (o' := .row E' 1 (γ + 1) fr (xs ++ List.replicate kk (.v z))) h.wok.len hob e3 hwr hnew hfol
              refine OpOK.set h hd (nx := .value v') (val := v') ?_ (.inl rfl) hob e3 hwr hnew hfol ?_ ?_
              · have hrun' : (Builtin.append_ #[t, tn] o.type #[vv, .int kq kk]).run P w = .ok v' w' := hrun
                simp only [execOp, ho, resolve, invoke, builtin, Sem.run_bind, Sem.run_pure, Result.andThen_ok, List.map_toArray, List.map_cons, List.map_nil, ey, ← e4, hrun']
              · refine ⟨by omega, fun q hq => ?_, fl ++ List.replicate kk z, ?_, by rw [List.length_append, List.length_replicate]; exact hown⟩
                · rcases List.mem_append.1 hq with hq | hq
                  · exact hz q hq
                  · rw [(List.mem_replicate.1 hq).2]; rfl
                · exact Dat.RL.append.2 ⟨fl, _, rfl, Dat.RL.stable (le.sh fr) _ _ hl, RL_replicate u1 kk⟩
              · unfold AV.VR
                have hlt : m < hs.length := (List.getElem?_eq_some_iff.1 e3).1
                have hlt' : m < st.obs.length := (List.getElem?_eq_some_iff.1 hob).1
                refine ⟨by simpa [Cx.setO, St.cx] using hlt', fun E2 sz2 γ0 fr2 xs2 he => ?_⟩
                have : γ0 = γ + 1 := by
                  simp [Cx.setO, St.cx, List.getElem?_set, hlt'] at he
                  exact he.2.2.1.symm
                subst this
                exact ⟨Nat.le_refl _, fun _ => by simp [Cx.setO, St.cx, List.getElem?_set, hlt]⟩
            · unfold Q.Runs at hr; exact hr.elim
          · unfold Q.Runs at hr; exact hr.elim
        · unfold Q.Runs at hr; exact hr.elim
      · unfold Q.Runs at hr; exact hr.elim
    · unfold Q.Runs at hr; exact hr.elim
  · unfold Q.Runs at hr; exact hr.elim

end
end Go.AM

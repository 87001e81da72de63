/- A library of this claim: rules that lead a call of a Go function to a formula over the heap alone, and laws on lists, maps and slices in the heap. No conditions. -/
import Derived.Test.YtobbagjpngkpkaaVcMore
namespace Go.VC

/-- Only new blocks. -/
def Ext (h h' : Heap) : Prop := h.size ≤ h'.size ∧ ∀ x, x < h.size → h'[x]? = h[x]?
theorem Ext.refl (h : Heap) : Ext h h := ⟨Nat.le_refl _, fun _ _ => rfl⟩
theorem Ext.trans {h h' h'' : Heap} (a : Ext h h') (b : Ext h' h'') : Ext h h'' :=
  ⟨Nat.le_trans a.1 b.1, fun x hx => (b.2 x (Nat.lt_of_lt_of_le hx a.1)).trans (a.2 x hx)⟩
theorem Ext.get {h h' : Heap} (a : Ext h h') {x : Nat} {o : Obj} (hx : h[x]? = some o) : h'[x]? = some o := by
  rw [a.2 x (Array.getElem?_eq_some_iff.1 hx).1]; exact hx

/-- Nothing but these blocks (and new ones) has changed. -/
def Ch (F : Nat → Prop) (h h' : Heap) : Prop := h.size ≤ h'.size ∧ ∀ x, x < h.size → ¬ F x → h'[x]? = h[x]?
theorem Ch.refl (F : Nat → Prop) (h : Heap) : Ch F h h := ⟨Nat.le_refl _, fun _ _ _ => rfl⟩
theorem Ch.trans {F : Nat → Prop} {h h' h'' : Heap} (a : Ch F h h') (b : Ch F h' h'') : Ch F h h'' :=
  ⟨Nat.le_trans a.1 b.1, fun x hx hf => (b.2 x (Nat.lt_of_lt_of_le hx a.1) hf).trans (a.2 x hx hf)⟩
theorem Ch.mono {F G : Nat → Prop} {h h' : Heap} (a : Ch F h h') (hg : ∀ x, x < h.size → F x → G x) : Ch G h h' := ⟨a.1, fun x hx hn => a.2 x hx fun hf => hn (hg x hx hf)⟩
theorem Ext.ch {F : Nat → Prop} {h h' : Heap} (a : Ext h h') : Ch F h h' := ⟨a.1, fun x hx _ => a.2 x hx⟩
theorem Ch.get {F : Nat → Prop} {h h' : Heap} (a : Ch F h h') {x : Nat} {o : Obj} (hx : h[x]? = some o) (hf : ¬ F x) : h'[x]? = some o := by
  rw [a.2 x (Array.getElem?_eq_some_iff.1 hx).1 hf]; exact hx
theorem lt_of_get {h : Heap} {x : Nat} {o : Obj} (hx : h[x]? = some o) : x < h.size := (Array.getElem?_eq_some_iff.1 hx).1

/-- the blocks that are new count too -/
def Grow (F : Nat → Prop) (h h' : Heap) (x : Nat) : Prop := F x ∨ (h.size ≤ x ∧ x < h'.size)

/-! facts of single steps -/
theorem push_get {h h1 : Heap} {o : Obj} (e : h1 = h.push o) : h1[h.size]? = some o ∧ Ext h h1 ∧ h1.size = h.size + 1 := by
  subst e
  refine ⟨by simp, ⟨by simp, fun x hx => ?_⟩, by simp⟩
  rw [Array.getElem?_push_lt hx]; exact (Array.getElem?_eq_getElem hx).symm

theorem set_get {h h1 : Heap} {b : Nat} {o u : Obj} (e : h1 = h.setIfInBounds b o) (hb : h[b]? = some u) : h1[b]? = some o ∧ (∀ x, x ≠ b → h1[x]? = h[x]?) ∧ h1.size = h.size := by
  subst e
  exact ⟨by rw [Array.getElem?_setIfInBounds_self_of_lt (lt_of_get hb)], fun x hx => Array.getElem?_setIfInBounds_ne (fun q => hx q.symm), by simp⟩
theorem ch_of_set {h h1 : Heap} {b : Nat} (hs : ∀ x, x ≠ b → h1[x]? = h[x]?) (hz : h1.size = h.size) : Ch (· = b) h h1 := ⟨by omega, fun x _ hn => hs x hn⟩

theorem cell_blk {h : Heap} {b o : Nat} {c : Array Value} {t : TypeId} {z : Nat × Nat} {v : Value} (hb : h[b]? = some (.cells c t z)) (hc : c[o]? = some v) : cellH h b o = some v := by
  simp only [cellH, hb, hc]
theorem cell_lst {h : Heap} {b o : Nat} {c : List Value} {t : TypeId} {z : Nat × Nat} {v : Value} (hb : h[b]? = some (.cells c.toArray t z)) (hc : c[o]? = some v) : cellH h b o = some v :=
  cell_blk hb (by simpa using hc)
theorem cell_congr {h h' : Heap} {b o : Nat} (e : h'[b]? = h[b]?) : cellH h' b o = cellH h b o := by simp only [cellH, e]

theorem ld_lst {h : Heap} {b : Nat} {c : List Value} {t : TypeId} {z : Nat × Nat} (hb : h[b]? = some (.cells c.toArray t z)) : ∀ (n o : Nat), o + n ≤ c.length → ldCells h b o n = some ((c.drop o).take n) := by
  intro n
  induction n with
  | zero => intro o _; simp [ldCells]
  | succ n ih =>
    intro o ho
    have hlt : o < c.length := by omega
    simp only [ldCells, cell_lst hb (List.getElem?_eq_getElem hlt), ih (o + 1) (by omega)]
    rw [List.drop_eq_getElem_cons hlt, List.take_succ_cons]; rfl

/-- the cells behind a store -/
def spl (c : List Value) (o : Nat) (vs : List Value) : List Value := c.take o ++ vs ++ c.drop (o + vs.length)
theorem spl_length {c : List Value} {o : Nat} {vs : List Value} (h : o + vs.length ≤ c.length) : (spl c o vs).length = c.length := by
  simp [spl]; omega
theorem spl_get {c : List Value} {o : Nat} {vs : List Value} (h : o + vs.length ≤ c.length) (i : Nat) : (spl c o vs)[i]? = if o ≤ i ∧ i < o + vs.length then vs[i - o]? else c[i]? := by
  unfold spl
  by_cases h1 : i < o
  · have : ¬ (o ≤ i ∧ i < o + vs.length) := by omega
    rw [if_neg this, List.append_assoc, List.getElem?_append_left (by simp; omega), List.getElem?_take_of_lt h1]
  · by_cases h2 : i < o + vs.length
    · have hc : o ≤ i ∧ i < o + vs.length := by omega
      rw [if_pos hc, List.append_assoc, List.getElem?_append_right (by simp; omega), List.getElem?_append_left (by simp; omega)]
      congr 1; simp; omega
    · have : ¬ (o ≤ i ∧ i < o + vs.length) := by omega
      rw [if_neg this, List.getElem?_append_right (by simp; omega), List.getElem?_drop]
      congr 1; simp; omega
theorem spl_one {c : List Value} {o : Nat} {v : Value} (h : o < c.length) : spl c o [v] = c.set o v := by
  apply List.ext_getElem?
  intro i
  rw [spl_get (by simp; omega), List.getElem?_set]
  by_cases h1 : o = i
  · subst h1; simp [h]
  · have : ¬ (o ≤ i ∧ i < o + [v].length) := by simp; omega
    simp [h1]; intro h2 h3; simp at this; omega

theorem set_set {h : Heap} {b : Nat} {o o' : Obj} : (h.setIfInBounds b o).setIfInBounds b o' = h.setIfInBounds b o' := by
  apply Array.ext_getElem?
  intro i
  by_cases hi : b = i
  · subst hi; simp only [Array.getElem?_setIfInBounds]; simp
  · rw [Array.getElem?_setIfInBounds_ne hi, Array.getElem?_setIfInBounds_ne hi, Array.getElem?_setIfInBounds_ne hi]

theorem st_lst : ∀ (vs : List Value) (h : Heap) (b o : Nat) (c : List Value) (t : TypeId), h[b]? = some (.cells c.toArray t (0, 0)) → o + vs.length ≤ c.length → (∀ v ∈ vs, v.oneCell' = true) →
    stCells b h o vs = some (h.setIfInBounds b (.cells (spl c o vs).toArray t (0, 0))) := by
  intro vs
  induction vs with
  | nil =>
    intro h b o c t hb _ _
    have e : spl c o [] = c := by simp [spl]
    simp only [stCells, e]
    congr 1
    apply Array.ext_getElem?
    intro i
    by_cases hi : b = i
    · subst hi; rw [Array.getElem?_setIfInBounds_self_of_lt (lt_of_get hb)]; exact hb
    · rw [Array.getElem?_setIfInBounds_ne hi]
  | cons v vs ih =>
    intro h b o c t hb ho h1
    simp only [List.length_cons] at ho
    have hlt : o < c.length := by omega
    have hc := cell_lst hb (List.getElem?_eq_getElem hlt)
    have hf : frozH h b o = false := by simp [frozH, hb]
    have hone := h1 v (List.mem_cons_self ..)
    have hset : setH h b o v = h.setIfInBounds b (.cells (c.set o v).toArray t (0, 0)) := by
      unfold setH
      apply Array.ext_getElem?
      intro i
      rw [Array.getElem?_modify]
      by_cases hi : b = i
      · subst hi
        rw [if_pos rfl, hb, Array.getElem?_setIfInBounds_self_of_lt (lt_of_get hb)]
        simp
      · rw [if_neg hi, Array.getElem?_setIfInBounds_ne hi]
    have hb' : (setH h b o v)[b]? = some (.cells (c.set o v).toArray t (0, 0)) := by
      rw [hset, Array.getElem?_setIfInBounds_self_of_lt (lt_of_get hb)]
    have := ih (setH h b o v) b (o + 1) (c.set o v) t hb' (by simp; omega) (fun u hu => h1 u (List.mem_cons_of_mem _ hu))
    simp only [stCells, hc, hf, hone, Option.isSome_some, Bool.not_false, Bool.and_self, if_true, this]
    rw [hset, set_set]
    congr 4
    apply List.ext_getElem?
    intro i
    rw [spl_get (by simp; omega), spl_get (by simp; omega), List.getElem?_set]
    simp only [List.length_cons]
    by_cases h2 : o = i
    · subst h2
      have e1 : ¬ (o + 1 ≤ o ∧ o < o + 1 + vs.length) := by omega
      have e2 : o ≤ o ∧ o < o + (vs.length + 1) := by omega
      rw [if_neg e1, if_pos e2]; simp [hlt]
    · by_cases h3 : o + 1 ≤ i ∧ i < o + 1 + vs.length
      · have e2 : o ≤ i ∧ i < o + (vs.length + 1) := by omega
        rw [if_pos h3, if_pos e2]
        have e3 : i - o = (i - (o + 1)) + 1 := by omega
        rw [e3]; simp
      · have e2 : ¬ (o ≤ i ∧ i < o + (vs.length + 1)) := by omega
        rw [if_neg h3, if_neg e2]; simp [h2]

/-- a store, as facts -/
theorem st_ex {h : Heap} {b o : Nat} {c : List Value} {t : TypeId} (vs : List Value) (hb : h[b]? = some (.cells c.toArray t (0, 0))) (ho : o + vs.length ≤ c.length) (h1 : ∀ v ∈ vs, v.oneCell' = true) :
    ∃ h1, stCells b h o vs = some h1 ∧ h1[b]? = some (.cells (spl c o vs).toArray t (0, 0)) ∧ (∀ x, x ≠ b → h1[x]? = h[x]?) ∧ h1.size = h.size :=
  ⟨_, st_lst vs h b o c t hb ho h1, set_get rfl hb⟩

theorem one_int (k : IntKind) (n : Int) : (Value.int k n).oneCell' = true := rfl

/-! maps -/
section
variable {κ : Type} [DecidableEq κ]
theorem mlook_nil (n : κ) : mlook ([] : List (ME κ)) n = none := rfl
theorem mfind_mput {l : List (ME κ)} {n m : κ} {v : Value} {c : Nat} : (mfind (mput l n v c) m).map (·.val) = if m = n then some v else (mfind l m).map (·.val) := by
  unfold mput
  cases hi : midx l n with
  | none =>
    have hnf : mfind l n = none := by
      have := midx_mfind l n; rw [hi] at this; simpa using this.symm
    simp only [mfind, List.find?_append, Option.map_or]
    by_cases h : m = n
    · subst h
      have : l.find? (fun e => decide (e.key = m)) = none := hnf
      rw [this]; simp
    · have : ¬ n = m := fun e => h e.symm
      simp [h, this]
  | some j =>
    have hj := midx_mfind l n
    rw [hi] at hj
    simp only [Option.bind_some] at hj
    obtain ⟨hlt, hjk, hmin⟩ := List.findIdx?_eq_some_iff_getElem.1 hi
    clear hi hj
    induction l generalizing j with
    | nil => simp at hlt
    | cons e l ih =>
      cases j with
      | zero =>
        simp at hjk
        simp only [List.modify_zero_cons, mfind, List.find?_cons, hjk]
        by_cases h : m = n
        · subst h; simp
        · have : ¬ n = m := fun q => h q.symm
          simp [h, this]
      | succ j =>
        have h0 := hmin 0 (by omega)
        simp at h0
        have ih' := ih j (by simpa using hlt) (by simpa using hjk) (fun q hq => by have := hmin (q + 1) (by omega); simpa using this)
        simp only [List.modify_succ_cons, mfind, List.find?_cons]
        by_cases hem : e.key = m
        · have hmn : ¬ m = n := fun q => h0 (hem.trans q)
          simp [hem, hmn]
        · simp only [hem, decide_false]
          exact ih'
theorem mlook_mput (l : List (ME κ)) (n m : κ) (v : Value) (c : Nat) : mlook (mput l n v c) m = if m = n then some v else mlook l m := mfind_mput
theorem mput_keys (l : List (ME κ)) (n : κ) (v : Value) (c : Nat) : ((mput l n v c).map (·.key)) = if (midx l n).isSome then l.map (·.key) else l.map (·.key) ++ [n] := by
  unfold mput
  cases hi : midx l n with
  | none => simp
  | some j =>
    simp only [Option.isSome_some, if_true]
    apply List.ext_getElem?
    intro q
    simp only [List.getElem?_map, List.getElem?_modify]
    by_cases hq : j = q
    · subst hq; cases l[j]? <;> simp
    · simp [hq]
theorem midx_isSome (l : List (ME κ)) (n : κ) : (midx l n).isSome = (mlook l n).isSome := by
  have := midx_mfind l n
  cases hi : midx l n with
  | none => rw [hi] at this; simp at this; simp [mlook, ← this]
  | some j =>
    rw [hi] at this
    have hlt := (List.findIdx?_eq_some_iff_getElem.1 hi).1
    simp [List.getElem?_eq_getElem hlt] at this
    simp [mlook, ← this]
theorem mem_keys_iff {l : List (ME κ)} {n : κ} : n ∈ l.map (·.key) ↔ (mlook l n).isSome = true := by
  simp only [mlook, mfind, Option.isSome_map, List.find?_isSome, List.mem_map, decide_eq_true_eq]
theorem mput_ok {l : List (ME κ)} {n : κ} {v : Value} {c : Nat} (ho : mapOk l c) : mapOk (mput l n v c) (mclk l n c) := by
  refine ⟨?_, mput_born_nodup ho, ?_⟩
  · intro e he
    unfold mput at he
    unfold mclk
    cases hi : midx l n with
    | none =>
      rw [hi] at he
      simp at he
      simp only [Option.isSome_none, Bool.false_eq_true, if_false]
      rcases he with he | rfl
      · exact Nat.lt_succ_of_lt (ho.1 e he)
      · exact Nat.lt_succ_self _
    | some j =>
      rw [hi] at he
      simp only [Option.isSome_some, if_true]
      obtain ⟨q, hq⟩ := List.mem_iff_getElem?.1 he
      rw [List.getElem?_modify] at hq
      cases hlq : l[q]? with
      | none => rw [hlq] at hq; simp at hq
      | some e' =>
        rw [hlq] at hq
        have hm := ho.1 e' (List.mem_iff_getElem?.2 ⟨q, hlq⟩)
        by_cases hjq : j = q
        · simp [hjq] at hq; rw [← hq]; exact hm
        · simp [hjq] at hq; rw [← hq]; exact hm
  · rw [mput_keys]
    split
    · exact ho.2.2
    · rename_i hi
      rw [List.nodup_append]
      refine ⟨ho.2.2, by simp, ?_⟩
      intro a ha b hb
      simp at hb; subst hb
      intro e; subst e
      rw [mem_keys_iff, ← midx_isSome] at ha
      exact hi ha
theorem mdel_ok {l : List (ME κ)} {n : κ} {c : Nat} (ho : mapOk l c) : mapOk (mdel l n) c := by
  unfold mdel
  split
  · rename_i j _
    have hs := List.eraseIdx_sublist l j
    exact ⟨fun e he => ho.1 e (hs.subset he), (hs.map _).nodup ho.2.1, (hs.map _).nodup ho.2.2⟩
  · exact ho
theorem mlook_mdel {l : List (ME κ)} {c : Nat} (ho : mapOk l c) (n m : κ) : mlook (mdel l n) m = if m = n then none else mlook l m := by
  have hnd := ho.2.2
  unfold mdel
  cases hi : midx l n with
  | none =>
    have : mlook l n = none := by
      have := midx_isSome l n; rw [hi] at this; cases h : mlook l n <;> simp_all
    by_cases h : m = n
    · subst h; simp [this]
    · simp [h]
  | some j =>
    obtain ⟨hlt, hjk, hmin⟩ := List.findIdx?_eq_some_iff_getElem.1 hi
    clear hi ho
    induction l generalizing j with
    | nil => simp at hlt
    | cons e l ih =>
      simp only [List.map_cons, List.nodup_cons] at hnd
      cases j with
      | zero =>
        simp at hjk
        simp only [List.eraseIdx_zero, List.tail_cons]
        by_cases h : m = n
        · subst h
          rw [if_pos rfl]
          cases hl : mlook l m with
          | none => rfl
          | some v =>
            exfalso
            have : m ∈ l.map (·.key) := mem_keys_iff.2 (by simp [hl])
            exact hnd.1 (by rw [hjk]; exact this)
        · have : ¬ e.key = m := fun q => h (by rw [← q, hjk])
          simp [h, mlook, mfind, this]
      | succ j =>
        have h0 := hmin 0 (by omega)
        simp at h0
        have ih' := ih hnd.2 j (by simpa using hlt) (by simpa using hjk) (fun q hq => by have := hmin (q + 1) (by omega); simpa using this)
        simp only [List.eraseIdx_cons_succ]
        by_cases hem : e.key = m
        · have hmn : ¬ m = n := fun q => h0 (hem.trans q)
          simp [mlook, mfind, hem, hmn]
        · simp only [mlook, mfind, List.find?_cons, hem, decide_false] at ih' ⊢
          exact ih'
theorem mapOk_nil (κ : Type) (c : Nat) : mapOk ([] : List (ME κ)) c := ⟨fun _ h => (by cases h), by simp, by simp⟩
theorem mlook_mem {l : List (ME κ)} {n : κ} {v : Value} (h : mlook l n = some v) : ∃ e ∈ l, e.key = n ∧ e.val = v := by
  unfold mlook at h
  obtain ⟨e, he, rfl⟩ := Option.map_eq_some_iff.1 h
  exact ⟨e, List.mem_of_find?_eq_some he, mfind_key he, rfl⟩
theorem mem_mlook {l : List (ME κ)} {c : Nat} (ho : mapOk l c) {e : ME κ} (he : e ∈ l) : mlook l e.key = some e.val := by
  have hnd := ho.2.2
  clear ho
  induction l with
  | nil => cases he
  | cons a l ih =>
    simp only [List.map_cons, List.nodup_cons] at hnd
    rcases List.mem_cons.1 he with rfl | h
    · simp [mlook, mfind]
    · have hne : ¬ a.key = e.key := fun q => hnd.1 (by rw [q]; exact List.mem_map.2 ⟨e, h, rfl⟩)
      have := ih h hnd.2
      simp only [mlook, mfind, List.find?_cons, hne, decide_false] at this ⊢
      exact this
end

theorem ne_map_cells {h : Heap} {a b : Nat} {c : Array Value} {t : TypeId} {z : Nat × Nat} {es : Array MapEntry} {k : Nat} (ha : h[a]? = some (.cells c t z)) (hb : h[b]? = some (.map es k)) : a ≠ b := by
  intro e; subst e; rw [ha] at hb; simp at hb

theorem mobj_inj {κ : Type} {ek : κ → Value} (hi : ∀ a b, ek a = ek b → a = b) {l l' : List (ME κ)} {c c' : Nat} (e : mobj ek l c = mobj ek l' c') : l = l' ∧ c = c' := by
  simp only [mobj, Obj.map.injEq] at e
  obtain ⟨e, rfl⟩ := e
  replace e := List.toArray_inj e
  refine ⟨?_, rfl⟩
  induction l generalizing l' with
  | nil => cases l' with
    | nil => rfl
    | cons a l' => simp at e
  | cons x l ih => cases l' with
    | nil => simp at e
    | cons x' l' =>
      simp only [List.map_cons, List.cons.injEq] at e
      obtain ⟨e1, e2⟩ := e
      rw [ih e2]
      obtain ⟨k, v, b⟩ := x
      obtain ⟨k', v', b'⟩ := x'
      simp only [ME.ent, MapEntry.mk.injEq] at e1
      obtain ⟨a, rfl, rfl⟩ := e1
      rw [hi _ _ a]
theorem mobj_int_inj {k : IntKind} {l l' : List (ME Int)} {c c' : Nat} (e : mobj (Value.int k) l c = mobj (Value.int k) l' c') : l = l' ∧ c = c' := mobj_inj (fun a b h => by simpa using h) e

/-- a fresh block, stored to -/
theorem st_tmp {h h1 : Heap} {zs : List Value} {t : TypeId} (e : h1 = h.push (.cells zs.toArray t (0, 0))) (vs : List Value) (hn : vs.length = zs.length) (ho : ∀ v ∈ vs, v.oneCell' = true) :
    ∃ h2, stCells h.size h1 0 vs = some h2 ∧ h2[h.size]? = some (.cells vs.toArray t (0, 0)) ∧ Ext h h2 ∧ h2.size = h.size + 1 := by
  obtain ⟨p1, p2, p3⟩ := push_get e
  obtain ⟨h2, q1, q2, q3, q4⟩ := st_ex (o := 0) vs p1 (by omega) ho
  refine ⟨h2, q1, ?_, ⟨by omega, fun x hx => by rw [q3 x (by omega)]; exact p2.2 x hx⟩, by omega⟩
  rw [q2]; simp [spl, hn]

theorem lt_of_cell {h : Heap} {b o : Nat} {v : Value} (hc : cellH h b o = some v) : b < h.size := by
  by_cases hl : b < h.size
  · exact hl
  · simp [cellH, Array.getElem?_eq_none (Nat.le_of_not_lt hl)] at hc
theorem Ext.cell {h h' : Heap} (e : Ext h h') {b o : Nat} {v : Value} (hc : cellH h b o = some v) : cellH h' b o = some v := by
  rw [cell_congr (e.2 b (lt_of_cell hc))]; exact hc
theorem Ext.lt {h h' : Heap} (e : Ext h h') {b : Nat} (hb : b < h.size) : b < h'.size := Nat.lt_of_lt_of_le hb e.1
theorem Ch.lt {F : Nat → Prop} {h h' : Heap} (e : Ch F h h') {b : Nat} (hb : b < h.size) : b < h'.size := Nat.lt_of_lt_of_le hb e.1

/-! walks over maps -/
def unseen {κ : Type} (l : List (ME κ)) (h : Heap) (it : Nat) : Nat :=
  match h[it]? with
  | some (.mapIter _ _ seen _) => (l.filter fun e => !seen.contains e.born).length
  | _ => 0
theorem filter_lt {α : Type} {p q : α → Bool} : ∀ {l : List α} {x : α}, (∀ y ∈ l, q y = true → p y = true) → x ∈ l → p x = true → q x = false → (l.filter q).length < (l.filter p).length
  | [], _, _, h, _, _ => by cases h
  | a :: l, x, hi, h, hp, hq => by
    have hle : (l.filter q).length ≤ (l.filter p).length := by
      clear h
      induction l with
      | nil => simp
      | cons b l ih =>
        have ih := ih fun y hy => hi y (by rcases List.mem_cons.1 hy with rfl | g <;> simp_all)
        have hb := hi b (by simp)
        simp only [List.filter_cons]
        cases hqb : q b <;> cases hpb : p b <;> simp_all <;> omega
    rcases List.mem_cons.1 h with rfl | h
    · simp only [List.filter_cons, hp, hq]; simp; omega
    · have := filter_lt (l := l) (fun y hy => hi y (by simp [hy])) h hp hq
      have ha := hi a (by simp)
      simp only [List.filter_cons]
      cases hqa : q a <;> cases hpa : p a <;> simp_all <;> omega
theorem unseen_lt {κ : Type} {ek : κ → Value} {l : List (ME κ)} {h h' : Heap} {it c : Nat} {sn : Array Nat} {e : ME κ} (a : iterAt ek h it l c sn) (b : iterAt ek h' it l c (sn.push e.born)) (he : e ∈ l) (hn : e.born ∉ sn) : unseen l h' it < unseen l h it := by
  rcases a with ⟨rfl, _⟩ | ⟨r, a, _⟩
  · cases he
  rcases b with ⟨rfl, _⟩ | ⟨r', b, _⟩
  · cases he
  simp only [unseen, a, b]
  refine filter_lt (x := e) ?_ he (by simpa using hn) (by simp)
  intro y _ hy
  simp at hy ⊢
  exact hy.1
theorem ok_born_inj {κ : Type} {l : List (ME κ)} {c : Nat} (ho : mapOk l c) {a b : ME κ} (ha : a ∈ l) (hb : b ∈ l) (e : a.born = b.born) : a = b := by
  have hn := ho.2.1
  clear ho
  induction l with
  | nil => cases ha
  | cons x l ih =>
    simp only [List.map_cons, List.nodup_cons] at hn
    rcases List.mem_cons.1 ha with rfl | ha' <;> rcases List.mem_cons.1 hb with rfl | hb'
    · rfl
    · exact (hn.1 (List.mem_map.2 ⟨b, hb', e.symm⟩)).elim
    · exact (hn.1 (List.mem_map.2 ⟨a, ha', e⟩)).elim
    · exact ih ha' hb' hn.2

end Go.VC

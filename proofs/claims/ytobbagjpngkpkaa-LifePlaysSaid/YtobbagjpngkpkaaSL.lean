/- Contracts of the library functions that the claim calls. Conditions: as stated. -/
import Derived.Test.YtobbagjpngkpkaaSLa
import Derived.Test.YtobbagjpngkpkaaVcSlice
namespace Go.VC
theorem nodup_nat_bound : ∀ (n : Nat) (l : List Nat), l.Nodup → (∀ x ∈ l, x < n) → l.length ≤ n
  | 0, l, _, h => by
    cases l with
    | nil => simp
    | cons a l => exact absurd (h a (by simp)) (by omega)
  | n + 1, l, hn, h => by
    have h1 := nodup_nat_bound n (l.erase n) (hn.erase n) (fun x hx => by
      have a := h x (List.mem_of_mem_erase hx)
      have b : x ≠ n := fun e => by subst e; exact (List.Nodup.not_mem_erase hn) hx
      omega)
    have := List.length_erase (a := n) (l := l)
    split at this <;> omega
theorem nodup_int_bound {n : Nat} {l : List Int} (hn : l.Nodup) (h : ∀ x ∈ l, 0 ≤ x ∧ x < n) : l.length ≤ n := by
  have := nodup_nat_bound n (l.map Int.toNat) (by
    rw [List.nodup_iff_pairwise_ne, List.pairwise_map]
    refine (List.nodup_iff_pairwise_ne.1 hn).imp_of_mem ?_
    intro a b ha hb hab e
    have := h a ha; have := h b hb; omega) (fun x hx => by
    obtain ⟨y, hy, rfl⟩ := List.mem_map.1 hx
    have := h y hy; omega)
  simpa using this
theorem below_same {w w' : World} {B : Nat} (h : Go.RowKit.Below B w w') : Same w w' := ⟨h.tape, h.os, h.output⟩
end Go.VC
namespace Go.Proofs.Vf
open Go Go.Proofs Go.VC Go.Shelf Go.RowKit

/-- a row that a contract hands back -/
theorem sl_of_ownsRow {w : World} {base e n : Nat} {v : Value} {xs : List Value} (h : w.ownsRow base e 1 v n xs) : ∃ a c, v = .slice a n c ∧ Sl w.heap e 1 a n c xs ∧ ∀ x, blkOf a x → base ≤ x := by
  obtain ⟨h1, h2⟩ := h
  rcases h2 with ⟨rfl, rfl⟩ | ⟨g, cap, cur, rfl, hb, hg, hn, hc, hs, ht⟩
  · exact ⟨none, 0, rfl, ⟨h1, .inl ⟨rfl, rfl, rfl⟩⟩, fun x hx => absurd hx not_blkOf_none⟩
  · refine ⟨_, cap, rfl, ⟨h1, .inr ⟨g, 0, cur.toList, rfl, hg, hn, ?_, ?_⟩⟩, fun x hx => by rw [blkOf_some] at hx; omega⟩
    · rw [Array.length_toList]; omega
    · rw [List.drop_zero]; exact ht

theorem collect_spec {h : Heap} {m : Option Nat} {l : List (ME Int)} {c B : Nat} {t : TypeId} (hm : mapAt (Value.int .i64) h m l c) (ok : mapOk l c) (hr : ∀ e ∈ l, 0 ≤ e.key ∧ e.key < 1000) (hB : h[B]? = some (.cells #[.map m] t (0, 0))) :
    CallsH PR fn_slices_Collect_int #[.func (.func fn_maps_Keys_map_int_bool_int_bool_1) #[] #[.pointer (some ⟨B, 0, none⟩)]] h
      (fun v h' => ∃ (a : Option Addr) (cap : Nat) (ks : List Int), v = .slice a ks.length cap ∧ ks.Perm (l.map (·.key)) ∧ ks.length ≤ 1000 ∧ Ext h h' ∧ Sl h' ty_int 1 a ks.length cap (ks.map (Value.int .i64)) ∧ ∀ x, blkOf a x → h.size ≤ x) := by
  intro w hw
  have hBlt : B < w.heap.size := by rw [hw]; exact (Array.getElem?_eq_some_iff.1 hB).1
  have hcell : w.cell? ⟨B, 0, none⟩ = some (.map m) := by simp [World.cell?, hw, hB]
  have hkb : (l.map (·.key)).length ≤ 1000 := nodup_int_bound ok.2.2 fun x hx => by
    obtain ⟨e, he, rfl⟩ := List.mem_map.1 hx
    exact hr e he
  have fin : ∀ (e : Ending) (w' : World), (∃ (v : Value) (ss : List Int), e = .returned v ∧ ss.Perm (l.map (·.key)) ∧ w'.ownsRow w.heap.size ty_int 1 v ss.length (ss.map encZ) ∧ (v = .slice none 0 0 ↔ ss = []) ∧ Below w.heap.size w w') →
      ∃ v, e = .returned v ∧ (∃ (a : Option Addr) (cap : Nat) (ks : List Int), v = .slice a ks.length cap ∧ ks.Perm (l.map (·.key)) ∧ ks.length ≤ 1000 ∧ Ext h w'.heap ∧ Sl w'.heap ty_int 1 a ks.length cap (ks.map (Value.int .i64)) ∧ ∀ x, blkOf a x → h.size ≤ x) ∧ Same w w' := by
    rintro e w' ⟨v, ss, rfl, hp, hrow, _, hbl⟩
    obtain ⟨a, cap, rfl, hs, hf⟩ := sl_of_ownsRow hrow
    refine ⟨_, rfl, ⟨a, cap, ss, rfl, hp, by rw [hp.length_eq]; exact hkb, ⟨hw ▸ hbl.size, fun x hx => ?_⟩, hs, hw ▸ hf⟩, below_same hbl⟩
    rw [hbl.block x (by rw [hw]; exact hx), hw]
  cases m with
  | none =>
    obtain rfl : l = [] := hm
    have hseq := AnyZI.keys_gives_nil (ρ := Try.keysA_ren) { Try.keysA with } Fence.wide 3 trivial rfl B w hBlt hcell
    have cC := AnyZI.collect_in Try.collA Fence.wide 5 trivial trivial rfl (by omega) fn_maps_Keys_map_int_bool_int_bool_1 #[.pointer (some ⟨B, 0, none⟩)] trivial (enters_of Try.func46 (by kernel_rfl) rfl) _ 0 (by decide) (by decide) w hseq
    refine ((callsIn_wide (n := 5)).1 cC).mono ?_
    rintro e w' ⟨v, ss, rfl, rfl, hrow, hnil, hbl⟩
    exact fin _ _ ⟨v, [], rfl, .refl _, hrow, hnil, hbl⟩
  | some b =>
    have hmb : h[b]? = some (mobj (Value.int .i64) l c) := hm
    have hkey : ∀ e ∈ l, keyOf Try.prog 3 (.int .i64 e.key) = some (.int .i64 e.key) := fun e he => Go.Maps.keyOf_int_mk Try.keysA.t26 (by have := hr e he; simp [Lit.wf, IntKind.bits, IntKind.signed, IntKind.min, IntKind.max]; omega)
    have hrd : ∀ e ∈ l, Go.WideElems.rg (H := Unit) Try.prog 3 (fun _ => some (.nil, [])) (ME.ent (Value.int .i64) e) = (.int .i64 e.key, .nil) := fun e he => by
      simp [Go.WideElems.rg, Go.WideElems.rd, ME.ent, hkey e he]
    have hown : w.ownsMap (H := Unit) Try.prog 3 (fun _ => some (.nil, [])) b 1000 (.map (((l.map (ME.ent (Value.int .i64))).map (Go.WideElems.rg Try.prog 3 (fun _ => some (.nil, [])))).foldr DataW.insert [])) := by
      refine ⟨_, c, by rw [hw]; exact hmb, ⟨?_, ?_, ?_⟩, ?_, rfl⟩
      · simp at hkb ⊢
        have : 1000 ≤ maxLen := by decide
        omega
      · rw [Go.MapKept.stamped_iff]
        refine ⟨?_, ?_, ?_⟩
        · intro x hx
          obtain ⟨e, he, rfl⟩ := List.mem_map.1 hx
          exact ok.1 e he
        · have := ok.2.1
          simpa [ME.ent, Function.comp_def] using this
        · have := ok.2.2
          rw [List.nodup_iff_pairwise_ne, List.pairwise_map] at this
          rw [List.pairwise_map]
          refine this.imp ?_
          intro a b hab e
          exact hab (by simpa [ME.ent] using e)
      · intro x hx
        obtain ⟨e, he, rfl⟩ := List.mem_map.1 hx
        exact ⟨(.int .i64 e.key, .nil), by simp [Go.WideElems.rd, ME.ent, hkey e he]⟩
      · simpa using hkb
    obtain ⟨D0, hD0⟩ : ∃ D0 : DataW Unit, D0 = .map (((l.map (ME.ent (Value.int .i64))).map (Go.WideElems.rg Try.prog 3 (fun _ => some (.nil, [])))).foldr DataW.insert []) := ⟨_, rfl⟩
    rw [← hD0] at hown
    have hperm0 : (((l.map (ME.ent (Value.int .i64))).map (Go.WideElems.rg (H := Unit) Try.prog 3 (fun _ => some (.nil, [])))).foldr DataW.insert []).Perm (l.map fun e => (Lit.int .i64 e.key, DataW.nil)) := by
      refine (Go.WideShapes.sorted_perm _).trans ?_
      rw [List.map_map]
      have : l.map (Go.WideElems.rg (H := Unit) Try.prog 3 (fun _ => some (.nil, [])) ∘ ME.ent (Value.int .i64)) = l.map fun e => (Lit.int .i64 e.key, DataW.nil) := by
        apply List.map_congr_left; intro e he; rw [Function.comp_apply]; exact hrd e he
      rw [this]
    have hkeys : (intKeys D0).Perm (l.map (·.key)) := by
      rw [hD0]
      refine (hperm0.map (fun (p : Lit × DataW Unit) => Go.intOf p.1)).trans ?_
      rw [List.map_map]
      exact .refl _
    have hsize : Go.Maps.size D0 ≤ 1000 := by
      have h1 := hkeys.length_eq
      rw [hD0] at h1 ⊢
      simp only [intKeys, List.length_map, Go.Maps.size] at h1 hkb ⊢
      omega
    have hseq := AnyZI.keys_gives (ρ := Try.keysA_ren) { Try.keysA with } Fence.wide 3 trivial rfl (by omega) B b 1000 D0 w hBlt hcell hown
    have hml : 1000 ≤ maxLen := by decide
    have cC := AnyZI.collect_in Try.collA Fence.wide 5 trivial trivial rfl (by omega) fn_maps_Keys_map_int_bool_int_bool_1 #[.pointer (some ⟨B, 0, none⟩)] trivial (enters_of Try.func46 (by kernel_rfl) rfl) _ _ (by omega) (by omega) w hseq
    refine ((callsIn_wide (n := 5)).1 cC).mono ?_
    rintro e w' ⟨v, ss, rfl, hp, hrow, hnil, hbl⟩
    exact fin _ _ ⟨v, ss, rfl, hp.trans hkeys, hrow, hnil, hbl⟩

section
open Go.Lib Go.Sort
theorem ltK (x y : Int) : ltOf compareInt x y = decide (x < y) := by
  unfold ltOf compareInt
  by_cases h1 : x < y
  · simp [h1]
  · by_cases h2 : y < x <;> simp [h1, h2]
theorem swoK : SWO (ltOf compareInt) where
  irrefl x := by rw [ltK]; simp
  trans x y z h1 h2 := by rw [ltK] at *; simp at *; omega
  ntrans x y z h1 h2 := by rw [ltK] at *; simp at *; omega
theorem cmp_lays (blk off size : Nat) (w : World) : CmpLays1 Try.prog fn_cmp_Compare_int #[] (Value.int .i64) compareInt blk off size w :=
  fun m os dk _ x y => (AnyG.cmp_Compare_int Try.cmpA x y _).mono fun _ _ ⟨he, hw⟩ => ⟨he, 0, #[], by rw [hw]; simp [World.drewN]⟩

theorem sortFunc_spec {h : Heap} {a : Option Addr} {cap : Nat} {ks : List Int} (s : Sl h ty_int 1 a ks.length cap (ks.map (Value.int .i64))) (hb : ks.length < 1000000) :
    CallsH PR fn_slices_SortFunc_int_int #[.slice a ks.length cap, .func (.func fn_cmp_Compare_int) #[] #[]] h
      (fun v h' => v = .tuple #[] ∧ ∃ ks' : List Int, ks'.Perm ks ∧ Sl h' ty_int 1 a ks'.length cap (ks'.map (Value.int .i64)) ∧ Ch (blkOf a) h h') := by
  intro w hw
  subst hw
  by_cases hz : ks = []
  · subst hz
    have hc := AnyF.slices_SortFunc_none (ρ := Try.sortA_ren) { Try.sortA with } a cap (.func (.func fn_cmp_Compare_int) #[] #[]) w
    refine hc.mono ?_
    rintro e w' ⟨rfl, rfl⟩
    exact ⟨_, rfl, ⟨rfl, [], .refl _, s, Ch.refl _ _⟩, Same.refl _⟩
  · rcases s.2 with ⟨rfl, hn, rfl⟩ | ⟨blk, off, cur, rfl, hblk, hn, hc, hq⟩
    · exact absurd (List.eq_nil_of_length_eq_zero hn) hz
    · have hlt : blk < w.heap.size := lt_of_get hblk
      simp only [Nat.mul_one] at hc hq
      have hcur : ∀ j, (hj : j < ks.length) → cur[off + j]? = some (.int .i64 ks[j]) := fun j hj => by
        have h1 : (ks.map (Value.int .i64))[j]? = some (.int .i64 ks[j]) := by simp [hj]
        rw [← hq, List.getElem?_take, if_pos hj, List.getElem?_drop] at h1
        exact h1
      have hH : Holds (Value.int .i64) w blk off ks.toArray := fun j hj => by
        have hj' : j < ks.length := by simpa using hj
        refine ⟨?_, by simp [World.frozen?, hblk]⟩
        have : cur[off + j]? = some (.int .i64 ks.toArray[j]!) := by rw [hcur j hj']; simp [hj']
        simp only [World.cell?, hblk]
        simpa using this
      have cS := Any.slices_SortFunc (ρ := Try.sortA_ren) Try.sortA (Value.int .i64) (fun _ => rfl) compareInt swoK fn_cmp_Compare_int #[] blk off cap ks.toArray w (enters_of Try.func36 (by kernel_rfl) rfl) (cmp_lays _ _ _ _) hH hlt (by simp; omega)
      have e0 : ks.toArray.size = ks.length := by simp
      rw [e0] at cS
      refine cS.mono ?_
      rintro e w' ⟨rfl, d', n, os, hp, _, rfl⟩
      have hsz : d'.size = ks.length := by rw [hp.1]; simp
      have hpm : d'.toList.Perm ks := by
        have := hp.2.2
        simpa [Array.extract_eq_self_of_le, hsz] using this
      have hls : d'.toList.length = ks.length := hpm.length_eq
      -- the heap behind it
      have hheap : ∀ k, k < w.heap.size → k ≠ blk → (sortWorld (Value.int .i64) w blk off n d' os).heap[k]? = w.heap[k]? := fun k hk hne => by
        show ((w.heap.modify blk _) ++ os)[k]? = _
        rw [Array.getElem?_append_left (by simpa using hk), Array.getElem?_modify, if_neg (fun e => hne e.symm)]
      have hblk' : (sortWorld (Value.int .i64) w blk off n d' os).heap[blk]? = some (.cells (putCells (Value.int .i64) off d' cur.toArray) ty_int (0, 0)) := by
        show ((w.heap.modify blk _) ++ os)[blk]? = _
        rw [Array.getElem?_append_left (by simpa using hlt), Array.getElem?_modify, if_pos rfl, hblk]; rfl
      refine ⟨_, rfl, ⟨rfl, d'.toList, hpm, ⟨by simp, .inr ⟨blk, off, (putCells (Value.int .i64) off d' cur.toArray).toList, rfl, hblk', by omega, ?_, ?_⟩⟩, ⟨?_, fun k hk hn => hheap k hk fun e => hn (blkOf_some.2 e)⟩⟩, ⟨rfl, rfl, rfl⟩⟩
      · simp [putCells]; omega
      · apply List.ext_getElem?
        intro j
        rw [Nat.mul_one, hls, List.getElem?_take, List.getElem?_drop]
        by_cases hj : j < ks.length
        · rw [if_pos hj]
          have h1 : off + j < cur.length := by omega
          have h2 : j < d'.size := by omega
          simp only [putCells, Array.getElem?_toList, Array.getElem?_mapIdx]
          simp [h1, h2]
        · rw [if_neg hj, List.getElem?_eq_none (by simp; omega)]
      · show w.heap.size ≤ ((w.heap.modify blk _) ++ os).size
        simp
end
end Go.Proofs.Vf

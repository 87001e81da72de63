/- Contracts of package life, and laws that follow from them. Conditions: as stated at each. -/
import Derived.Test.YtobbagjpngkpkaaLF
namespace Go.Proofs.Vf
open Go Go.Proofs Go.VC

theorem admits_spec (h : Heap) {p0 p1 p2 : Int} (h0 : 0 ≤ p0 ∧ p0 < 65536) (h1 : 0 ≤ p1 ∧ p1 < 4294967296) (h2 : 0 ≤ p2 ∧ p2 < 256) :
    CallsH PR fn_linchpinlaw19_LifeAdmits #[.int .u16 p0, .int .u32 p1, .int .u8 p2] h (fun v h' => v = .bool true ∧ Ext h h') := by
  apply F_linchpinlaw19_LifeAdmits_ok
  unfold F_linchpinlaw19_LifeAdmits
  obtain ⟨c, hc⟩ : ∃ c, c = 1 + p0 % 1000 := ⟨_, rfl⟩
  obtain ⟨m, hm⟩ : ∃ m, m = p2 % 3 := ⟨_, rfl⟩
  have w0 : IntKind.u64.wrap p0 = p0 := wrap_u64 (by omega) (by omega)
  have w1 : IntKind.u64.wrap p1 = p1 := wrap_u64 (by omega) (by omega)
  have w2 : IntKind.u64.wrap p2 = p2 := wrap_u64 (by omega) (by omega)
  have t0 : p0.tmod 1000 = p0 % 1000 := Int.tmod_eq_emod_of_nonneg h0.1
  have t2 : p2.tmod 3 = m := by rw [hm]; exact Int.tmod_eq_emod_of_nonneg h2.1
  have wc : IntKind.u64.wrap (1 + p0 % 1000) = c := by rw [wrap_u64 (by omega) (by omega), hc]
  have w3 : IntKind.u64.wrap (p1 + c) = p1 + c := wrap_u64 (by omega) (by omega)
  have w4 : IntKind.u64.wrap (p1 + c + m) = p1 + c + m := wrap_u64 (by omega) (by omega)
  have w5 : IntKind.u64.wrap (p1 + c + m - c) = p1 + m := by rw [wrap_u64 (by omega) (by omega)]; omega
  simp only [w0, w1, w2, t0, t2, wc, w3, w4, w5]
  have hcb : 1 ≤ c ∧ c ≤ 1000 := by omega
  have hmb : 0 ≤ m ∧ m < 3 := by omega
  clear hc hm w0 w1 w2 t0 t2 wc w3 w4 w5
  refine (awake_spec h).mono ?_
  rintro _ h1' ⟨rfl, x1⟩
  refine ⟨true, rfl, fun q => (by cases q), fun _ => ?_⟩
  refine (lv_new x1 hcb).mono ?_
  rintro _ h6 ⟨bb, rfl, L⟩
  refine ⟨_, _, rfl, fun q => by simp at q, fun _ => ?_⟩
  refine (lv_go L (by simp) h1.1).mono ?_
  have e1 : stGo ⟨c, 0, [], []⟩ p1 = (0, [], ⟨c, p1, [], []⟩) := by
    unfold stGo; rw [if_neg (by omega), if_neg (by dsimp only; omega)]; rfl
  rw [e1]
  rintro _ h12 ⟨a, cp, rfl, L, -, -⟩
  refine ⟨_, _, _, _, rfl, ?_⟩
  refine (lv_open L 7 (p1 + c + m) (by omega)).mono ?_
  by_cases hm0 : m = 0
  · subst hm0
    have e2 : stOpen ⟨c, p1, [], []⟩ 7 (p1 + c + 0) = (11, ⟨c, p1, [], []⟩) := by
      unfold stOpen
      rw [if_neg (by omega), if_neg (by omega), if_neg (by simp [look]), if_neg (by simp), if_pos (by dsimp only; omega)]
    rw [e2]
    rintro _ h19 ⟨rfl, L⟩
    refine ⟨_, rfl, fun _ => ?_, fun q => absurd rfl q⟩
    refine ⟨fun x27 h25 => x27 = 0 ∧ Ext h h25, ?_, fun _ => ?_, fun q => absurd rfl q⟩
    · rintro x27 h25 ⟨rfl, x⟩
      exact ⟨congrArg Value.bool (by simp), x⟩
    · refine (lv_count L).mono ?_
      rintro _ h20 ⟨rfl, L⟩
      exact ⟨_, rfl, rfl, L.1⟩
  · have e2 : stOpen ⟨c, p1, [], []⟩ 7 (p1 + c + m) = (0, ⟨c, p1, [⟨7, p1 + c + m⟩], []⟩) := by
      unfold stOpen
      rw [if_neg (by omega), if_neg (by omega), if_neg (by simp [look]), if_neg (by simp), if_neg (by dsimp only; omega)]
      rfl
    rw [e2]
    rintro _ h19 ⟨rfl, L⟩
    refine ⟨_, rfl, fun q => absurd q hm0, fun _ => ?_⟩
    refine (lv_has L 7).mono ?_
    have e3 : look [⟨7, p1 + c + m⟩] 7 = some (p1 + c + m) := by simp [look]
    dsimp only
    rw [e3]
    rintro _ h30 ⟨rfl, L⟩
    refine ⟨_, _, rfl, ?_⟩
    have w6 : IntKind.u64.wrap (p1 + m - 1) = p1 + m - 1 := wrap_u64 (by omega) (by omega)
    rw [w6]
    refine (lv_go L (by simp) (by omega)).mono ?_
    have e4 : stGo ⟨c, p1, [⟨7, p1 + c + m⟩], []⟩ (p1 + m - 1) = (0, [], ⟨c, p1 + m - 1, [⟨7, p1 + c + m⟩], []⟩) := by
      unfold stGo
      have hd : dueBy c (p1 + m - 1) ⟨7, p1 + c + m⟩ = false := by simp [dueBy]; omega
      rw [if_neg (by omega), if_neg (by dsimp only; omega)]
      simp [hd]
    rw [e4]
    rintro _ h36 ⟨a1, c1, rfl, L, -, -⟩
    refine ⟨_, _, _, _, rfl, ?_⟩
    refine (lv_go L (by simp) (by omega)).mono ?_
    have e5 : stGo ⟨c, p1 + m - 1, [⟨7, p1 + c + m⟩], []⟩ (p1 + m) = (0, [⟨7, 2, 1⟩], ⟨c, p1 + m, [], []⟩) := by
      unfold stGo
      have hd : dueBy c (p1 + m) ⟨7, p1 + c + m⟩ = true := by simp [dueBy]; omega
      rw [if_neg (by omega), if_neg (by dsimp only; omega)]
      simp [hd, byTime]
    rw [e5]
    rintro _ h41 ⟨a2, c2, rfl, L, s, -⟩
    obtain ⟨b, o, ha, hl0⟩ := Sl_fate s (i := 0) (f := ⟨7, 2, 1⟩) (by simp)
    refine ⟨_, _, _, _, rfl, b, o, fun _ => ha, fun _ => ⟨by omega, by simp⟩, 7, 2, 1, fun _ => by simpa [fateV] using hl0, ?_, L.1⟩
    simp
end Go.Proofs.Vf

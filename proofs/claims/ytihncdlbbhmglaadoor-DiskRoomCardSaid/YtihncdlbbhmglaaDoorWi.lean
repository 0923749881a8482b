/- Walks: varint.Get. -/
import Derived.Test.YtihncdlbbhmglaaDoorWh
namespace Go.Proofs.YtihncdlbbhmglaaDoor
open Go.RowKit
def GetRet (M : Nat → Prop) (r : Option (Int × Hw.Bytes)) (w : World) (e : Ending) (w' : World) : Prop :=
  (∃ n, w' = w.drewN n) ∧ match r with
    | none => e = .returned (.tuple #[.int .i64 0, .slice none 0 0, .bool false])
    | some (x, rest) => ∃ v', e = .returned (.tuple #[.int .i64 x, v', .bool true]) ∧ RdB M w v' rest
def GetRel (bs : Hw.Bytes) (k u : Nat) : Prop := k ≤ bs.length ∧ k ≤ 9 ∧ u < 2 ^ (7 * k) ∧ Hw.varGet bs = Hw.varGetGo k u (bs.drop k)
theorem and127 {c : Nat} (hc : c < 256) : bits .and .u8 (c : Int) 127 = ((c % 128 : Nat) : Int) := by
  have := u8_and_nat c 127 (by omega) (by omega)
  refine Eq.trans this ?_
  congr 1
  have : ∀ z : Fin 256, z.val &&& 127 = z.val % 128 := by decide +kernel
  exact this ⟨c, hc⟩
theorem pow7 (k : Nat) (hk : k ≤ 9) : 2 ^ (7 * k) ≤ 9223372036854775808 := Nat.pow_le_pow_right (n := 2) (by omega) (show 7 * k ≤ 63 by omega)
theorem get_fit {x k u : Nat} (hx : x < 256) (hk : k ≤ 9) (h9 : ¬ (k = 9 ∧ 1 < x)) (hu : u < 2 ^ (7 * k)) : x % 128 * 2 ^ (7 * k) + u < 18446744073709551616 := by
  have hp := pow7 k hk
  have hpp : 0 < 2 ^ (7 * k) := Nat.pow_pos (by omega)
  by_cases h : k = 9
  · subst h
    have : x ≤ 1 := by omega
    have h2 : x % 128 ≤ 1 := by omega
    have := Nat.mul_le_mul_right (2 ^ (7 * 9)) h2
    omega
  · have h2 : x % 128 ≤ 127 := by omega
    have := Nat.mul_le_mul_right (2 ^ (7 * k)) h2
    have hq : 2 ^ (7 * k) ≤ 72057594037927936 := Nat.pow_le_pow_right (n := 2) (by omega) (show 7 * k ≤ 56 by omega)
    omega
theorem get_or {x k u : Nat} (hx : x < 256) (hk : k ≤ 9) (h9 : ¬ (k = 9 ∧ 1 < x)) (hu : u < 2 ^ (7 * k)) :
    bits .or .u64 (u : Int) (IntKind.u64.wrap ((x : Int) % 128 * 2 ^ (7 * k))) = ((u + x % 128 * 2 ^ (7 * k) : Nat) : Int) := by
  have hf := get_fit hx hk h9 hu
  have e : IntKind.u64.wrap ((x : Int) % 128 * 2 ^ (7 * k)) = ((x % 128 * 2 ^ (7 * k) : Nat) : Int) := by
    have e1 : (x : Int) % 128 * 2 ^ (7 * k) = ((x % 128 * 2 ^ (7 * k) : Nat) : Int) := by push_cast; rfl
    rw [e1, IntKind.wrap_u64]; omega
  rw [e]
  refine Eq.trans (u64_or_nat u _ (by omega) (by omega)) ?_
  congr 1
  have := Nat.two_pow_add_eq_or_of_lt (i := 7 * k) hu (x % 128)
  rw [Nat.mul_comm, Nat.add_comm, Nat.or_comm] at this
  rw [this, Nat.mul_comm]
theorem get_go {bs : Hw.Bytes} {k u : Nat} (h : GetRel bs k u) (hlt : k < bs.length) : Hw.varGet bs =
    if k = 9 ∧ 1 < bs[k].toNat then none
    else if 128 ≤ bs[k].toNat then Hw.varGetGo (k + 1) (u + bs[k].toNat % 128 * 2 ^ (7 * k)) (bs.drop (k + 1))
    else if 0 < k ∧ bs[k].toNat = 0 then none
    else some (Hw.unzig (u + bs[k].toNat % 128 * 2 ^ (7 * k)), bs.drop (k + 1)) := by
  obtain ⟨h1, h2, h3, h4⟩ := h
  rw [h4, List.drop_eq_getElem_cons hlt, Hw.varGetGo, if_neg (by omega)]
theorem GetRel.next {bs : Hw.Bytes} {k u : Nat} (h : GetRel bs k u) (hlt : k < bs.length) (h9 : ¬ (k = 9 ∧ 1 < bs[k].toNat)) (hge : 128 ≤ bs[k].toNat) : GetRel bs (k + 1) (u + bs[k].toNat % 128 * 2 ^ (7 * k)) := by
  have hg := get_go h hlt
  rw [if_neg h9, if_pos hge] at hg
  have hx := UInt8.toNat_lt bs[k]
  have hk9 := h.2.1
  refine ⟨by omega, by omega, ?_, hg⟩
  have h3 := h.2.2.1
  have h2 : bs[k].toNat % 128 ≤ 127 := by omega
  have := Nat.mul_le_mul_right (2 ^ (7 * k)) h2
  have e : 2 ^ (7 * (k + 1)) = 2 ^ (7 * k) * 128 := by rw [show 7 * (k + 1) = 7 * k + 7 by omega, Nat.pow_add]
  omega
theorem and1_64 {U : Nat} (hU : U < 18446744073709551616) : bits .and .u64 (U : Int) 1 = ((U % 2 : Nat) : Int) := by
  have := u64_and_nat U 1 hU (by omega); rw [Nat.and_one_is_mod] at this; exact this
theorem get_end {M : Nat → Prop} {bs : Hw.Bytes} {w : World} {k x U : Nat} {p : Bool} {y : Int} {v' : Value} {nq : Nat} (hg : Hw.varGet bs = if 0 < k ∧ x = 0 then none else some (Hw.unzig U, bs.drop (k + 1))) (h0 : ¬ (0 < k ∧ x = 0))
    (hp : p = decide (U % 2 = 1)) (hf : RdB M w v' (bs.drop (k + 1))) (hy : y = if p then -((U / 2 : Nat) : Int) - 1 else ((U / 2 : Nat) : Int)) :
    GetRet M (Hw.varGet bs) w (.returned (.tuple #[.int .i64 y, v', .bool true])) (w.drewN nq) := by
  rw [hg, if_neg h0]
  refine ⟨⟨_, rfl⟩, v', ?_, hf⟩
  rw [hy, hp]; unfold Hw.unzig
  by_cases h : U % 2 = 1 <;> simp [h]
theorem not_i64 {U : Nat} (hU : U < 18446744073709551616) : bits .xor .i64 (-1) ((U : Int) / 2) = -((U : Int) / 2) - 1 := by
  show IntKind.i64.wrap ((BitVec.ofInt 64 (-1) ^^^ BitVec.ofInt 64 ((U : Int) / 2)).toNat : Int) = _
  have e1 : BitVec.ofInt 64 (-1) = BitVec.allOnes 64 := by decide
  have e2 : BitVec.ofInt 64 ((U : Int) / 2) = BitVec.ofNat 64 (U / 2) := by rw [← BitVec.ofInt_natCast]; congr 1
  rw [e1, e2, BitVec.allOnes_xor, BitVec.toNat_not, BitVec.toNat_ofNat, Nat.mod_eq_of_lt (by omega)]
  rw [IntKind.wrap_i64]; omega
set_option maxRecDepth 100000 in
set_option maxHeartbeats 1000000 in
theorem varint_Get (M : Nat → Prop) (v : Value) (bs : Hw.Bytes) (w : World) (h : RdB M w v bs) :
    Calls Tryd.prog 19 #[v] w (GetRet M (Hw.varGet bs) w) := by
  obtain ⟨A, c, rfl, h1, h2⟩ := h.len
  unfold maxLen at h2
  have H := Lib.hid h
  clear h
  go_enter Tryd.func19, Tryd.ntmps19
  go_wp2_with fail
  go_loop [5, 6] (fun t5 t6 => ∃ k u : Nat, t6 = .int .i64 k ∧ t5 = .int .u64 u ∧ GetRel bs k u) (fun _ k => (bs.length - intOf k).toNat)
  case atStart => exact ⟨0, 0, rfl, rfl, by omega, by omega, by decide, by simp [Hw.varGet]⟩
  case round =>
    obtain ⟨k, u, rfl, rfl, hr⟩ := hrel
    have hk9 := hr.2.1
    have HR := Lib.hid hr; clear hr
    by_cases hlt : k < bs.length
    · obtain ⟨b, o, c', hv, _, _, _, _, g4⟩ := H.out.at (by omega)
      cases hv
      have hc := g4 k _ (get_toNat bs k hlt)
      have hx := UInt8.toNat_lt bs[k]
      have hgo := get_go HR.out hlt
      have hnx := HR.out.next hlt
      have hor := get_or (u := u) hx hk9
      have hfit := get_fit (u := u) hx hk9
      have hu := HR.out.2.2.1
      generalize bs[k].toNat = x at *
      generalize hU : u + x % 128 * 2 ^ (7 * k) = U at *
      clear g4
      have ha := and127 hx
      by_cases hb : k = 9 ∧ 1 < x
      · rw [if_pos hb] at hgo
        have HG := Lib.hid hgo
        obtain ⟨rfl, hx1⟩ := hb
        clear hgo hnx hor hfit hU ha hu
        go_wp2_with fail
        go_ret3
        exact ⟨⟨0, rfl⟩, by rw [HG.out]; rfl⟩
      · rw [if_neg hb] at hgo
        have hor := hor hb hu
        have hfit := hfit hb hu
        have hU64 : U < 18446744073709551616 := by rw [← hU]; omega
        by_cases hge : 128 ≤ x
        · have hnx := hnx hb hge
          have HN := Lib.hid hnx
          have hk9' : k ≠ 9 := by omega
          have hk9'' : ((k : Int) == 9) = false := by simp; omega
          clear hnx hU hgo hfit hb hu
          go_wp2_with fail
          go_round
          case rel => exact ⟨k + 1, U, by go_num, rfl, HN.out⟩
          case measure => simp [intOf]; omega
        · rw [if_neg hge] at hgo
          have h9 : k = 9 → x ≤ 1 := by omega
          clear hnx hU hfit hb hu
          have h1b := and1_64 hU64
          have HGO := Lib.hid hgo; clear hgo
          have hkc : ∃ (d : Bool), (((k : Int) == 9) = d) ∧ (d = true → x ≤ 1) := ⟨_, rfl, fun h => h9 (by simp at h; omega)⟩
          obtain ⟨d, hd9, hdx⟩ := hkc
          clear h9
          by_cases h0 : 0 < k ∧ x = 0
          · obtain ⟨h0k, rfl⟩ := h0
            cases d
            all_goals
              go_wp2_with fail
              go_ret3
              exact ⟨⟨0, rfl⟩, by rw [HGO.out, if_pos (by simp [h0k])]; rfl⟩
          · have hkx : k = 0 ∨ x ≠ 0 := by omega
            have hpp : ∃ (p : Bool), (((U : Int) % 2 == 1) = p) ∧ p = decide (U % 2 = 1) := ⟨_, rfl, by rw [Bool.eq_iff_iff]; simp; omega⟩
            obtain ⟨p, hp, hpU⟩ := hpp
            have HPU := Lib.hid hpU; clear hpU
            have hfr := RdB.from H.out (k + 1) (by omega)
            have hwk : IntKind.i64.wrap ((k : Int) + 1) = (k : Int) + 1 := by rw [IntKind.wrap_i64]; omega
            have hnot := not_i64 hU64
            by_cases hck : c = k + 1
            · rw [if_pos hck] at hfr
              have HF := Lib.hid hfr; clear hfr
              cases p
              all_goals
                cases d
                case' true => have hx1 := hdx rfl
                all_goals
                  clear hdx
                  go_wp2_with fail
                  all_goals
                    go_quiet (fail)
                    go_wp2_with fail
                    go_ret3
                    exact get_end HGO.out (by omega) HPU.out (by have h := HF.out; rw [hck, Nat.sub_self] at h; exact h) (by simp [*])
            · rw [if_neg hck] at hfr
              simp only [Option.map_some, Addr.add_lit] at hfr
              have HF := Lib.hid hfr; clear hfr
              cases p
              all_goals
                cases d
                case' true => have hx1 := hdx rfl
                all_goals
                  clear hdx
                  go_wp2_with fail
                  all_goals
                    go_quiet (fail)
                    go_wp2_with fail
                    go_ret3
                    exact get_end HGO.out (by omega) HPU.out HF.out (by simp [*])
    · have hd : bs.drop k = [] := List.drop_eq_nil_of_le (by omega)
      have hg := HR.out.2.2.2
      rw [hd] at hg
      have HG := Lib.hid hg
      clear hg hd
      go_wp2_with fail
      go_ret3
      exact ⟨⟨0, rfl⟩, by rw [HG.out]; rfl⟩
end Go.Proofs.YtihncdlbbhmglaaDoor

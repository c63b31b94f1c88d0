/- Joined texts of own work. Conditions: as each theorem states them. -/
import Derived.Test.YtcnegcjjeakmmaaDoorGA
namespace Go.Proofs.YtcnegcjjeakmmaaDoor.Vm
open Go Go.RowKit
set_option linter.unusedVariables false
set_option linter.unusedSimpArgs false
set_option maxRecDepth 10000
/-- the number of so many bytes at a place -/
def gt (b : List Int) (i k : Nat) : Int := ge ((b.drop i).take k)
theorem gt_range {b : List Int} (hb : By b) (i k : Nat) : 0 ≤ gt b i k ∧ gt b i k < 256 ^ k := by
  have h1 := ge_lt ((hb.drop i).take k)
  refine ⟨ge_nonneg ((hb.drop i).take k), Int.lt_of_lt_of_le h1 ?_⟩
  have : 256 ^ ((b.drop i).take k).length ≤ 256 ^ k := Nat.pow_le_pow_right (by decide) (by rw [List.length_take]; omega)
  have h2 : (((256 ^ ((b.drop i).take k).length : Nat)) : Int) ≤ ((256 ^ k : Nat) : Int) := Int.ofNat_le.2 this
  simpa using h2
theorem gt2 {b : List Int} (hb : By b) (i : Nat) : 0 ≤ gt b i 2 ∧ gt b i 2 < 65536 := gt_range hb i 2
theorem gt4 {b : List Int} (hb : By b) (i : Nat) : 0 ≤ gt b i 4 ∧ gt b i 4 < 4294967296 := gt_range hb i 4
theorem gt8 {b : List Int} (hb : By b) (i : Nat) : 0 ≤ gt b i 8 ∧ gt b i 8 < 18446744073709551616 := gt_range hb i 8
theorem cut_is (b : List Int) (i k : Nat) : List.drop i (List.take (i + k) b) = (b.drop i).take k := by
  rw [List.drop_take, Nat.add_sub_cancel_left]
theorem bytes_ok {n : Nat} {b : List Int} (hl : b.length ≤ 1000000) {a k : Nat} (h : a + k ≤ b.length) : little_Reader_Bytes.f n ((b, (a : Int), false, ()), (k : Int), ()) = some ((b, ((a + k : Nat) : Int), false, ()), (b.drop a).take k, ()) := by
  have e1 : wr .i64 ((b.length : Int) - (a : Int)) = (b.length : Int) - a := wr64 (by omega) (by omega)
  have e2 : wr .i64 ((a : Int) + (k : Int)) = ((a + k : Nat) : Int) := by rw [wr64 (by omega) (by omega)]; omega
  have e3 : wr .i64 (((a + k : Nat) : Int) - (k : Int)) = (a : Int) := by rw [wr64 (by omega) (by omega)]; omega
  rw [little_Reader_Bytes.eq, if_neg (by decide), little_Reader_Left.eq, Option.bind_some, if_neg (show ¬ (k : Int) < 0 by omega)]
  simp only [e1, e2, e3]
  rw [if_neg (by simp; omega), if_pos (by omega), if_pos (by omega), if_pos (by omega), Int.toNat_natCast, Int.toNat_natCast, cut_is, clone_is n (by rw [List.length_take, List.length_drop]; omega), Option.bind_some]
theorem bytes_short {n : Nat} {b : List Int} (hl : b.length ≤ 1000000) {a k : Nat} (ha : a ≤ b.length) (hk : k ≤ 1000000) (h : b.length < a + k) : little_Reader_Bytes.f n ((b, (a : Int), false, ()), (k : Int), ()) = some ((b, (a : Int), true, ()), [], ()) := by
  have e1 : wr .i64 ((b.length : Int) - (a : Int)) = (b.length : Int) - a := wr64 (by omega) (by omega)
  rw [little_Reader_Bytes.eq, if_neg (by decide), little_Reader_Left.eq, Option.bind_some, if_neg (show ¬ (k : Int) < 0 by omega)]
  simp only [e1]
  rw [if_pos (by simp; omega)]
theorem bytes_sh (n : Nat) (b : List Int) (a k : Int) : little_Reader_Bytes.f n ((b, a, true, ()), k, ()) = some ((b, a, true, ()), [], ()) := by
  rw [little_Reader_Bytes.eq, if_pos rfl]
section
variable {n : Nat} (hn : 1000 ≤ n) {b : List Int} (hb : By b) (hl : b.length ≤ 1000000)
include hn hb hl
theorem num_ok {a k : Nat} (hk : k ≤ 8) (h : a + k ≤ b.length) : little_Reader_Num.f n ((b, (a : Int), false, ()), (k : Int), ()) = some ((b, ((a + k : Nat) : Int), false, ()), gt b a k, ()) := by
  rw [little_Reader_Num.eq, held_le _ (by omega) (by omega), Option.bind_some]
  show (little_Reader_Bytes.f n ((b, (a : Int), false, ()), (k : Int), ())).bind _ = _
  rw [bytes_ok hl h, Option.bind_some]
  show (little_Get.f n ((b.drop a).take k, ())).bind _ = _
  rw [get_is (by omega) ((hb.drop a).take k) (by rw [List.length_take]; omega), Option.bind_some]
  rfl
theorem num_any {a k : Nat} (s : Bool) (ha : a ≤ b.length) (hk : k ≤ 8) : ∃ (a' : Nat) (s' : Bool) (v : Int), little_Reader_Num.f n ((b, (a : Int), s, ()), (k : Int), ()) = some ((b, (a' : Int), s', ()), v, ()) ∧ a' ≤ b.length ∧ (s' = false → s = false ∧ a' = a + k) := by
  cases s with
  | true =>
    refine ⟨a, true, 0, ?_, ha, fun h => by cases h⟩
    rw [little_Reader_Num.eq, held_le _ (by omega) (by omega), Option.bind_some]
    show (little_Reader_Bytes.f n ((b, (a : Int), true, ()), (k : Int), ())).bind _ = _
    rw [bytes_sh, Option.bind_some]
    show (little_Get.f n ([], ())).bind _ = _
    rw [get_is (by omega) By.nil (by simp), Option.bind_some]
    rfl
  | false =>
    by_cases h : a + k ≤ b.length
    · exact ⟨a + k, false, _, num_ok hn hb hl hk h, h, fun _ => ⟨rfl, rfl⟩⟩
    · refine ⟨a, true, 0, ?_, ha, fun h => by cases h⟩
      rw [little_Reader_Num.eq, held_le _ (by omega) (by omega), Option.bind_some]
      show (little_Reader_Bytes.f n ((b, (a : Int), false, ()), (k : Int), ())).bind _ = _
      rw [bytes_short hl ha (by omega) (by omega), Option.bind_some]
      show (little_Get.f n ([], ())).bind _ = _
      rw [get_is (by omega) By.nil (by simp), Option.bind_some]
      rfl
theorem num_two {a : Nat} (h : a + 2 ≤ b.length) : little_Reader_Num.f n ((b, (a : Int), false, ()), 2, ()) = some ((b, ((a + 2 : Nat) : Int), false, ()), gt b a 2, ()) := num_ok hn hb hl (k := 2) (by decide) h
theorem num_four {a : Nat} (h : a + 4 ≤ b.length) : little_Reader_Num.f n ((b, (a : Int), false, ()), 4, ()) = some ((b, ((a + 4 : Nat) : Int), false, ()), gt b a 4, ()) := num_ok hn hb hl (k := 4) (by decide) h
theorem num_eight {a : Nat} (h : a + 8 ≤ b.length) : little_Reader_Num.f n ((b, (a : Int), false, ()), 8, ()) = some ((b, ((a + 8 : Nat) : Int), false, ()), gt b a 8, ()) := num_ok hn hb hl (k := 8) (by decide) h
end
end Go.Proofs.YtcnegcjjeakmmaaDoor.Vm

namespace Go.Proofs.YtcnegcjjeakmmaaDoor.Vm
open Go Go.RowKit
set_option linter.unusedVariables false
set_option linter.unusedSimpArgs false
set_option maxRecDepth 10000
def zS : Stm := (0, 0, 0, 0, 0, 0, ())
def zH : Hdr := (0, zS, 0, 0, 0, ByteArray.empty, ())
/-- how long the name is -/
def nlN (b : List Int) : Nat := (gt b 26 2).toNat
/-- the sizes, if they are told as they must be -/
def mrV (b : List Int) : Option (Int × Int) :=
  if gt b 28 2 = 0 then (if gt b 4 2 = 20 ∧ gt b 18 4 ≠ 4294967295 ∧ gt b 22 4 ≠ 4294967295 then some (gt b 18 4, gt b 22 4) else none)
  else if gt b 28 2 = 20 ∧ gt b 4 2 = 45 ∧ gt b 18 4 = 4294967295 ∧ gt b 22 4 = 4294967295 ∧ gt b (30 + nlN b) 2 = 1 ∧ gt b (32 + nlN b) 2 = 16 ∧ (4294967295 ≤ gt b (42 + nlN b) 8 ∨ 4294967295 ≤ gt b (34 + nlN b) 8) then some (gt b (42 + nlN b) 8, gt b (34 + nlN b) 8) else none
def nmB (b : List Int) : List Int := (b.drop 30).take (nlN b)
/-- the header that is told -/
def hdV (b : List Int) (p s : Int) : Hdr := (gt b 8 2, if StOk (unS (gt b 12 2) (gt b 10 2)) then unS (gt b 12 2) (gt b 10 2) else zS, gt b 14 4, p, s, strOf (nmB b), ())
def prV (n : Nat) (b : List Int) : Hdr × Int × Int × Unit :=
  if b.length < 4 ∨ gt b 0 4 ≠ 67324752 then (zH, 0, 44, ())
  else if b.length < 30 ∨ (b.length : Int) < 30 + gt b 26 2 + gt b 28 2 then (zH, 0, 20, ())
  else match mrV b with
    | none => (zH, 0, 21, ())
    | some (p, s) => if gt b 6 2 ≠ 2048 then (zH, 0, 21, ())
      else if chkV n (hdV b p s) = 43 then (zH, 0, 43, ())
      else if ¬ StOk (unS (gt b 12 2) (gt b 10 2)) then (zH, 0, 41, ())
      else if chkV n (hdV b p s) ≠ 0 then (zH, 0, chkV n (hdV b p s), ())
      else (hdV b p s, 30 + gt b 26 2 + gt b 28 2, 0, ())
section
variable {n : Nat} (hn : 1000 ≤ n) {b : List Int} (hb : By b) (hl : b.length ≤ 1000000)
include hn hb hl
/-- the ten numbers -/
def xsV (b : List Int) : Int × Int × Int × Int × Int × Int × Int × Int × Int × Int × Unit := (gt b 4 2, gt b 6 2, gt b 8 2, gt b 10 2, gt b 12 2, gt b 14 4, gt b 18 4, gt b 22 4, gt b 26 2, gt b 28 2, ())
end
end Go.Proofs.YtcnegcjjeakmmaaDoor.Vm

namespace Go.Proofs.YtcnegcjjeakmmaaDoor.Vm
open Go Go.RowKit
set_option linter.unusedVariables false
set_option linter.unusedSimpArgs false
set_option maxRecDepth 10000
theorem gt_at (A : List Int) (k : Nat) (x : Int) (R : List Int) (h0 : 0 ≤ x) (h1 : x < 256 ^ k) : gt (A ++ (le k x ++ R)) A.length k = x := by
  unfold gt
  rw [List.drop_left, List.take_left' (le_len k x), ge_le k h0 h1]
theorem gt_field {L pre post : List (Nat × Int)} {k : Nat} {x : Int} {R : List Int} {i : Nat} (hL : L = pre ++ (k, x) :: post) (hi : i = (les pre).length) (h0 : 0 ≤ x) (h1 : x < 256 ^ k) : gt (les L ++ R) i k = x := by
  subst hL; subst hi
  rw [les_append]
  show gt (les pre ++ (le k x ++ les post) ++ R) _ _ = _
  rw [List.append_assoc, List.append_assoc]
  exact gt_at _ _ _ _ h0 h1
theorem gt_skip (A B : List Int) (i k : Nat) : gt (A ++ B) (A.length + i) k = gt B i k := by
  unfold gt
  rw [List.drop_append, List.drop_eq_nil_of_le (by omega), List.nil_append, Nat.add_sub_cancel_left]
theorem gt_take (b : List Int) (c i k : Nat) (h : i + k ≤ c) : gt (b.take c) i k = gt b i k := by
  unfold gt
  rw [List.drop_take, List.take_take, Nat.min_eq_left (by omega)]
theorem u8_nat (b : UInt8) : UInt8.ofNat ((b.toNat : Int)).toNat = b := by
  rw [Int.toNat_natCast]; exact UInt8.ofNat_toNat
theorem str_bytes (s : ByteArray) : strOf (sbytes s) = s := by
  unfold strOf sbytes
  rw [List.map_map]
  have : (s.data.toList.map ((fun x : Int => UInt8.ofNat x.toNat) ∘ fun b => (b.toNat : Int))) = s.data.toList := by
    conv => rhs; rw [← List.map_id s.data.toList]
    exact List.map_congr_left (fun b _ => u8_nat b)
  rw [this]
theorem bytes_str {l : List Int} (h : By l) : sbytes (strOf l) = l := by
  unfold strOf sbytes
  rw [show (List.map (fun n : Int => UInt8.ofNat n.toNat) l).toArray.toList = List.map (fun n : Int => UInt8.ofNat n.toNat) l from rfl, List.map_map]
  conv => rhs; rw [← List.map_id l]
  refine List.map_congr_left (fun x hx => ?_)
  have := h x hx
  show ((UInt8.ofNat x.toNat).toNat : Int) = x
  rw [UInt8.toNat_ofNat', show x.toNat % 2 ^ 8 = x.toNat by omega]
  omega
theorem str_size (l : List Int) : (strOf l).size = l.length := by
  unfold strOf
  show (List.map _ l).toArray.size = _
  simp
def hdL (v m t d su p z nl ex : Int) : List (Nat × Int) := [(4, 67324752), (2, v), (2, 2048), (2, m), (2, t), (2, d), (4, su), (4, p), (4, z), (2, nl), (2, ex)]
structure HL (v m t d su p z nl ex : Int) : Prop where
  v : 0 ≤ v ∧ v < 65536
  m : 0 ≤ m ∧ m < 65536
  t : 0 ≤ t ∧ t < 65536
  d : 0 ≤ d ∧ d < 65536
  su : 0 ≤ su ∧ su < 4294967296
  p : 0 ≤ p ∧ p < 4294967296
  z : 0 ≤ z ∧ z < 4294967296
  nl : 0 ≤ nl ∧ nl < 65536
  ex : 0 ≤ ex ∧ ex < 65536
section
variable {v m t d su p z nl ex : Int} (h : HL v m t d su p z nl ex) (R : List Int)
include h
theorem f0 : gt (les (hdL v m t d su p z nl ex) ++ R) 0 4 = 67324752 := by have := h.v; exact gt_field (pre := []) rfl rfl (by decide) (by decide)
theorem f4 : gt (les (hdL v m t d su p z nl ex) ++ R) 4 2 = v := gt_field (pre := [(4, 67324752)]) rfl rfl h.v.1 h.v.2
theorem f6 : gt (les (hdL v m t d su p z nl ex) ++ R) 6 2 = 2048 := by have := h.v; exact gt_field (pre := [(4, 67324752), (2, v)]) rfl rfl (by decide) (by decide)
theorem f8 : gt (les (hdL v m t d su p z nl ex) ++ R) 8 2 = m := gt_field (pre := [(4, 67324752), (2, v), (2, 2048)]) rfl rfl h.m.1 h.m.2
theorem f10 : gt (les (hdL v m t d su p z nl ex) ++ R) 10 2 = t := gt_field (pre := [(4, 67324752), (2, v), (2, 2048), (2, m)]) rfl rfl h.t.1 h.t.2
theorem f12 : gt (les (hdL v m t d su p z nl ex) ++ R) 12 2 = d := gt_field (pre := [(4, 67324752), (2, v), (2, 2048), (2, m), (2, t)]) rfl rfl h.d.1 h.d.2
theorem f14 : gt (les (hdL v m t d su p z nl ex) ++ R) 14 4 = su := gt_field (pre := [(4, 67324752), (2, v), (2, 2048), (2, m), (2, t), (2, d)]) rfl rfl h.su.1 h.su.2
theorem f18 : gt (les (hdL v m t d su p z nl ex) ++ R) 18 4 = p := gt_field (pre := [(4, 67324752), (2, v), (2, 2048), (2, m), (2, t), (2, d), (4, su)]) rfl rfl h.p.1 h.p.2
theorem f22 : gt (les (hdL v m t d su p z nl ex) ++ R) 22 4 = z := gt_field (pre := [(4, 67324752), (2, v), (2, 2048), (2, m), (2, t), (2, d), (4, su), (4, p)]) rfl rfl h.z.1 h.z.2
theorem f26 : gt (les (hdL v m t d su p z nl ex) ++ R) 26 2 = nl := gt_field (pre := [(4, 67324752), (2, v), (2, 2048), (2, m), (2, t), (2, d), (4, su), (4, p), (4, z)]) rfl rfl h.nl.1 h.nl.2
theorem f28 : gt (les (hdL v m t d su p z nl ex) ++ R) 28 2 = ex := gt_field (pre := [(4, 67324752), (2, v), (2, 2048), (2, m), (2, t), (2, d), (4, su), (4, p), (4, z), (2, nl)]) rfl rfl h.ex.1 h.ex.2
end
theorem hdL_len (v m t d su p z nl ex : Int) : (les (hdL v m t d su p z nl ex)).length = 30 := rfl
theorem ne_err {h h' : Hdr} {k k' e : Int} (he : e ≠ 0) (hh : ((h, k, e, ()) : Hdr × Int × Int × Unit) = (h', k', 0, ())) : False := he (congrArg (fun x => x.2.2.1) hh)
/-- What is written is parsed as it, whatever stands behind. -/
theorem parse_write {n : Nat} (h : Hdr) (hk : HdOk h) (hc : chkV n h = 0) (R : List Int) : prV n (wB h ++ R) = (h, ((wB h).length : Int), 0, ()) := by
  obtain ⟨h1, h2, h3, h4, h5⟩ := chk_zero hc
  obtain ⟨p1, p2, p3, p4, p5⟩ := h2.nums
  obtain ⟨v, p, z, ex, hN, hv⟩ : ∃ v p z ex : Int, hdN h = hdL v h.1 (timeN h.2.1) (dateN h.2.1) h.2.2.1 p z (h.2.2.2.2.2.1.size : Int) ex ∧ ((grt h ∧ v = 45 ∧ p = 4294967295 ∧ z = 4294967295 ∧ ex = 20) ∨ (¬ grt h ∧ v = 20 ∧ p = h.2.2.2.1 ∧ z = h.2.2.2.2.1 ∧ ex = 0)) := by
    unfold hdN
    by_cases hg : grt h
    · rw [if_pos hg]; exact ⟨_, _, _, _, rfl, .inl ⟨hg, rfl, rfl, rfl, rfl⟩⟩
    · rw [if_neg hg]; exact ⟨_, _, _, _, rfl, .inr ⟨hg, rfl, rfl, rfl, rfl⟩⟩
  have hng : ¬ grt h → h.2.2.2.1 < 4294967295 ∧ h.2.2.2.2.1 < 4294967295 := fun hg => by unfold grt at hg; omega
  have hL : HL v h.1 (timeN h.2.1) (dateN h.2.1) h.2.2.1 p z (h.2.2.2.2.2.1.size : Int) ex := by
    have k1 := hk.pk
    have k2 := hk.sz
    refine ⟨?_, by omega, ⟨p3, p4⟩, ⟨p1, p2⟩, hk.sum, ?_, ?_, by omega, ?_⟩ <;> rcases hv with ⟨hg, rfl, rfl, rfl, rfl⟩ | ⟨hg, rfl, rfl, rfl, rfl⟩ <;> first | (constructor <;> decide) | (have := hng hg; omega)
  have hw : wB h ++ R = les (hdL v h.1 (timeN h.2.1) (dateN h.2.1) h.2.2.1 p z (h.2.2.2.2.2.1.size : Int) ex) ++ (sbytes h.2.2.2.2.2.1 ++ mrB h ++ R) := by
    unfold wB; rw [hN, List.append_assoc, List.append_assoc]
  have hlen := wB_len h
  have g0 := f0 hL (sbytes h.2.2.2.2.2.1 ++ mrB h ++ R)
  have g4 := f4 hL (sbytes h.2.2.2.2.2.1 ++ mrB h ++ R)
  have g6 := f6 hL (sbytes h.2.2.2.2.2.1 ++ mrB h ++ R)
  have g8 := f8 hL (sbytes h.2.2.2.2.2.1 ++ mrB h ++ R)
  have g10 := f10 hL (sbytes h.2.2.2.2.2.1 ++ mrB h ++ R)
  have g12 := f12 hL (sbytes h.2.2.2.2.2.1 ++ mrB h ++ R)
  have g14 := f14 hL (sbytes h.2.2.2.2.2.1 ++ mrB h ++ R)
  have g18 := f18 hL (sbytes h.2.2.2.2.2.1 ++ mrB h ++ R)
  have g22 := f22 hL (sbytes h.2.2.2.2.2.1 ++ mrB h ++ R)
  have g26 := f26 hL (sbytes h.2.2.2.2.2.1 ++ mrB h ++ R)
  have g28 := f28 hL (sbytes h.2.2.2.2.2.1 ++ mrB h ++ R)
  rw [← hw] at g0 g4 g6 g8 g10 g12 g14 g18 g22 g26 g28
  have hl : (wB h ++ R).length = (wB h).length + R.length := List.length_append
  have hex : ex = if grt h then 20 else 0 := by
    rcases hv with ⟨hg, _, _, _, e⟩ | ⟨hg, _, _, _, e⟩
    · rw [if_pos hg, e]
    · rw [if_neg hg, e]
  have hlen2 : ((wB h).length : Int) = 30 + (h.2.2.2.2.2.1.size : Int) + ex := by rw [hlen, hex]; split <;> omega
  have hex0 := hL.ex.1
  have hnl : nlN (wB h ++ R) = h.2.2.2.2.2.1.size := by unfold nlN; rw [g26]; omega
  have hnm : nmB (wB h ++ R) = sbytes h.2.2.2.2.2.1 := by
    unfold nmB
    rw [hnl, hw, List.drop_left' (hdL_len ..), List.append_assoc, List.take_left' (sbytes_len _)]
  have hmr : mrV (wB h ++ R) = some (h.2.2.2.1, h.2.2.2.2.1) := by
    unfold mrV
    rw [g28, g4, g18, g22, hnl]
    rcases hv with ⟨hg, e1, e2, e3, e4⟩ | ⟨hg, e1, e2, e3, e4⟩
    · rw [e4, if_neg (by decide)]
      have hw2 : wB h ++ R = (les (hdN h) ++ sbytes h.2.2.2.2.2.1) ++ (les [(2, 1), (2, 16), (8, h.2.2.2.2.1), (8, h.2.2.2.1)] ++ R) := by
        unfold wB mrB; rw [if_pos hg]; simp only [List.append_assoc]
      have hAl : (les (hdN h) ++ sbytes h.2.2.2.2.2.1).length = 30 + h.2.2.2.2.2.1.size := by rw [List.length_append, hdN_len, sbytes_len]
      have sk : ∀ i k, gt (wB h ++ R) (30 + h.2.2.2.2.2.1.size + i) k = gt (les [(2, 1), (2, 16), (8, h.2.2.2.2.1), (8, h.2.2.2.1)] ++ R) i k := fun i k => by
        rw [hw2, ← hAl]; exact gt_skip _ _ i k
      have q1 := (sk 0 2).trans (gt_field (pre := []) (x := 1) rfl rfl (by decide) (by decide))
      have q2 := (sk 2 2).trans (gt_field (pre := [(2, 1)]) (x := 16) rfl rfl (by decide) (by decide))
      have q3 := (sk 4 8).trans (gt_field (pre := [(2, 1), (2, 16)]) (x := h.2.2.2.2.1) rfl rfl hk.sz.1 hk.sz.2)
      have q4 := (sk 12 8).trans (gt_field (pre := [(2, 1), (2, 16), (8, h.2.2.2.2.1)]) (x := h.2.2.2.1) rfl rfl hk.pk.1 hk.pk.2)
      rw [show 30 + h.2.2.2.2.2.1.size + 0 = 30 + h.2.2.2.2.2.1.size by omega] at q1
      rw [show 30 + h.2.2.2.2.2.1.size + 2 = 32 + h.2.2.2.2.2.1.size by omega] at q2
      rw [show 30 + h.2.2.2.2.2.1.size + 4 = 34 + h.2.2.2.2.2.1.size by omega] at q3
      rw [show 30 + h.2.2.2.2.2.1.size + 12 = 42 + h.2.2.2.2.2.1.size by omega] at q4
      rw [q1, q2, q3, q4, if_pos ⟨rfl, e1, e2, e3, rfl, rfl, hg⟩]
    · have := hng hg
      rw [e4, if_pos rfl, if_pos ⟨e1, by omega, by omega⟩, e2, e3]
  have hu : unS (gt (wB h ++ R) 12 2) (gt (wB h ++ R) 10 2) = h.2.1 := by rw [g12, g10]; exact p5
  have hh : hdV (wB h ++ R) h.2.2.2.1 h.2.2.2.2.1 = h := by
    unfold hdV
    rw [hu, if_pos h2, g8, g14, hnm, str_bytes]
  unfold prV
  rw [if_neg (by rw [g0]; omega), if_neg (by rw [g26, g28]; omega), hmr]
  dsimp only
  rw [if_neg (by rw [g6]; decide), hh, hu, if_neg (by rw [hc]; decide), if_neg (not_not_intro h2), if_neg (not_not_intro hc), g26, g28, ← hlen2]
/-- Fewer bytes are no header. -/
theorem parse_cut {n : Nat} (h : Hdr) (hk : HdOk h) (hc : chkV n h = 0) (c : Nat) (hcl : c < (wB h).length) : (prV n ((wB h).take c)).2.2.1 = 20 ∨ (c < 4 ∧ (prV n ((wB h).take c)).2.2.1 = 44) := by
  have hw := parse_write h hk hc []
  rw [List.append_nil] at hw
  have hl : ((wB h).take c).length = c := by rw [List.length_take]; omega
  by_cases h4 : c < 4
  · refine .inr ⟨h4, ?_⟩
    unfold prV
    rw [if_pos (.inl (by omega))]
  · refine .inl ?_
    unfold prV at hw ⊢
    rw [hl]
    have hlen := wB_len h
    have e0 := gt_take (wB h) c 0 4 (by omega)
    by_cases hs : gt (wB h) 0 4 = 67324752
    · rw [if_neg (by rw [e0]; omega)]
      rw [if_neg (by omega)] at hw
      by_cases h30 : c < 30
      · rw [if_pos (.inl h30)]
      · rw [gt_take _ c 26 2 (by omega), gt_take _ c 28 2 (by omega)]
        suffices hlt : (c : Int) < 30 + gt (wB h) 26 2 + gt (wB h) 28 2 by rw [if_pos (.inr hlt)]
        by_cases hle : ((wB h).length : Int) < 30 + gt (wB h) 26 2 + gt (wB h) 28 2
        · omega
        · rw [if_neg (by omega)] at hw
          split at hw
          · exact (ne_err (by decide) hw).elim
          · split at hw
            · exact (ne_err (by decide) hw).elim
            · split at hw
              · exact (ne_err (by decide) hw).elim
              · split at hw
                · exact (ne_err (by decide) hw).elim
                · split at hw
                  · rename_i hne; exact absurd (congrArg (fun x => x.2.2.1) hw) hne
                  · have : 30 + gt (wB h) 26 2 + gt (wB h) 28 2 = ((wB h).length : Int) := congrArg (fun x => x.2.1) hw
                    omega
    · rw [if_pos (.inr hs)] at hw
      exact (ne_err (by decide) hw).elim
/-- bytes as numbers, one behind the other -/
def flds (b : List Int) : Nat → List Nat → List (Nat × Int)
  | _, [] => []
  | i, k :: ks => (k, gt b i k) :: flds b (i + k) ks
theorem flds_is {b : List Int} (hb : By b) : ∀ (ks : List Nat) (i : Nat), i + ks.sum ≤ b.length → les (flds b i ks) = (b.drop i).take ks.sum
  | [], i, _ => by simp [flds, les]
  | k :: ks, i, h => by
    rw [List.sum_cons] at h
    have hlen : ((b.drop i).take k).length = k := by rw [List.length_take, List.length_drop]; omega
    have h1 := le_ge ((hb.drop i).take k)
    rw [hlen] at h1
    show le k (gt b i k) ++ les (flds b (i + k) ks) = _
    rw [flds_is hb ks (i + k) (by omega), List.sum_cons, List.take_add, List.drop_drop]
    exact congrArg (· ++ _) h1
/-- What is parsed, and written, is these bytes again. -/
theorem write_parse {n : Nat} {b : List Int} (hb : By b) (hl : b.length ≤ 1000000) {h : Hdr} {k : Int} (hp : prV n b = (h, k, 0, ())) : chkV n h = 0 ∧ HdOk h ∧ 0 ≤ k ∧ k ≤ b.length ∧ wB h = b.take k.toNat := by
  unfold prV at hp
  split at hp
  · exact (ne_err (by decide) hp).elim
  · rename_i c1
    split at hp
    · exact (ne_err (by decide) hp).elim
    · rename_i c2
      split at hp
      · exact (ne_err (by decide) hp).elim
      · rename_i p s hm
        split at hp
        · exact (ne_err (by decide) hp).elim
        · rename_i c3
          split at hp
          · exact (ne_err (by decide) hp).elim
          · split at hp
            · exact (ne_err (by decide) hp).elim
            · rename_i c5
              split at hp
              · rename_i c6; exact absurd (congrArg (fun x => x.2.2.1) hp) c6
              · rename_i c6
                have c6 : chkV n (hdV b p s) = 0 := Decidable.of_not_not c6
                have c5 : StOk (unS (gt b 12 2) (gt b 10 2)) := Decidable.of_not_not c5
                have c3 : gt b 6 2 = 2048 := Decidable.of_not_not c3
                have c0 : gt b 0 4 = 67324752 := Decidable.of_not_not fun e => c1 (.inr e)
                have eh : hdV b p s = h := congrArg (fun x => x.1) hp
                have ek : 30 + gt b 26 2 + gt b 28 2 = k := congrArg (fun x => x.2.1) hp
                have r26 := gt2 hb 26
                have r28 := gt2 hb 28
                have r14 := gt4 hb 14
                have hN : (nlN b : Int) = gt b 26 2 := by unfold nlN; omega
                have r18 := gt4 hb 18
                have r22 := gt4 hb 22
                have hT : (hdV b p s).2.1 = unS (gt b 12 2) (gt b 10 2) := if_pos c5
                obtain ⟨u1, u2⟩ := un_nums (gt2 hb 12).1 (gt2 hb 12).2 (gt2 hb 10).1 (gt2 hb 10).2
                have hnl : (nmB b).length = nlN b := by unfold nmB; rw [List.length_take, List.length_drop]; omega
                have hnb : By (nmB b) := (hb.drop 30).take _
                have hsz : ((hdV b p s).2.2.2.2.2.1.size : Int) = gt b 26 2 := by show ((strOf (nmB b)).size : Int) = _; rw [str_size, hnl, hN]
                have hsb : sbytes (hdV b p s).2.2.2.2.2.1 = nmB b := bytes_str hnb
                have e30 := flds_is hb [4, 2, 2, 2, 2, 2, 4, 4, 4, 2, 2] 0 (by show 0 + 30 ≤ b.length; omega)
                have e30' : les [(4, gt b 0 4), (2, gt b 4 2), (2, gt b 6 2), (2, gt b 8 2), (2, gt b 10 2), (2, gt b 12 2), (4, gt b 14 4), (4, gt b 18 4), (4, gt b 22 4), (2, gt b 26 2), (2, gt b 28 2)] = b.take 30 := e30
                subst eh
                refine ⟨c6, ?_, by omega, by omega, ?_⟩
                · have r1 := gt8 hb (42 + nlN b)
                  have r2 := gt8 hb (34 + nlN b)
                  have : (0 ≤ p ∧ p < 18446744073709551616) ∧ (0 ≤ s ∧ s < 18446744073709551616) := by
                    unfold mrV at hm
                    split at hm
                    · split at hm
                      · cases hm; omega
                      · cases hm
                    · split at hm
                      · cases hm; exact ⟨r1, r2⟩
                      · cases hm
                  exact ⟨r14, this.1, this.2⟩
                · unfold wB
                  rw [hsb]
                  unfold mrV at hm
                  split at hm
                  · rename_i x0
                    split at hm
                    · rename_i x1
                      cases hm
                      have hg : ¬ grt (hdV b (gt b 18 4) (gt b 22 4)) := by
                        show ¬ (4294967295 ≤ gt b 18 4 ∨ 4294967295 ≤ gt b 22 4)
                        omega
                      unfold hdN mrB
                      rw [if_neg hg, if_neg hg, hsz, hT, u1, u2]
                      rw [c0, c3, x0, x1.1] at e30'
                      refine (congrArg (· ++ (nmB b ++ [])) e30').trans ?_
                      show b.take 30 ++ (nmB b ++ []) = _
                      rw [List.append_nil, show k.toNat = 30 + nlN b by omega, List.take_add]
                      rfl
                    · cases hm
                  · split at hm
                    · rename_i x0 x1
                      cases hm
                      obtain ⟨y1, y2, y3, y4, y5, y6, y7⟩ := x1
                      have hg : grt (hdV b (gt b (42 + nlN b) 8) (gt b (34 + nlN b) 8)) := y7
                      have e20 := flds_is hb [2, 2, 8, 8] (30 + nlN b) (by show 30 + nlN b + 20 ≤ b.length; omega)
                      have e20' : les [(2, gt b (30 + nlN b) 2), (2, gt b (30 + nlN b + 2) 2), (8, gt b (30 + nlN b + 2 + 2) 8), (8, gt b (30 + nlN b + 2 + 2 + 8) 8)] = (b.drop (30 + nlN b)).take 20 := e20
                      rw [show 30 + nlN b + 2 = 32 + nlN b by omega, show 32 + nlN b + 2 = 34 + nlN b by omega, show 34 + nlN b + 8 = 42 + nlN b by omega, y5, y6] at e20'
                      unfold hdN mrB
                      rw [if_pos hg, if_pos hg, hsz, hT, u1, u2]
                      rw [c0, c3, y1, y2, y3, y4] at e30'
                      refine (congrArg (· ++ (nmB b ++ _)) e30').trans ?_
                      show b.take 30 ++ (nmB b ++ les [(2, 1), (2, 16), (8, gt b (34 + nlN b) 8), (8, gt b (42 + nlN b) 8)]) = _
                      rw [e20', show k.toNat = 30 + nlN b + 20 by omega, List.take_add, List.take_add, List.append_assoc]
                      rfl
                    · cases hm
/-- If nothing is told, nothing is. -/
theorem parse_none {n : Nat} {b : List Int} (hp : (prV n b).2.2.1 ≠ 0) : (prV n b).1 = zH ∧ (prV n b).2.1 = 0 := by
  unfold prV at hp ⊢
  repeat' split
  all_goals first | exact ⟨rfl, rfl⟩ | skip
  all_goals simp_all
end Go.Proofs.YtcnegcjjeakmmaaDoor.Vm

namespace Go.Proofs.YtcnegcjjeakmmaaDoor.Vm
open Go Go.RowKit
set_option linter.unusedVariables false
set_option linter.unusedSimpArgs false
set_option maxRecDepth 100000
def Ki.noL : Ki → Bool
  | .list _ => false
  | .arr _ _ => false
  | .ref _ => false
  | .nl _ => false
  | .pair a b => a.noL && b.noL
  | _ => true
theorem toList_inj {a b : ByteArray} (h : a.toList = b.toList) : a = b := by
  rw [ByteArray.toList_eq, ByteArray.toList_eq] at h
  cases a; cases b
  congr 1
  exact Array.toList_inj.1 h
theorem eqB_iff : ∀ {k : Ki}, k.noL = true → ∀ x y : k.den, Ki.eqB k x y = true ↔ x = y
  | .int _, _, x, y => by show ((x : Int) == y) = true ↔ _; exact beq_iff_eq
  | .bool, _, x, y => by show ((x : Bool) == y) = true ↔ _; exact beq_iff_eq
  | .str, _, x, y => by
    show ((x : ByteArray).toList == (y : ByteArray).toList) = true ↔ _
    rw [beq_iff_eq]
    exact ⟨toList_inj, fun h => by rw [h]⟩
  | .unit, _, x, y => ⟨fun _ => rfl, fun _ => rfl⟩
  | .pair a b, h, x, y => by
    have h' : (a.noL && b.noL) = true := h
    rw [Bool.and_eq_true] at h'
    show (a.eqB x.1 y.1 && b.eqB x.2 y.2) = true ↔ x = y
    rw [Bool.and_eq_true, eqB_iff h'.1, eqB_iff h'.2]
    exact ⟨fun h => Prod.ext h.1 h.2, fun h => by rw [h]; exact ⟨rfl, rfl⟩⟩
theorem band1023 (x : Int) : 0 ≤ band .i64 x 1023 ∧ band .i64 x 1023 ≤ 1023 := by
  show 0 ≤ wr .i64 ((BitVec.ofInt 64 x &&& BitVec.ofInt 64 1023).toNat : Int) ∧ wr .i64 ((BitVec.ofInt 64 x &&& BitVec.ofInt 64 1023).toNat : Int) ≤ 1023
  have h : (BitVec.ofInt 64 x &&& BitVec.ofInt 64 1023).toNat ≤ 1023 := by
    rw [BitVec.toNat_and]
    exact Nat.and_le_right
  rw [wr64 (by omega) (by omega)]
  omega
end Go.Proofs.YtcnegcjjeakmmaaDoor.Vm

namespace Go.Proofs.YtcnegcjjeakmmaaDoor.Vm
open Go Go.RowKit
set_option linter.unusedVariables false
set_option linter.unusedSimpArgs false
set_option maxRecDepth 100000
@[reducible] def HK : Ki := .pair (.int .i64) (.pair (.pair (.int .i64) (.pair (.int .i64) (.pair (.int .i64) (.pair (.int .i64) (.pair (.int .i64) (.pair (.int .i64) .unit)))))) (.pair (.int .u32) (.pair (.int .u64) (.pair (.int .u64) (.pair .str .unit)))))
theorem HK_iff (x y : Hdr) : Ki.eqB HK x y = true ↔ x = y := eqB_iff (k := HK) rfl x y
theorem mid_is (h : Hdr) : List.drop 6 (List.take 14 (wB h)) = les [(2, 2048), (2, h.1), (2, timeN h.2.1), (2, dateN h.2.1)] := by
  unfold wB hdN
  split <;> rfl
theorem nm_is (h : Hdr) : List.drop 30 (List.take (30 + h.2.2.2.2.2.1.size) (wB h)) = sbytes h.2.2.2.2.2.1 := by
  rw [cut_is]
  unfold wB
  rw [List.drop_left' (hdN_len h), List.take_left' (sbytes_len _)]
theorem sizes_tail (L : Int) (g : Hdr) (x : List Int) (hL : L = 30 + (g.2.2.2.2.2.1.size : Int) + (if grt g then 20 else 0)) (hs : g.2.2.2.2.2.1.size ≤ 300) (hx : 30 ≤ x.length) (hm : List.drop 6 (List.take 14 x) = List.drop 6 (List.take 14 (wB g))) :
    (if (((wB g).length : Int) == L) = true then (local_Size.f 1000 (g, ())).bind (fun y18 => (if (y18.1 == L) = true then (if 0 ≤ (6 : Int) then (if (6 : Int) ≤ (14 : Int) then (if (14 : Int) ≤ (((List.length x) : Nat) : Int) then (if 0 ≤ (6 : Int) then (if (6 : Int) ≤ (14 : Int) then (if (14 : Int) ≤ (((List.length (wB g)) : Nat) : Int) then (ref01_Same.f 1000 ((List.drop (Int.toNat (6 : Int)) (List.take (Int.toNat (14 : Int)) x)), (List.drop (Int.toNat (6 : Int)) (List.take (Int.toNat (14 : Int)) (wB g))), ())).bind (fun y19 => (if y19.1 = true then (if 0 ≤ (30 : Int) then (if (30 : Int) ≤ (wr IntKind.i64 ((30 : Int) + ((ByteArray.size g.2.2.2.2.2.1 : Nat) : Int))) then (if (wr IntKind.i64 ((30 : Int) + ((ByteArray.size g.2.2.2.2.2.1 : Nat) : Int))) ≤ (((List.length (wB g)) : Nat) : Int) then (some ((ByteArray.toList (strOf (List.drop (Int.toNat (30 : Int)) (List.take (Int.toNat (wr IntKind.i64 ((30 : Int) + ((ByteArray.size g.2.2.2.2.2.1 : Nat) : Int)))) (wB g)))) == ByteArray.toList g.2.2.2.2.2.1), ())) else none) else none) else none) else (some (false, ())))) else none) else none) else none) else none) else none) else none) else (some (false, ())))) else (some (false, ()))) = some (true, ()) := by
  have hl := wB_len g
  have hl' : ((wB g).length : Int) = L := by rw [hL, hl]; split <;> omega
  have hl2 : 30 + g.2.2.2.2.2.1.size ≤ (wB g).length := by rw [hl]; omega
  have e2 : wr .i64 ((30 : Int) + (g.2.2.2.2.2.1.size : Int)) = ((30 + g.2.2.2.2.2.1.size : Nat) : Int) := by rw [wr64 (by omega) (by omega)]; omega
  rw [if_pos (by simp [hl']), lsize_is 1000 g (by omega), Option.bind_some, ← hL, if_pos (by simp), if_pos (by decide), if_pos (by decide), if_pos (by omega), if_pos (by decide), if_pos (by decide), if_pos (by omega)]
  rw [show (Int.toNat (6 : Int)) = 6 from rfl, show (Int.toNat (14 : Int)) = 14 from rfl, hm, mid_is, same_is (by show 8 < 1000; decide) (by decide), Option.bind_some, if_pos (decide_eq_true rfl), if_pos (by decide), e2, if_pos (by omega), if_pos (by omega), Int.toNat_natCast, show (Int.toNat (30 : Int)) = 30 from rfl, nm_is, str_bytes]
  simp
end Go.Proofs.YtcnegcjjeakmmaaDoor.Vm

namespace Go.Proofs.YtcnegcjjeakmmaaDoor.Vm
open Go Go.RowKit
set_option linter.unusedVariables false
set_option linter.unusedSimpArgs false
set_option maxRecDepth 100000
theorem wf_of {k : IntKind} {x : Int} (h : (Lit.int k x).wf = true) : k.min ≤ x ∧ x ≤ k.max := by
  have h' : (decide (k.min ≤ x) && decide (x ≤ k.max)) = true := h
  rw [Bool.and_eq_true] at h'
  exact ⟨of_decide_eq_true h'.1, of_decide_eq_true h'.2⟩
theorem wf_u8 {x : Int} (h : (Lit.int .u8 x).wf = true) : 0 ≤ x ∧ x < 256 := by
  obtain ⟨h1, h2⟩ := wf_of h
  have e1 : IntKind.min .u8 = 0 := rfl
  have e2 : IntKind.max .u8 = 255 := rfl
  omega
theorem wf_u32 {x : Int} (h : (Lit.int .u32 x).wf = true) : 0 ≤ x ∧ x < 4294967296 := by
  obtain ⟨h1, h2⟩ := wf_of h
  have e1 : IntKind.min .u32 = 0 := rfl
  have e2 : IntKind.max .u32 = 4294967295 := rfl
  omega
theorem wf_u64 {x : Int} (h : (Lit.int .u64 x).wf = true) : 0 ≤ x ∧ x < 18446744073709551616 := by
  obtain ⟨h1, h2⟩ := wf_of h
  have e1 : IntKind.min .u64 = 0 := rfl
  have e2 : IntKind.max .u64 = 18446744073709551615 := rfl
  omega
theorem by_of {l : List Int} (h : KWf (.list (.int .u8)) l) : By l := fun x hx => wf_u8 (h.2 x hx)
theorem hd_of {h : Hdr} (hh : KWf HK h) : HdOk h := ⟨wf_u32 hh.2.2.1, wf_u64 hh.2.2.2.1, wf_u64 hh.2.2.2.2.1⟩
end Go.Proofs.YtcnegcjjeakmmaaDoor.Vm


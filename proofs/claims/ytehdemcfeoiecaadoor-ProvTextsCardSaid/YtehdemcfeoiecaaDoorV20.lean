/- Contracts of chapter 9: digits and texts of sums, of the program and of the reference. -/
import Derived.Test.YtehdemcfeoiecaaDoorV12
import Derived.Test.YtehdemcfeoiecaaDoorV3
import Derived.Test.YtehdemcfeoiecaaDoorP6
import Derived.Test.YtehdemcfeoiecaaDoorSheld
import Derived.Lib.AppendIntMem
import Derived.Deep.DeepCutAuto
namespace Go.Proofs.YtehdemcfeoiecaaDoor
open Go.RowKit Go.Firn Go.Shelf Go.Maps Go.WideMaps

/-- A key as a text. -/
def bA (k : Key) : ByteArray := ⟨k.toArray⟩
theorem bA_append (a b : Key) : bA a ++ bA b = bA (a ++ b) := by
  refine ByteArray.ext ?_
  rw [ByteArray.data_append]
  simp [bA]
theorem bA_data (s : ByteArray) : bA s.data.toList = s := rfl
theorem bA_list (k : Key) : (bA k).data.toList = k := rfl
theorem bA_size (k : Key) : (bA k).size = k.length := by simp [bA, ByteArray.size]
/-- A text is returned. -/
def RetT (s : ByteArray) (w : World) (e : Ending) (w' : World) : Prop := e = .returned (.string s) ∧ Gr w w'

theorem back_one (w : World) (c : UInt8) (cp : Nat) : (convert 56 9 (.slice (some ⟨w.heap.size, 0, none⟩) 1 cp)).run Tryd.prog (w.alloc (.cells #[.int .u8 (c.toNat : Nat)] 5)) = .ok (.string (bA [c])) (w.alloc (.cells #[.int .u8 (c.toNat : Nat)] 5)) :=
  run_convert_bytes_back (w.alloc (.cells #[.int .u8 (c.toNat : Nat)] 5)) 56 9 5 ⟨w.heap.size, 0, none⟩ cp [c] Tryd.underlying56 Tryd.underlying5 Tryd.underlying9 (fun j hj => by
    obtain rfl : j = 0 := by simp at hj; exact hj
    rw [add_flat rfl]
    exact cell_new1 w _ 5)

theorem dec_len {n : Nat} (h : n ≤ 1000000000000000000) : (Lib.decDigits n).length ≤ 19 := by
  rw [Lib.decDigits_length]
  exact nDigits_le (k := 18) (by omega)
set_option maxHeartbeats 1000000 in
theorem decimal_any : ∀ (n : Nat), n ≤ 1000000000000000000 → ∀ w, Calls Tryd.prog 77 #[.int .i64 n] w (RetT (bA (Lib.decDigits n)) w) := by
  intro n
  induction n using Nat.strongRecOn with
  | _ n ih =>
    intro hn w
    have i0 : ¬ (n : Int) < 0 := by omega
    by_cases h10 : n < 10
    · have i1 : (n : Int) < 10 := by omega
      have w1 : IntKind.i64.wrap (48 + (n : Int)) = ((48 + n : Nat) : Int) := by rw [IntWalk.i64_in _ (by omega)]; omega
      have w2 : IntKind.u8.wrap ((48 + n : Nat) : Int) = ((UInt8.ofNat (48 + n)).toNat : Int) := by rw [dg_of h10, IntKind.wrap_u8]; omega
      have hb := back_one w (UInt8.ofNat (48 + n))
      have HE := Lib.hid (show Lib.decDigits n = [UInt8.ofNat (48 + n)] by rw [Lib.decDigits, dif_pos h10])
      clear h10 hn ih
      generalize UInt8.ofNat (48 + n) = c at *
      obtain ⟨q, hq⟩ : ∃ q : Int, q = ((48 + n : Nat) : Int) := ⟨_, rfl⟩
      rw [← hq] at w1 w2
      clear hq
      go_enter Tryd.func77, Tryd.ntmps77
      go_wp2_with fail
      go_ret
      rw [HE.out]
      exact ⟨rfl, (Gr.refl w).alloc _⟩
    · have i1 : ¬ (n : Int) < 10 := by omega
      have e1 : (n : Int).tdiv 10 = ((n / 10 : Nat) : Int) := by rw [Int.tdiv_eq_ediv_of_nonneg (by omega)]; omega
      have e2 : (n : Int).tmod 10 = ((n % 10 : Nat) : Int) := by rw [Int.tmod_eq_emod_of_nonneg (by omega)]; omega
      have w1 : IntKind.i64.wrap ((n / 10 : Nat) : Int) = ((n / 10 : Nat) : Int) := IntWalk.i64_in _ (by omega)
      have C1 := Lib.hid (fun wx => ih (n / 10) (by omega) (by omega) wx)
      have C2 := Lib.hid (fun wx => ih (n % 10) (by omega) (by omega) wx)
      have HE := Lib.hid (show bA (Lib.decDigits (n / 10)) ++ bA (Lib.decDigits (n % 10)) = bA (Lib.decDigits n) by
        rw [bA_append]
        conv => rhs; rw [Lib.decDigits, dif_neg h10]
        congr 2
        rw [Lib.decDigits, dif_pos (Nat.mod_lt _ (by omega))])
      have hs : (bA (Lib.decDigits (n / 10))).size + (bA (Lib.decDigits (n % 10))).size ≤ 9223372036854775807 := by
        rw [bA_size, bA_size]
        have := dec_len (n := n / 10) (by omega)
        have := dec_len (n := n % 10) (by omega)
        omega
      clear ih h10 hn
      generalize n / 10 = p at *
      generalize n % 10 = r at *
      generalize bA (Lib.decDigits p) = tp at *
      generalize bA (Lib.decDigits r) = tr at *
      generalize bA (Lib.decDigits n) = tn at *
      go_enter Tryd.func77, Tryd.ntmps77
      go_wp2_with (first
        | (go_at_call 77; (with_reducible refine (C1.out _).mono ?_); rintro e wa ⟨rfl, g1⟩; have G1 := Lib.hid g1; clear g1 C1)
        | (go_at_call 77; (with_reducible refine (C2.out _).mono ?_); rintro e wb ⟨rfl, g2⟩; have G2 := Lib.hid (G1.out.trans g2); clear g2 C2))
      go_ret
      exact ⟨congrArg _ (congrArg _ HE.out), G2.out⟩

/-! ## The reference's text -/
/-- What is joined so far. -/
def jnL (L : SL) : Key := Lib.join (L.map wdL) [43]
theorem join_snoc {A : List Key} (x : Key) (c : UInt8) (h : A ≠ []) : Lib.join (A ++ [x]) [c] = Lib.join A [c] ++ c :: x := by
  induction A with
  | nil => exact absurd rfl h
  | cons a r ih =>
    cases r with
    | nil =>
      show Lib.join (a :: [x]) [c] = _
      rw [joinK_cons c a (by simp), Lib.join_one, Lib.join_one]
    | cons b r =>
      have := ih (by simp)
      show Lib.join (a :: ((b :: r) ++ [x])) [c] = _
      rw [joinK_cons c a (by simp), this, joinK_cons c a (by simp)]
      simp
theorem jnL_zero (L : SL) : jnL (L.take 0) = [] := rfl
theorem jnL_next {L : SL} {k : Nat} (h : k < L.length) (x : Key × Int) (hx : L[k]? = some x) : jnL (L.take (k + 1)) = (if k = 0 then [] else jnL (L.take k) ++ [43]) ++ wdL x := by
  unfold jnL
  rw [List.take_add_one, hx, List.map_append]
  by_cases h0 : k = 0
  · subst h0
    rw [if_pos rfl]
    show Lib.join [wdL x] [43] = _
    rw [Lib.join_one]
    rfl
  · rw [if_neg h0]
    show Lib.join ((L.take k).map wdL ++ [wdL x]) [43] = _
    rw [join_snoc _ _ (by
      intro e
      have := congrArg List.length e
      rw [List.length_map, List.length_take] at this
      simp only [List.length_nil] at this
      omega)]
    simp
theorem jnL_size {L : SL} (h : Wds L) (k : Nat) : (jnL (L.take k)).length ≤ 760 := by
  have a := join_len (L := (L.take k).map wdL) (k := 18) fun x hx => by
    obtain ⟨y, hy, rfl⟩ := List.mem_map.1 hx
    have hm := List.mem_of_mem_take hy
    exact word_len (h.pos y hm) (h.le y hm) (h.len y hm)
  rw [List.length_map, List.length_take] at a
  have := h.few
  unfold jnL
  omega
theorem Wds.of {L : SL} (h : vL L = true) : Wds L := by
  have a := vL_ok h
  exact ⟨a.vl.2.1, a.cnt, a.vl.2.2, a.key, a.le⟩
theorem txL_is {L : SL} (h : L ≠ []) : txL L = jnL L := by
  unfold txL jnL
  rw [if_neg h]
theorem key_sx {L : SL} {k : Nat} (h : k < L.length) : L[k]? = some ((sx L k).data.toList, sy L k) := by simp [sx, sy, List.getD_eq_getElem?_getD, List.getElem?_eq_getElem h]

set_option maxRecDepth 100000 in
set_option maxHeartbeats 8000000 in
theorem reftext_any (a : Option Addr) (cp : Nat) (L : SL) (w : World) (hL : vL L = true) (hr : RdS w a L.length (sx L) (sy L)) :
    Calls Tryd.prog 50 #[.slice a L.length cp] w (RetT (bA (txL L)) w) := by
  have HW := Lib.hid (Wds.of hL)
  have HR := Lib.hid hr
  have HLe := Lib.hid (vL_ok hL).le
  clear hL hr
  go_enter Tryd.func50, Tryd.ntmps50
  go_wp2_with fail
  go_loopw [3, 8] (fun s3 s8 wr => ∃ k : Nat, k ≤ L.length ∧ s8 = .int .i64 k ∧ s3 = .string (bA (jnL (L.take k))) ∧ Hid (Gr w wr)) (fun _ s _ => L.length - (intOf s).toNat)
  case atStart => exact ⟨0, Nat.zero_le _, rfl, rfl, Lib.hid (Gr.refl _)⟩
  case round =>
    obtain ⟨k, hk, rfl, rfl, HG⟩ := hrel
    by_cases hlt : k < L.length
    · have i1 : (k : Int) < (L.length : Int) := by omega
      obtain ⟨b, o, rfl, hc⟩ := (HR.out.gr HG.out).at hlt
      obtain ⟨c0, c1⟩ := hc k hlt
      have w2 : IntKind.i64.wrap ((k : Int) + 1) = ((k + 1 : Nat) : Int) := by rw [IntWalk.i64_in _ (by have := HLe.out; omega)]; omega
      have hx := key_sx hlt
      have hm := List.mem_of_getElem? hx
      have b1 := HW.out.pos _ hm
      have b2 := HW.out.le _ hm
      have b3 := HW.out.len _ hm
      have HN := Lib.hid (jnL_next hlt _ hx)
      have HZ := Lib.hid (show (jnL (L.take k)).length ≤ 760 from jnL_size HW.out k)
      obtain ⟨z0, z1⟩ := box2 wr (sx L k) (sy L k) 34
      obtain ⟨n, hn⟩ : ∃ n : Nat, sy L k = n := ⟨(sy L k).toNat, by have : 1 ≤ sy L k := b1; omega⟩
      have hs3 : (sx L k).size ≤ 12 := by rw [← size_key]; exact b3
      have hxe : wdL ((sx L k).data.toList, sy L k) = (if n = 1 ∧ (sx L k).toList ≠ [] then [] else Lib.decDigits n) ++ (sx L k).data.toList := by
        unfold wdL
        rw [hn, itoa_pos (by omega), Int.toNat_natCast, ByteArray.toList_eq]
        simp only [show ((n : Int) = 1) = (n = 1) by apply propext; omega]
      rw [hxe] at HN
      rw [hn] at z0 z1 c1 b1 b2
      have hD := dec_len (n := n) (by omega)
      have CD := Lib.hid (fun wx => decimal_any n (by omega) wx)
      have HT := Lib.hid (show bA (sx L k).data.toList = sx L k from rfl)
      have HGA := Lib.hid (HG.out.alloc (.cells #[.string (sx L k), .int .i64 n] 34))
      have s1 : (bA (jnL (L.take k))).size ≤ 760 := by rw [bA_size]; exact HZ.out
      have s2 : (bA (Lib.decDigits n)).size ≤ 19 := by rw [bA_size]; exact hD
      clear hc hx hm b3 hxe hD hn
      have HLk := Lib.hid hlt
      clear HZ hlt HW
      by_cases h0 : k = 0
      · by_cases hn1 : n = 1
        · by_cases hxe : (sx L k).toList = []
          · have HNf := Lib.hid (show bA (jnL (L.take (k + 1))) = bA (jnL (L.take k)) ++ bA (Lib.decDigits n) ++ sx L k by rw [← HT.out, bA_append, bA_append, HN.out, if_pos h0, if_neg (fun h => h.2 hxe), h0, jnL_zero]; simp)
            have t1 : (bA (jnL (L.take k))).size + (bA (Lib.decDigits n)).size ≤ 9223372036854775807 := by omega
            have t2 : (bA (jnL (L.take k))).size + (bA (Lib.decDigits n)).size + (sx L k).size ≤ 9223372036854775807 := by omega
            have hc1 : (n : Int) = 1 := by omega
            rw [hc1] at z0 z1 c1 CD HGA
            clear hc1
            have k1 : ¬ 0 < k := by omega
            generalize bA (Lib.decDigits n) = D at *
            generalize hJN : bA (jnL (L.take (k + 1))) = JN at *
            have HJN := Lib.hid hJN
            clear hJN
            generalize bA (jnL (L.take k)) = J at *
            generalize sx L k = x at *
            clear s1 s2 b1 b2 hs3 HN HT h0 hn1
            go_wp2_with (go_at_call 77; (with_reducible refine (CD.out _).mono ?_); rintro e w3 ⟨rfl, g3⟩; have G3 := Lib.hid (HGA.out.trans g3); have z0 := g3.cell z0; have z1 := g3.cell z1; clear g3)
            go_roundw
            case rel => exact ⟨k + 1, HLk.out, by go_num, congrArg Value.string (HNf.out.symm.trans HJN.out.symm), G3⟩
            case measure => have := HLk.out; simp [intOf]; omega
          · have HNf := Lib.hid (show bA (jnL (L.take (k + 1))) = bA (jnL (L.take k)) ++ sx L k by rw [← HT.out, bA_append, HN.out, if_pos h0, if_pos ⟨hn1, hxe⟩, h0, jnL_zero]; simp)
            have t2 : (bA (jnL (L.take k))).size + (sx L k).size ≤ 9223372036854775807 := by omega
            have hc1 : (n : Int) = 1 := by omega
            rw [hc1] at z0 z1 c1 CD HGA
            clear hc1
            have k1 : ¬ 0 < k := by omega
            generalize bA (Lib.decDigits n) = D at *
            generalize hJN : bA (jnL (L.take (k + 1))) = JN at *
            have HJN := Lib.hid hJN
            clear hJN
            have xe : (sx L k).toList.isEmpty = false := by simp [hxe]
            clear hxe
            generalize bA (jnL (L.take k)) = J at *
            generalize sx L k = x at *
            clear s1 s2 b1 b2 hs3 HN HT h0 hn1
            go_wp2_with (go_at_call 77; (with_reducible refine (CD.out _).mono ?_); rintro e w3 ⟨rfl, g3⟩; have G3 := Lib.hid (HGA.out.trans g3); have z0 := g3.cell z0; have z1 := g3.cell z1; clear g3)
            go_roundw
            case rel => exact ⟨k + 1, HLk.out, by go_num, congrArg Value.string (HNf.out.symm.trans HJN.out.symm), HGA⟩
            case measure => have := HLk.out; simp [intOf]; omega
        · have HNf := Lib.hid (show bA (jnL (L.take (k + 1))) = bA (jnL (L.take k)) ++ bA (Lib.decDigits n) ++ sx L k by rw [← HT.out, bA_append, bA_append, HN.out, if_pos h0, if_neg (fun h => hn1 h.1), h0, jnL_zero]; simp)
          have t1 : (bA (jnL (L.take k))).size + (bA (Lib.decDigits n)).size ≤ 9223372036854775807 := by omega
          have t2 : (bA (jnL (L.take k))).size + (bA (Lib.decDigits n)).size + (sx L k).size ≤ 9223372036854775807 := by omega
          have n2 : ¬ ((n : Int) = 1) := by omega
          have n1 : ((n : Int) != 1) = true := by simpa using n2
          have k1 : ¬ 0 < k := by omega
          generalize bA (Lib.decDigits n) = D at *
          generalize hJN : bA (jnL (L.take (k + 1))) = JN at *
          have HJN := Lib.hid hJN
          clear hJN
          generalize bA (jnL (L.take k)) = J at *
          generalize sx L k = x at *
          clear s1 s2 b1 b2 hs3 HN HT h0 hn1
          go_wp2_with (go_at_call 77; (with_reducible refine (CD.out _).mono ?_); rintro e w3 ⟨rfl, g3⟩; have G3 := Lib.hid (HGA.out.trans g3); have z0 := g3.cell z0; have z1 := g3.cell z1; clear g3)
          go_roundw
          case rel => exact ⟨k + 1, HLk.out, by go_num, congrArg Value.string (HNf.out.symm.trans HJN.out.symm), G3⟩
          case measure => have := HLk.out; simp [intOf]; omega
      · by_cases hn1 : n = 1
        · by_cases hxe : (sx L k).toList = []
          · have HNf := Lib.hid (show bA (jnL (L.take (k + 1))) = bA (jnL (L.take k)) ++ ⟨#[43]⟩ ++ bA (Lib.decDigits n) ++ sx L k by rw [← HT.out, show (⟨#[43]⟩ : ByteArray) = bA [43] from rfl, bA_append, bA_append, bA_append, HN.out, if_neg h0, if_neg (fun h => h.2 hxe)]; simp)
            have t0 : (bA (jnL (L.take k))).size + 1 ≤ 9223372036854775807 := by omega
            have t1 : (bA (jnL (L.take k))).size + 1 + (bA (Lib.decDigits n)).size ≤ 9223372036854775807 := by omega
            have t2 : (bA (jnL (L.take k))).size + 1 + (bA (Lib.decDigits n)).size + (sx L k).size ≤ 9223372036854775807 := by omega
            have hc1 : (n : Int) = 1 := by omega
            rw [hc1] at z0 z1 c1 CD HGA
            clear hc1
            have k1 : 0 < k := by omega
            generalize bA (Lib.decDigits n) = D at *
            generalize hJN : bA (jnL (L.take (k + 1))) = JN at *
            have HJN := Lib.hid hJN
            clear hJN
            generalize bA (jnL (L.take k)) = J at *
            generalize sx L k = x at *
            clear s1 s2 b1 b2 hs3 HN HT h0 hn1
            go_wp2_with (go_at_call 77; (with_reducible refine (CD.out _).mono ?_); rintro e w3 ⟨rfl, g3⟩; have G3 := Lib.hid (HGA.out.trans g3); have z0 := g3.cell z0; have z1 := g3.cell z1; clear g3)
            go_roundw
            case rel => exact ⟨k + 1, HLk.out, by go_num, congrArg Value.string (HNf.out.symm.trans HJN.out.symm), G3⟩
            case measure => have := HLk.out; simp [intOf]; omega
          · have HNf := Lib.hid (show bA (jnL (L.take (k + 1))) = bA (jnL (L.take k)) ++ ⟨#[43]⟩ ++ sx L k by rw [← HT.out, show (⟨#[43]⟩ : ByteArray) = bA [43] from rfl, bA_append, bA_append, HN.out, if_neg h0, if_pos ⟨hn1, hxe⟩]; simp)
            have t0 : (bA (jnL (L.take k))).size + 1 ≤ 9223372036854775807 := by omega
            have t2 : (bA (jnL (L.take k))).size + 1 + (sx L k).size ≤ 9223372036854775807 := by omega
            have hc1 : (n : Int) = 1 := by omega
            rw [hc1] at z0 z1 c1 CD HGA
            clear hc1
            have k1 : 0 < k := by omega
            generalize bA (Lib.decDigits n) = D at *
            generalize hJN : bA (jnL (L.take (k + 1))) = JN at *
            have HJN := Lib.hid hJN
            clear hJN
            have xe : (sx L k).toList.isEmpty = false := by simp [hxe]
            clear hxe
            generalize bA (jnL (L.take k)) = J at *
            generalize sx L k = x at *
            clear s1 s2 b1 b2 hs3 HN HT h0 hn1
            go_wp2_with (go_at_call 77; (with_reducible refine (CD.out _).mono ?_); rintro e w3 ⟨rfl, g3⟩; have G3 := Lib.hid (HGA.out.trans g3); have z0 := g3.cell z0; have z1 := g3.cell z1; clear g3)
            go_roundw
            case rel => exact ⟨k + 1, HLk.out, by go_num, congrArg Value.string (HNf.out.symm.trans HJN.out.symm), HGA⟩
            case measure => have := HLk.out; simp [intOf]; omega
        · have HNf := Lib.hid (show bA (jnL (L.take (k + 1))) = bA (jnL (L.take k)) ++ ⟨#[43]⟩ ++ bA (Lib.decDigits n) ++ sx L k by rw [← HT.out, show (⟨#[43]⟩ : ByteArray) = bA [43] from rfl, bA_append, bA_append, bA_append, HN.out, if_neg h0, if_neg (fun h => hn1 h.1)]; simp)
          have t0 : (bA (jnL (L.take k))).size + 1 ≤ 9223372036854775807 := by omega
          have t1 : (bA (jnL (L.take k))).size + 1 + (bA (Lib.decDigits n)).size ≤ 9223372036854775807 := by omega
          have t2 : (bA (jnL (L.take k))).size + 1 + (bA (Lib.decDigits n)).size + (sx L k).size ≤ 9223372036854775807 := by omega
          have n2 : ¬ ((n : Int) = 1) := by omega
          have n1 : ((n : Int) != 1) = true := by simpa using n2
          have k1 : 0 < k := by omega
          generalize bA (Lib.decDigits n) = D at *
          generalize hJN : bA (jnL (L.take (k + 1))) = JN at *
          have HJN := Lib.hid hJN
          clear hJN
          generalize bA (jnL (L.take k)) = J at *
          generalize sx L k = x at *
          clear s1 s2 b1 b2 hs3 HN HT h0 hn1
          go_wp2_with (go_at_call 77; (with_reducible refine (CD.out _).mono ?_); rintro e w3 ⟨rfl, g3⟩; have G3 := Lib.hid (HGA.out.trans g3); have z0 := g3.cell z0; have z1 := g3.cell z1; clear g3)
          go_roundw
          case rel => exact ⟨k + 1, HLk.out, by go_num, congrArg Value.string (HNf.out.symm.trans HJN.out.symm), G3⟩
          case measure => have := HLk.out; simp [intOf]; omega
    · obtain rfl : k = L.length := by omega
      have i1 : ¬ (L.length : Int) < (L.length : Int) := by omega
      rw [List.take_length]
      by_cases h0 : L = []
      · subst h0
        go_wp2_with fail
        go_ret
        exact ⟨rfl, HG.out⟩
      · have h1 : ¬ L.length = 0 := fun e => h0 (List.length_eq_zero_iff.1 e)
        have HE := Lib.hid (txL_is h0)
        clear h0
        go_wp2_with fail
        go_ret
        rw [HE.out]
        exact ⟨rfl, HG.out⟩
end Go.Proofs.YtehdemcfeoiecaaDoor

/- Contracts of chapter 9: the reference's split. Contracts of chapter 9: the reference's Parse. -/
import Derived.Test.YtehdemcfeoiecaaDoorV21
namespace Go.Proofs.YtehdemcfeoiecaaDoor
open Go.RowKit Go.Firn Go.Shelf Go.Maps Go.WideMaps

theorem ext_key (s : ByteArray) (f i : Nat) : (s.extract f i).data.toList = (s.data.toList.drop f).take (i - f) := by
  rw [ByteArray.data_extract, Array.toList_extract, List.extract_eq_take_drop]
theorem ext_bA (s : ByteArray) (f i : Nat) : s.extract f i = bA ((s.data.toList.drop f).take (i - f)) := by
  rw [← ext_key]
  rfl
theorem OwnW.set {w0 w : World} {g c i : Nat} {L : List ByteArray} (h : OwnW w0 w (.slice (some ⟨g, 0, none⟩) L.length c) L) (t : ByteArray) :
    OwnW w0 (w.setCell ⟨g, i, none⟩ (.string t)) (.slice (some ⟨g, 0, none⟩) L.length c) (L.set i t) := by
  obtain ⟨h1, h2⟩ := h.1.stored i (.string t)
  refine ⟨?_, h.2.grown h2 fun b hb => ?_⟩
  · rw [← List.map_set] at h1
    rw [List.length_set]
    exact h1
  · cases hb
    exact (h.1.lt g rfl).1
theorem row_last {D : List ByteArray} (e t : ByteArray) : (D ++ [e]).set D.length t = D ++ [t] := by
  rw [List.set_append_right _ _ (Nat.le_refl _), Nat.sub_self]
  rfl
/-- Texts are returned. -/
def RetW (L : List ByteArray) (w : World) (e : Ending) (w' : World) : Prop := ∃ g c, e = .returned (.slice (some ⟨g, 0, none⟩) L.length c) ∧ (∀ i x, L[i]? = some x → w'.cell? ⟨g, i, none⟩ = some (.string x)) ∧ Gr w w'
theorem piece_more {K : Key} {f i : Nat} {c : UInt8} (hf : f ≤ i) (h : c ∉ (K.drop f).take (i - f)) (hi : i < K.length) (hc : K[i]? ≠ some c) : c ∉ (K.drop f).take (i + 1 - f) := by
  rw [show i + 1 - f = (i - f) + 1 by omega, List.take_add_one, List.mem_append]
  rintro (h1 | h1)
  · exact h h1
  · rw [List.getElem?_drop, show f + (i - f) = i by omega, List.getElem?_eq_getElem hi] at h1
    simp at h1
    exact hc (by rw [List.getElem?_eq_getElem hi, h1])
theorem piece_end {K : Key} {f i : Nat} {c : UInt8} (hf : f ≤ i) (h : c ∉ (K.drop f).take (i - f)) (hc : K[i]? = some c) : splitK c (K.drop f) = (K.drop f).take (i - f) :: splitK c (K.drop (i + 1)) := by
  have e : K.drop f = (K.drop f).take (i - f) ++ c :: K.drop (i + 1) := by
    conv => lhs; rw [← List.take_append_drop (i - f) (K.drop f)]
    congr 1
    rw [List.drop_drop, show f + (i - f) = i by omega]
    obtain ⟨hl, e⟩ := List.getElem?_eq_some_iff.1 hc
    rw [List.drop_eq_getElem_cons hl, e]
  conv => lhs; rw [e]
  exact splitK_app _ h
theorem piece_last {K : Key} {f : Nat} {c : UInt8} (h : c ∉ (K.drop f).take (K.length - f)) : splitK c (K.drop f) = [(K.drop f).take (K.length - f)] := by
  have e : (K.drop f).take (K.length - f) = K.drop f := List.take_of_length_le (by rw [List.length_drop]; exact Nat.le_refl _)
  rw [e] at h ⊢
  exact splitK_no h
theorem bt_at {s : ByteArray} {i : Nat} (h : i < s.size) : s.data.toList[i]? = some (s[i]'h) := by
  rw [List.getElem?_eq_getElem (by rw [size_key]; exact h)]
  rfl

theorem cell_news {w : World} {b : Nat} {v : Value} {e : TypeId} (h : w.heap.size = b) : (w.alloc (.cells #[v] e)).cell? ⟨b, 0, none⟩ = some v := by
  subst h
  exact cell_new1 w v e
set_option maxRecDepth 100000 in
set_option maxHeartbeats 8000000 in
theorem split_any (s : ByteArray) (c : UInt8) (most : Nat) (w : World) (hs : s.size ≤ 1000000) (hm : most ≤ 1000) :
    Calls Tryd.prog 55 #[.string s, .int .u8 (c.toNat : Nat), .int .i64 most] w (RetW (((splitK c s.data.toList).take (most + 1)).map bA) w) := by
  have HZ := Lib.hid (And.intro hs hm)
  have HN := Lib.hid (size_key s)
  clear hs hm
  go_enter Tryd.func55, Tryd.ntmps55
  have hst : OwnW w (w.alloc (.cells #[.string ⟨#[]⟩] 9)) (.slice (some ⟨w.heap.size, 0, none⟩) 1 1) [⟨#[]⟩] :=
    ⟨World.ownsRow_lit w #[.string ⟨#[]⟩] 1 (Nat.le_refl _) (by unfold maxLen; omega) rfl, (Gr.refl w).alloc _⟩
  have HS := Lib.hid hst
  clear hst
  go_wp2_with fail
  go_loopw [7, 8, 9] (fun s7 s8 s9 wr => (∃ (i f : Nat) (D : List Key), s9 = .int .i64 i ∧ s8 = .int .i64 f ∧ Hid (i ≤ s.size ∧ f ≤ i ∧ D.length ≤ most) ∧ Hid (c ∉ (s.data.toList.drop f).take (i - f)) ∧ Hid (splitK c s.data.toList = D ++ splitK c (s.data.toList.drop f)) ∧ Hid (OwnW w wr s7 (D.map bA ++ [⟨#[]⟩]))) ∨ (s9 = .int .i64 ((s.size + 1 : Nat) : Int) ∧ Hid ((splitK c s.data.toList).length ≤ most + 1) ∧ Hid (OwnW w wr s7 ((splitK c s.data.toList).map bA)))) (fun _ _ s9 _ => s.size + 1 - (intOf s9).toNat)
  case atStart => exact .inl ⟨0, 0, [], rfl, rfl, Lib.hid ⟨Nat.zero_le _, Nat.le_refl _, Nat.zero_le _⟩, Lib.hid (by simp), Lib.hid (by simp), HS⟩
  case round =>
    rcases hrel with ⟨i, f, D, rfl, rfl, HI, HC, HP, HO⟩ | ⟨rfl, HL, HO⟩
    · have hlen : (D.map bA ++ [(⟨#[]⟩ : ByteArray)]).length = D.length + 1 := by simp
      rcases HO.out.row with ⟨_, h0⟩ | ⟨g, cp, rfl, h1, h2, h3, h4, h5⟩
      · simp at h0
      obtain ⟨k0, k1⟩ := h3 D.length ⟨#[]⟩ (by simp)
      have HCp := Lib.hid (show D.length + 1 ≤ cp by rw [← hlen]; exact h1)
      have HOs := Lib.hid (fun t => show OwnW w (wr.setCell ⟨g, D.length, none⟩ (.string t)) (.slice (some ⟨g, 0, none⟩) (D.length + 1) cp) (D.map bA ++ [t]) by
        have := HO.out.set (i := D.length) t
        rw [show (D.map bA ++ [(⟨#[]⟩ : ByteArray)]).set D.length t = D.map bA ++ [t] by have := row_last (D := D.map bA) ⟨#[]⟩ t; rwa [List.length_map] at this, hlen] at this
        exact this)
      rw [hlen]
      obtain ⟨N, hN⟩ : ∃ N, D.length + 1 = N := ⟨_, rfl⟩
      rw [hN] at HOs HCp ⊢
      have l2 : IntKind.i64.wrap ((N : Int) - 1) = (D.length : Int) := by rw [IntWalk.i64_in _ (by have := HI.out; have := HZ.out; omega)]; omega
      have l3 : (D.length : Int) < (N : Int) := by omega
      have HNN := Lib.hid hN
      have HO2 := Lib.hid (show OwnW w wr (.slice (some ⟨g, 0, none⟩) N cp) (D.map bA ++ [(⟨#[]⟩ : ByteArray)]) by have := HO.out; rw [hlen, hN] at this; exact this)
      have f1 : (f : Int) ≤ (i : Int) := by have := HI.out; omega
      have f2 : (i : Int) ≤ (s.size : Int) := by have := HI.out; omega
      have w2 : IntKind.i64.wrap ((i : Int) + 1) = ((i + 1 : Nat) : Int) := by rw [IntWalk.i64_in _ (by have := HI.out; have := HZ.out; omega)]; omega
      have HX := Lib.hid (ext_bA s f i)
      clear h1 h2 h3 h4 h5 hlen
      by_cases hlt : i < s.size
      · have e0 : ((i : Int) == (s.size : Int)) = false := by simp; omega
        have e1 : (i : Int) < (s.size : Int) := by omega
        have HB := Lib.hid (bt_at hlt)
        by_cases hcb : s.data.toList[i]? = some c
        · have HEnd := Lib.hid (piece_end HI.out.2.1 HC.out hcb)
          have hb : (s[i]'hlt).toNat = c.toNat := by
            have := HB.out
            rw [hcb] at this
            rw [Option.some.inj this]
          have HQ := Lib.hid (show splitK c s.data.toList = (D ++ [(s.data.toList.drop f).take (i - f)]) ++ splitK c (s.data.toList.drop (i + 1)) by rw [HP.out, HEnd.out]; simp)
          have HM := Lib.hid (show (D.map bA ++ [s.extract f i]) = (D ++ [(s.data.toList.drop f).take (i - f)]).map bA by rw [HX.out]; simp)
          clear hcb HEnd HC HP
          generalize (s.data.toList.drop f).take (i - f) = xk at *
          by_cases hmo : D.length = most
          · have m1 : (most : Int) < (N : Int) := by omega
            have HT := Lib.hid (show ((splitK c s.data.toList).take (most + 1)).map bA = D.map bA ++ [s.extract f i] by
              rw [HQ.out, HM.out, List.take_append_of_le_length (by simp; omega), List.take_of_length_le (by simp; omega)])
            have HOx := Lib.hid (HOs.out (s.extract f i))
            have HR := Lib.hid (show RetW (((splitK c s.data.toList).take (most + 1)).map bA) w (.returned (.slice (some ⟨g, 0, none⟩) N cp)) (wr.setCell ⟨g, D.length, none⟩ (.string (s.extract f i))) by
              rw [HT.out]
              rcases HOx.out.row with ⟨_, h0⟩ | ⟨g', cp', e, _, _, h3, _, _⟩
              · simp at h0
              · cases e
                exact ⟨g, cp, by rw [List.length_append, List.length_map, List.length_singleton, HNN.out], fun i x hx => (h3 i x hx).1, HOx.out.2⟩)
            clear hN hmo HOs HT HOx HQ HM HI
            go_wp2_with fail
            go_ret
            exact HR.out
          · have m1 : ¬ (most : Int) < (N : Int) := by have := HI.out; omega
            have HOx := Lib.hid (show OwnW w (wr.setCell ⟨g, D.length, none⟩ (.string (s.extract f i))) (.slice (some ⟨g, 0, none⟩) N cp) ((D ++ [xk]).map bA) by rw [← HM.out]; exact HOs.out (s.extract f i))
            have HDl := Lib.hid (show (D ++ [xk]).length ≤ most ∧ i + 1 ≤ s.size by simp; have := HI.out; omega)
            have HKl := Lib.hid (show ((D ++ [xk]).map bA).length < 999999 by simp; have := HI.out; have := HZ.out; omega)
            have HNC := Lib.hid (show c ∉ (s.data.toList.drop (i + 1)).take (i + 1 - (i + 1)) by simp)
            have HE2 := Lib.hid hlt
            clear hN hmo HOs HM HI
            go_wp2_with (at_builtin; refine wpList_app_str rfl _ _ rfl _ _ rfl (HOx.out.gr ((Gr.refl _).alloc _)) wr.heap.size _ rfl (cell_news (by simp)) HKl.out ?_; intro v1 w4 hown; have H1 := Lib.hid hown; clear hown)
            go_roundw
            case rel => exact .inl ⟨i + 1, i + 1, D ++ [xk], by go_num, by go_num, Lib.hid ⟨HDl.out.2, Nat.le_refl _, HDl.out.1⟩, HNC, HQ, H1⟩
            case measure => have := HE2.out; simp [intOf]; omega
        · have HNC := Lib.hid (piece_more HI.out.2.1 HC.out (by rw [HN.out]; exact hlt) hcb)
          have hb : ((((s[i]'hlt).toNat : Nat) : Int) == ((c.toNat : Nat) : Int)) = false := by
            have := HB.out
            rw [this] at hcb
            have h2 : (s[i]'hlt).toNat ≠ c.toNat := fun e => hcb (by rw [UInt8.toNat_inj.1 e])
            simp
            omega
          have HE2 := Lib.hid hlt
          have HI2 := Lib.hid (show i + 1 ≤ s.size ∧ f ≤ i + 1 ∧ D.length ≤ most by have := HI.out; omega)
          clear hcb HOs hN
          go_wp2_with fail
          go_roundw
          case rel => exact .inl ⟨i + 1, f, D, by go_num, rfl, HI2, HNC, HP, HO2⟩
          case measure => have := HE2.out; simp [intOf]; omega
      · obtain rfl : i = s.size := by have := HI.out; omega
        have e1 : ¬ (s.size : Int) < (s.size : Int) := by omega
        have HEnd := Lib.hid (piece_last (by rw [HN.out]; exact HC.out))
        have HQ := Lib.hid (show splitK c s.data.toList = D ++ [(s.data.toList.drop f).take (s.size - f)] by rw [HP.out, HEnd.out, HN.out])
        have HM := Lib.hid (show (D.map bA ++ [s.extract f s.size]) = (splitK c s.data.toList).map bA by rw [HX.out, HQ.out]; simp)
        have HOx := Lib.hid (show OwnW w (wr.setCell ⟨g, D.length, none⟩ (.string (s.extract f s.size))) (.slice (some ⟨g, 0, none⟩) N cp) ((splitK c s.data.toList).map bA) by rw [← HM.out]; exact HOs.out (s.extract f s.size))
        have HL2 := Lib.hid (show (splitK c s.data.toList).length ≤ most + 1 by rw [HQ.out]; simp; have := HI.out; omega)
        clear hN hlt HOs HEnd HQ HM
        go_wp2_with fail
        go_roundw
        case rel => exact .inr ⟨by go_num, HL2, HOx⟩
        case measure => simp [intOf]
    · have e1 : ¬ ((s.size + 1 : Nat) : Int) ≤ (s.size : Int) := by omega
      rcases HO.out.row with ⟨_, h0⟩ | ⟨g, cp, rfl, h1, h2, h3, h4, h5⟩
      · have := splitK_ne c s.data.toList
        simp at h0
        exact absurd h0 this
      have HR := Lib.hid (show RetW (((splitK c s.data.toList).take (most + 1)).map bA) w (.returned (.slice (some ⟨g, 0, none⟩) ((splitK c s.data.toList).map bA).length cp)) wr by
        rw [List.take_of_length_le HL.out]
        exact ⟨g, cp, rfl, fun i x hx => (h3 i x hx).1, HO.out.2⟩)
      clear h1 h2 h3 h4 h5 HO HL
      obtain ⟨q, hq⟩ : ∃ q : Int, q = ((s.size + 1 : Nat) : Int) := ⟨_, rfl⟩
      rw [← hq] at e1 ⊢
      clear hq
      generalize ((splitK c s.data.toList).map bA).length = N at *
      go_wp2_with fail
      go_ret
      have := HR.out
      rw [List.map_take] at this
      exact this
end Go.Proofs.YtehdemcfeoiecaaDoor

namespace Go.Proofs.YtehdemcfeoiecaaDoor
open Go.RowKit Go.Firn Go.Shelf Go.Maps Go.WideMaps

/-- What the reference's Parse tells. -/
def prR (K : Key) : SL × Int := if K = [48] then ([], 0) else if vL (rdsR K) = true ∧ txL (rdsR K) = K then (rdsR K, 0) else ([], 3)
theorem piece_le {c : UInt8} : ∀ {K p : Key}, p ∈ splitK c K → p.length ≤ K.length
  | [], p, h => by
    simp [splitK] at h
    rw [h]
    exact Nat.le_refl _
  | b :: r, p, h => by
    unfold splitK at h
    split at h
    · rcases List.mem_cons.1 h with rfl | h
      · simp
      · have := piece_le h
        simp
        omega
    · obtain ⟨x, t, e⟩ := splitK_cons c r
      rw [e] at h
      rcases List.mem_cons.1 h with rfl | h
      · have := piece_le (c := c) (K := r) (p := x) (by rw [e]; exact List.mem_cons_self)
        simp
        omega
      · have := piece_le (c := c) (K := r) (p := p) (by rw [e]; exact List.mem_cons_of_mem _ h)
        simp
        omega
/-- Where the digits end. -/
theorem dg_take {p : Key} {j : Nat} (h : ∀ b ∈ p.take j, isDg b = true) (he : ∀ b, p[j]? = some b → isDg b = false) : p.takeWhile isDg = p.take j ∧ p.dropWhile isDg = p.drop j := by
  have e := take_word (d := p.take j) (k := []) h (by simp)
  have key : ∀ (d r : Key), (∀ b ∈ d, isDg b = true) → (∀ b, r[0]? = some b → isDg b = false) → (d ++ r).takeWhile isDg = d ∧ (d ++ r).dropWhile isDg = r := by
    intro d r hd hr
    induction d with
    | nil =>
      cases r with
      | nil => exact ⟨rfl, rfl⟩
      | cons b r => simp [hr b rfl]
    | cons b d ih =>
      have := ih fun c hc => hd c (List.mem_cons_of_mem _ hc)
      simp [hd b List.mem_cons_self, this.1, this.2]
  have := key (p.take j) (p.drop j) h (fun b hb => he b (by rwa [List.getElem?_drop, Nat.add_zero] at hb))
  rwa [List.take_append_drop] at this
theorem sat_next {p : Key} {j : Nat} {b : UInt8} (hb : p[j]? = some b) : satK (p.take (j + 1)) 0 = min (10 * satK (p.take j) 0 + ((b.toNat : Int) - 48)) 1000000 := by
  rw [List.take_add_one, hb]
  unfold satK
  rw [List.foldl_append]
  rfl
theorem sat_bd : ∀ (d : Key) (n : Int), (∀ b ∈ d, isDg b = true) → 0 ≤ n → n ≤ 1000000 → 0 ≤ satK d n ∧ satK d n ≤ 1000000
  | [], n, _, h0, h1 => ⟨h0, h1⟩
  | b :: r, n, h, h0, h1 => by
    have hb := h b List.mem_cons_self
    unfold isDg at hb
    simp only [Bool.and_eq_true, decide_eq_true_eq] at hb
    exact sat_bd r (min (10 * n + ((b.toNat : Int) - 48)) 1000000) (fun c hc => h c (List.mem_cons_of_mem _ hc)) (by omega) (by omega)
theorem dg_more {p : Key} {j : Nat} {b : UInt8} (hb : p[j]? = some b) (hd : isDg b = true) (h : ∀ b ∈ p.take j, isDg b = true) : ∀ b ∈ p.take (j + 1), isDg b = true := by
  rw [List.take_add_one, hb]
  intro x hx
  rcases List.mem_append.1 hx with hx | hx
  · exact h x hx
  · simp at hx
    rw [hx]; exact hd

/-- Pieces are returned. -/
def RetPc (P : List Key) (w : World) (e : Ending) (w' : World) : Prop := ∃ g c, e = .returned (.slice (some ⟨g, 0, none⟩) P.length c) ∧ (∀ i p, P[i]? = some p → w'.cell? ⟨g, i, none⟩ = some (.string (bA p))) ∧ Gr w w'
theorem RetPc.of {P : List Key} {w w' : World} {e : Ending} (h : RetW (P.map bA) w e w') : RetPc P w e w' := by
  obtain ⟨g, c, h1, h2, h3⟩ := h
  rw [List.length_map] at h1
  exact ⟨g, c, h1, fun i p hp => h2 i _ (by rw [List.getElem?_map, hp]; rfl), h3⟩
theorem rd_next {P : List Key} {k : Nat} {p : Key} (h : P[k]? = some p) : (P.take (k + 1)).map rdR = (P.take k).map rdR ++ [rdR p] := by
  rw [List.take_add_one, h, List.map_append]
  rfl

set_option maxRecDepth 100000 in
set_option maxHeartbeats 16000000 in
theorem refParse_any (s : ByteArray) (w : World) (hs : s.size ≤ 100000) :
    Calls Tryd.prog 31 #[.string s] w (RetSE (prR s.data.toList).1 (prR s.data.toList).2 w) := by
  have hbt : s.data.toList = s.toList := (ByteArray.toList_eq s).symm
  cases h0 : (s.toList == [48]) with
  | true =>
    have e : s.data.toList = [48] := by rw [hbt]; simpa using h0
    have ep : prR s.data.toList = ([], 0) := by unfold prR; rw [if_pos e]
    rw [ep]
    clear e ep hbt
    go_enter Tryd.func31, Tryd.ntmps31
    go_wp2_with fail
    refine bodyPost_ret (v := .tuple #[.slice none 0 0, .int .i64 0]) (by simp [results, Tryd.results31, go_sem]) rfl ?_
    exact RetSE.none (Gr.refl w) 0
  | false =>
    have e : s.data.toList ≠ [48] := by
      rw [hbt]
      intro e
      rw [e] at h0
      simp at h0
    have HP := Lib.hid (show prR s.data.toList = if vL (rdsR s.data.toList) = true ∧ txL (rdsR s.data.toList) = s.data.toList then (rdsR s.data.toList, 0) else ([], 3) by unfold prR; rw [if_neg e])
    have CS := Lib.hid (show Calls Tryd.prog 55 #[.string s, .int .u8 43, .int .i64 40] w (RetPc ((splitK 43 s.data.toList).take 41) w) from Calls.mono (split_any s 43 40 w (by omega) (by omega)) fun _ _ h => RetPc.of h)
    have HPl := Lib.hid (show ∀ p ∈ (splitK 43 s.data.toList).take 41, p.length ≤ 100000 by
      intro p hp
      have := piece_le (List.mem_of_mem_take hp)
      rw [size_key] at this
      omega)
    have HLn := Lib.hid (show ((splitK 43 s.data.toList).take 41).length ≤ 41 by rw [List.length_take]; omega)
    have HRd := Lib.hid (show ((splitK 43 s.data.toList).take 41).map rdR = rdsR s.data.toList from rfl)
    generalize (splitK 43 s.data.toList).take 41 = P at *
    clear e hs
    go_enter Tryd.func31, Tryd.ntmps31
    go_wp2_with (go_at_call 55; (with_reducible refine CS.out.mono ?_); rintro e w1 ⟨g, cp, rfl, hc, g1⟩; have HC := Lib.hid hc; have G1 := Lib.hid g1; clear hc g1 CS)
    go_loopw [4, 14] (fun s4 s14 wr => ∃ k : Nat, k ≤ P.length ∧ s14 = .int .i64 k ∧ Hid (OwnS w1 34 wr s4 ((P.take k).map rdR))) (fun _ s _ => P.length - (intOf s).toNat)
    case atStart => exact ⟨0, Nat.zero_le _, rfl, Lib.hid (OwnS.nil w1 34)⟩
    case round =>
      obtain ⟨k, hk, rfl, HO⟩ := hrel
      by_cases hlt : k < P.length
      · have i1 : (k : Int) < (P.length : Int) := by omega
        obtain ⟨p, hp⟩ : ∃ p, P[k]? = some p := ⟨_, List.getElem?_eq_getElem hlt⟩
        have cc := HO.out.2.cell (HC.out k p hp)
        have HN := Lib.hid (rd_next hp)
        have HB := Lib.hid (HPl.out p (List.mem_of_getElem? hp))
        have HKl := Lib.hid (show ((P.take k).map rdR).length < 999999 by rw [List.length_map, List.length_take]; have := HLn.out; omega)
        have HLk := Lib.hid hlt
        have HLk2 := Lib.hid (show k < 41 by have := HLn.out; omega)
        have w2 : IntKind.i64.wrap ((k : Int) + 1) = ((k + 1 : Nat) : Int) := by rw [IntWalk.i64_in _ (by have := HLn.out; omega)]; omega
        have HX := Lib.hid (bA_list p)
        have HXs := Lib.hid (bA_size p)
        generalize hx : bA p = x at *
        have HXe := Lib.hid hx
        clear hp hx hlt
        generalize wr = wo at *
        go_wp2_with fail
        go_loopw [7, 8] (fun s7 s8 wj => ∃ j : Nat, s8 = .int .i64 j ∧ s7 = .int .i64 (satK (p.take j) 0) ∧ Hid (j ≤ p.length ∧ ∀ b ∈ p.take j, isDg b = true) ∧ wj = wo) (fun _ s8 _ => p.length - (intOf s8).toNat)
        case atStart => exact ⟨0, rfl, rfl, Lib.hid ⟨Nat.zero_le _, by simp⟩, rfl⟩
        case round =>
          obtain ⟨j, rfl, rfl, HJ, rfl⟩ := hrel
          obtain ⟨d0, d1⟩ := sat_bd (p.take j) 0 HJ.out.2 (by omega) (by omega)
          by_cases hj : j < p.length
          · have hjx : j < x.size := by rw [HXs.out]; exact hj
            have j1 : (j : Int) < (x.size : Int) := by omega
            have HBt := Lib.hid (bt_at hjx)
            obtain ⟨b, hb⟩ : ∃ b, p[j]? = some b := ⟨_, List.getElem?_eq_getElem hj⟩
            have hbx : (x[j]'hjx).toNat = b.toNat := by
              have := HBt.out
              rw [HX.out, hb] at this
              rw [← Option.some.inj this]
            cases hd : isDg b with
            | true =>
              have hd2 := hd
              unfold isDg at hd2
              simp only [Bool.and_eq_true, decide_eq_true_eq] at hd2
              have HS := Lib.hid (sat_next hb)
              have HM := Lib.hid (dg_more hb hd HJ.out.2)
              have HJ2 := Lib.hid hj
              generalize hn : satK (p.take j) 0 = n at *
              have b1 : (48 : Int) ≤ (b.toNat : Int) := by omega
              have b2 : (b.toNat : Int) ≤ 57 := by omega
              have v1 : IntKind.i64.wrap (10 * n) = 10 * n := IntWalk.i64_in _ (by omega)
              have v2 : IntKind.u8.wrap ((b.toNat : Int) - 48) = (b.toNat : Int) - 48 := IntWalk.u8_in _ (by omega)
              have v3 : IntKind.i64.wrap ((b.toNat : Int) - 48) = (b.toNat : Int) - 48 := IntWalk.i64_in _ (by omega)
              have v4 : IntKind.i64.wrap (10 * n + ((b.toNat : Int) - 48)) = 10 * n + ((b.toNat : Int) - 48) := IntWalk.i64_in _ (by omega)
              have w3 : IntKind.i64.wrap ((j : Int) + 1) = ((j + 1 : Nat) : Int) := by rw [IntWalk.i64_in _ (by have := HB.out; omega)]; omega
              have HHn := Lib.hid hn
              clear hn hd hd2 hb hj HJ d0 d1
              go_wp2_with fail
              go_roundw
              case rel =>
                refine ⟨j + 1, by go_num, ?_, Lib.hid ⟨HJ2.out, HM.out⟩, ?_⟩
                · rw [HS.out]
                · first | rfl | trivial
              case measure => have := HJ2.out; simp [intOf]; omega
            | false =>
              have HTK := Lib.hid (dg_take HJ.out.2 (fun b' h' => by rw [hb] at h'; cases h'; exact hd))
              have hd2 := hd
              unfold isDg at hd2
              clear hb hd
              by_cases hlow : 48 ≤ b.toNat
              · have hhigh : ¬ b.toNat ≤ 57 := by intro h; simp [hlow, h] at hd2
                have b1 : (48 : Int) ≤ (b.toNat : Int) := by omega
                have b2 : ¬ (b.toNat : Int) ≤ 57 := by omega
                clear hd2 hlow hhigh
                have j7 : (j : Int) ≤ (x.size : Int) := by rw [HXs.out]; have := HJ.out.1; omega
                by_cases hj0 : j = 0
                · have HRp := Lib.hid (show rdR p = ((x.extract j x.size).data.toList, (1 : Int)) by
                    unfold rdR
                    rw [HTK.out.1, HTK.out.2, ext_key, HX.out, HXs.out, show (p.drop j).take (p.length - j) = p.drop j from List.take_of_length_le (by rw [List.length_drop]; exact Nat.le_refl _)]
                    rw [if_pos (by rw [hj0]; rfl)])
                  have j9 : ((j : Int) == 0) = true := by simp; omega
                  have HJj := Lib.hid HJ.out.1
                  clear hj0 HTK HJ d0 d1
                  generalize satK (p.take j) 0 = n at *
                  go_wp2_with (at_builtin; refine wpList_app_prod rfl _ _ 22 34 rfl Tryd.underlying22 info34 _ _ rfl (HO.out.gr ((Gr.refl _).alloc _)) _ _ _ rfl (cell_newp _ _ _ _ rfl) HKl.out ?_; intro v1 w4 hown _; have H1 := Lib.hid hown; clear hown)
                  go_roundw
                  case rel => exact ⟨k + 1, HLk.out, by go_num, Lib.hid (by rw [HN.out, HRp.out]; exact H1.out)⟩
                  case measure => have := HLk.out; simp [intOf]; omega
                · have HRp := Lib.hid (show rdR p = ((x.extract j x.size).data.toList, satK (p.take j) 0) by
                    unfold rdR
                    rw [HTK.out.1, HTK.out.2, ext_key, HX.out, HXs.out, show (p.drop j).take (p.length - j) = p.drop j from List.take_of_length_le (by rw [List.length_drop]; exact Nat.le_refl _)]
                    rw [if_neg (by intro e; have e2 := congrArg List.length e; rw [List.length_take] at e2; simp only [List.length_nil] at e2; have := HJ.out.1; omega)])
                  have j9 : ((j : Int) == 0) = false := by simp; omega
                  have HJj := Lib.hid HJ.out.1
                  clear hj0 HTK HJ d0 d1
                  generalize satK (p.take j) 0 = n at *
                  go_wp2_with (at_builtin; refine wpList_app_prod rfl _ _ 22 34 rfl Tryd.underlying22 info34 _ _ rfl (HO.out.gr ((Gr.refl _).alloc _)) _ _ _ rfl (cell_newp _ _ _ _ rfl) HKl.out ?_; intro v1 w4 hown _; have H1 := Lib.hid hown; clear hown)
                  go_roundw
                  case rel => exact ⟨k + 1, HLk.out, by go_num, Lib.hid (by rw [HN.out, HRp.out]; exact H1.out)⟩
                  case measure => have := HLk.out; simp [intOf]; omega
              · have b1 : ¬ (48 : Int) ≤ (b.toNat : Int) := by omega
                clear hd2 hlow
                have j7 : (j : Int) ≤ (x.size : Int) := by rw [HXs.out]; have := HJ.out.1; omega
                by_cases hj0 : j = 0
                · have HRp := Lib.hid (show rdR p = ((x.extract j x.size).data.toList, (1 : Int)) by
                    unfold rdR
                    rw [HTK.out.1, HTK.out.2, ext_key, HX.out, HXs.out, show (p.drop j).take (p.length - j) = p.drop j from List.take_of_length_le (by rw [List.length_drop]; exact Nat.le_refl _)]
                    rw [if_pos (by rw [hj0]; rfl)])
                  have j9 : ((j : Int) == 0) = true := by simp; omega
                  have HJj := Lib.hid HJ.out.1
                  clear hj0 HTK HJ d0 d1
                  generalize satK (p.take j) 0 = n at *
                  go_wp2_with (at_builtin; refine wpList_app_prod rfl _ _ 22 34 rfl Tryd.underlying22 info34 _ _ rfl (HO.out.gr ((Gr.refl _).alloc _)) _ _ _ rfl (cell_newp _ _ _ _ rfl) HKl.out ?_; intro v1 w4 hown _; have H1 := Lib.hid hown; clear hown)
                  go_roundw
                  case rel => exact ⟨k + 1, HLk.out, by go_num, Lib.hid (by rw [HN.out, HRp.out]; exact H1.out)⟩
                  case measure => have := HLk.out; simp [intOf]; omega
                · have HRp := Lib.hid (show rdR p = ((x.extract j x.size).data.toList, satK (p.take j) 0) by
                    unfold rdR
                    rw [HTK.out.1, HTK.out.2, ext_key, HX.out, HXs.out, show (p.drop j).take (p.length - j) = p.drop j from List.take_of_length_le (by rw [List.length_drop]; exact Nat.le_refl _)]
                    rw [if_neg (by intro e; have e2 := congrArg List.length e; rw [List.length_take] at e2; simp only [List.length_nil] at e2; have := HJ.out.1; omega)])
                  have j9 : ((j : Int) == 0) = false := by simp; omega
                  have HJj := Lib.hid HJ.out.1
                  clear hj0 HTK HJ d0 d1
                  generalize satK (p.take j) 0 = n at *
                  go_wp2_with (at_builtin; refine wpList_app_prod rfl _ _ 22 34 rfl Tryd.underlying22 info34 _ _ rfl (HO.out.gr ((Gr.refl _).alloc _)) _ _ _ rfl (cell_newp _ _ _ _ rfl) HKl.out ?_; intro v1 w4 hown _; have H1 := Lib.hid hown; clear hown)
                  go_roundw
                  case rel => exact ⟨k + 1, HLk.out, by go_num, Lib.hid (by rw [HN.out, HRp.out]; exact H1.out)⟩
                  case measure => have := HLk.out; simp [intOf]; omega
          · have hje : j = p.length := by have := HJ.out.1; omega
            have HTK := Lib.hid (dg_take HJ.out.2 (fun b' h' => by rw [hje, List.getElem?_eq_none (Nat.le_refl _)] at h'; cases h'))
            have j1 : ¬ (j : Int) < (x.size : Int) := by rw [HXs.out]; omega
            clear hj hje
            have j7 : (j : Int) ≤ (x.size : Int) := by rw [HXs.out]; have := HJ.out.1; omega
            by_cases hj0 : j = 0
            · have HRp := Lib.hid (show rdR p = ((x.extract j x.size).data.toList, (1 : Int)) by
                unfold rdR
                rw [HTK.out.1, HTK.out.2, ext_key, HX.out, HXs.out, show (p.drop j).take (p.length - j) = p.drop j from List.take_of_length_le (by rw [List.length_drop]; exact Nat.le_refl _)]
                rw [if_pos (by rw [hj0]; rfl)])
              have j9 : ((j : Int) == 0) = true := by simp; omega
              have HJj := Lib.hid HJ.out.1
              clear hj0 HTK HJ d0 d1
              generalize satK (p.take j) 0 = n at *
              go_wp2_with (at_builtin; refine wpList_app_prod rfl _ _ 22 34 rfl Tryd.underlying22 info34 _ _ rfl (HO.out.gr ((Gr.refl _).alloc _)) _ _ _ rfl (cell_newp _ _ _ _ rfl) HKl.out ?_; intro v1 w4 hown _; have H1 := Lib.hid hown; clear hown)
              go_roundw
              case rel => exact ⟨k + 1, HLk.out, by go_num, Lib.hid (by rw [HN.out, HRp.out]; exact H1.out)⟩
              case measure => have := HLk.out; simp [intOf]; omega
            · have HRp := Lib.hid (show rdR p = ((x.extract j x.size).data.toList, satK (p.take j) 0) by
                unfold rdR
                rw [HTK.out.1, HTK.out.2, ext_key, HX.out, HXs.out, show (p.drop j).take (p.length - j) = p.drop j from List.take_of_length_le (by rw [List.length_drop]; exact Nat.le_refl _)]
                rw [if_neg (by intro e; have e2 := congrArg List.length e; rw [List.length_take] at e2; simp only [List.length_nil] at e2; have := HJ.out.1; omega)])
              have j9 : ((j : Int) == 0) = false := by simp; omega
              have HJj := Lib.hid HJ.out.1
              clear hj0 HTK HJ d0 d1
              generalize satK (p.take j) 0 = n at *
              go_wp2_with (at_builtin; refine wpList_app_prod rfl _ _ 22 34 rfl Tryd.underlying22 info34 _ _ rfl (HO.out.gr ((Gr.refl _).alloc _)) _ _ _ rfl (cell_newp _ _ _ _ rfl) HKl.out ?_; intro v1 w4 hown _; have H1 := Lib.hid hown; clear hown)
              go_roundw
              case rel => exact ⟨k + 1, HLk.out, by go_num, Lib.hid (by rw [HN.out, HRp.out]; exact H1.out)⟩
              case measure => have := HLk.out; simp [intOf]; omega
      · obtain rfl : k = P.length := by omega
        have i1 : ¬ (P.length : Int) < (P.length : Int) := by omega
        have hOR := HO.out
        rw [List.take_length, HRd.out] at hOR
        obtain ⟨a', c', rfl, l1, l2, rd⟩ := hOR.rd
        have HG := Lib.hid (G1.out.trans hOR.2)
        have hR : ∀ x ∈ rdsR s.data.toList, x.1.length ≤ 100000 := by
          rw [← HRd.out]
          intro x hx
          obtain ⟨p, hp, rfl⟩ := List.mem_map.1 hx
          have h1 := HPl.out p hp
          have h2 : (rdR p).1.length ≤ p.length := (List.dropWhile_sublist _).length_le
          omega
        have hRl : (rdsR s.data.toList).length ≤ 41 := by rw [← HRd.out, List.length_map]; exact HLn.out
        generalize rdsR s.data.toList = R at *
        have C20 := Lib.hid (refValidSum_any a' R.length c' (sx R) (sy R) wr (by omega) (fun i hi => by
          have := hR ((sx R i).data.toList, sy R i) (List.mem_of_getElem? (key_sx hi))
          rw [size_key] at this
          omega) rd)
        have HRD := Lib.hid rd
        have HLL := Lib.hid (And.intro l1 l2)
        clear hOR hR HO rd l1 l2
        cases hv : vL R with
        | false =>
          rw [show vS (sx R) (sy R) R.length = false from hv] at C20
          have HQ := Lib.hid (show prR s.data.toList = ([], 3) by rw [HP.out, if_neg (by rw [hv]; simp)])
          clear hv HP
          go_wp2_with (go_at_call 20; (with_reducible refine C20.out.mono ?_); rintro e w5 ⟨rfl, g5⟩; have G5 := Lib.hid (HG.out.trans g5); clear g5 C20)
          rw [HQ.out]
          refine bodyPost_ret (v := .tuple #[.slice none 0 0, .int .i64 3]) (by simp [results, Tryd.results31, go_sem]) rfl ?_
          exact RetSE.none G5.out 3
        | true =>
          rw [show vS (sx R) (sy R) R.length = true from hv] at C20
          have C50 := Lib.hid (fun wx (k : Gr wr wx) => reftext_any a' c' R wx hv (HRD.out.gr k))
          cases hcmp : ((bA (txL R)).toList == s.toList) with
          | true =>
            have HQ := Lib.hid (show prR s.data.toList = (R, 0) by
              refine HP.out.trans (if_pos ⟨hv, ?_⟩)
              have : (bA (txL R)).toList = s.toList := by simpa using hcmp
              rw [ByteArray.toList_eq, ByteArray.toList_eq] at this
              exact this)
            clear hv HP
            generalize bA (txL R) = T at *
            go_wp2_with (first
              | (go_at_call 20; (with_reducible refine C20.out.mono ?_); rintro e w5 ⟨rfl, g5⟩; have G5 := Lib.hid g5; clear g5 C20)
              | (go_at_call 50; (with_reducible refine (C50.out _ G5.out).mono ?_); rintro e w6 ⟨rfl, g6⟩; have G6 := Lib.hid (G5.out.trans g6); clear g6 C50))
            rw [HQ.out]
            refine bodyPost_ret (v := .tuple #[.slice a' R.length c', .int .i64 0]) (by simp [results, Tryd.results31, go_sem]) rfl ?_
            exact ⟨a', c', rfl, HLL.out.1, HLL.out.2, HRD.out.gr G6.out, HG.out.trans G6.out⟩
          | false =>
            have HQ := Lib.hid (show prR s.data.toList = ([], 3) by
              rw [HP.out, if_neg]
              rintro ⟨_, e⟩
              have : (bA (txL R)).toList = s.toList := by rw [ByteArray.toList_eq, ByteArray.toList_eq]; exact e
              rw [this] at hcmp
              simp at hcmp)
            clear hv HP
            generalize bA (txL R) = T at *
            go_wp2_with (first
              | (go_at_call 20; (with_reducible refine C20.out.mono ?_); rintro e w5 ⟨rfl, g5⟩; have G5 := Lib.hid g5; clear g5 C20)
              | (go_at_call 50; (with_reducible refine (C50.out _ G5.out).mono ?_); rintro e w6 ⟨rfl, g6⟩; have G6 := Lib.hid (G5.out.trans g6); clear g6 C50))
            rw [HQ.out]
            refine bodyPost_ret (v := .tuple #[.slice none 0 0, .int .i64 3]) (by simp [results, Tryd.results31, go_sem]) rfl ?_
            exact RetSE.none (HG.out.trans G6.out) 3
end Go.Proofs.YtehdemcfeoiecaaDoor

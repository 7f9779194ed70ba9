/- Contracts of chapter 9: the reference's sum of two. -/
import Derived.Test.YtehdemcfeoiecaaDoorV6
namespace Go.Proofs.YtehdemcfeoiecaaDoor
open Go.RowKit Go.Firn Go.Shelf Go.Maps Go.WideMaps

theorem ofS_pre {f : Nat → ByteArray} {g : Nat → Int} {n k : Nat} (h : k ≤ n) : ofS f g k = (ofS f g n).take k := by
  unfold ofS
  rw [← List.map_take, List.take_range, Nat.min_eq_left h]
theorem OkL.take {L : SL} (h : OkL L) (k : Nat) : OkL (L.take k) :=
  ⟨⟨h.vl.1.sublist (List.take_sublist _ _), fun x hx => h.vl.2.1 x (List.mem_of_mem_take hx), fun x hx => h.vl.2.2 x (List.mem_of_mem_take hx)⟩, by rw [List.length_take]; have := h.le; omega, fun x hx => h.key x (List.mem_of_mem_take hx), fun x hx => h.cnt x (List.mem_of_mem_take hx)⟩
theorem put_len {k : Key} {m : Int} : ∀ {L : SL}, (putL k m L).length ≤ L.length + 1
  | [] => by simp [putL]
  | x :: r => by
    unfold putL
    split
    · have := put_len (k := k) (m := m) (L := r)
      simp only [List.length_cons]; omega
    · split <;> simp
theorem plus_len {t : SL} : ∀ {s : SL}, (plusL s t).length ≤ s.length + t.length := by
  induction t with
  | nil => intro s; simp [plusL]
  | cons x r ih =>
    intro s
    have h1 := ih (s := putL x.1 x.2 s)
    have h2 := put_len (k := x.1) (m := x.2) (L := s)
    have e : plusL s (x :: r) = plusL (putL x.1 x.2 s) r := rfl
    rw [e, List.length_cons]
    omega
theorem inn_len {a : Key × Int} {t : SL} : ∀ {o : SL}, (innL a t o).length ≤ o.length + t.length := by
  induction t with
  | nil => intro o; simp [innL]
  | cons x r ih =>
    intro o
    have h1 := ih (o := putL (mx a.1 x.1) (a.2 * x.2) o)
    have h2 := put_len (k := mx a.1 x.1) (m := a.2 * x.2) (L := o)
    have e : innL a (x :: r) o = innL a r (putL (mx a.1 x.1) (a.2 * x.2) o) := rfl
    rw [e, List.length_cons]
    omega
theorem plus_snoc {s t : SL} {x : Key × Int} : plusL s (t ++ [x]) = putL x.1 x.2 (plusL s t) := by
  unfold plusL; rw [List.foldl_append]; rfl
theorem inn_snoc {a x : Key × Int} {t o : SL} : innL a (t ++ [x]) o = putL (mx a.1 x.1) (a.2 * x.2) (innL a t o) := by
  unfold innL; rw [List.foldl_append]; rfl
theorem cnt_bd {L : SL} {m T : Int} (hp : Pos L) (ht : tot (fun _ => 1) L ≤ T) (h : T + m ≤ 4000000000000000000) : ∀ x ∈ L, 0 ≤ x.2 ∧ x.2 + m ≤ 4000000000000000000 := fun x hx => by
  have := tot_one_mem hp hx
  omega

set_option maxRecDepth 100000 in
set_option maxHeartbeats 4000000 in
theorem rplus_any (a : Option Addr) (n c : Nat) (f : Nat → ByteArray) (g : Nat → Int) (a' : Option Addr) (n' c' : Nat) (f' : Nat → ByteArray) (g' : Nat → Int) (w : World) (ha : SlA a n c)
    (hO : OkL (ofS f g n)) (hO' : OkL (ofS f' g' n')) (hr : RdS w a n f g) (hr' : RdS w a' n' f' g') :
    Calls Tryd.prog 40 #[.slice a n c, .slice a' n' c'] w (RetO w (plusL (ofS f g n) (ofS f' g' n'))) := by
  have hn : n ≤ 40 := by have := hO.le; rwa [ofS_length] at this
  have hn' : n' ≤ 40 := by have := hO'.le; rwa [ofS_length] at this
  have C1 := Lib.hid (copied_any a n c f g w (by omega) ha hr)
  have HR := Lib.hid hr'
  have HO := Lib.hid (show ∀ k, k < n' → (plusL (ofS f g n) (ofS f' g' k)).length ≤ 900000 ∧ (∀ x ∈ plusL (ofS f g n) (ofS f' g' k), 0 ≤ x.2 ∧ x.2 + g' k ≤ 4000000000000000000) ∧ 0 ≤ g' k from fun k hk => by
    have hk' : OkL (ofS f' g' k) := by rw [ofS_pre (Nat.le_of_lt hk)]; exact hO'.take k
    have h1 := hO'.cnt _ (ofS_mem.2 ⟨k, hk, rfl⟩)
    have h2 := hO'.vl.2.1 _ (ofS_mem.2 ⟨k, hk, rfl⟩)
    simp only [] at h1 h2
    refine ⟨?_, cnt_bd (T := 8000000) (Pos.plus hk'.vl.2.1 hO.vl.2.1) (by rw [tot_plus]; have := hO.tot; have := hk'.tot; omega) (by omega), by omega⟩
    have := plus_len (s := ofS f g n) (t := ofS f' g' k)
    rw [ofS_length, ofS_length] at this
    omega)
  have HS := Lib.hid (show ∀ k, plusL (ofS f g n) (ofS f' g' (k + 1)) = putL (f' k).data.toList (g' k) (plusL (ofS f g n) (ofS f' g' k)) from fun k => by rw [ofS_succ, plus_snoc])
  clear hr hr' hO hO' ha
  go_enter Tryd.func40, Tryd.ntmps40
  go_wp2_with (go_at_call 64; refine C1.out.mono ?_; rintro e w1 ⟨v1, rfl, h1⟩; have H1 := Lib.hid h1; clear h1)
  clear C1
  go_loopw [5, 12] (fun vo si wr => ∃ k : Nat, k ≤ n' ∧ si = .int .i64 k ∧ Hid (OwnS w 34 wr vo (plusL (ofS f g n) (ofS f' g' k)))) (fun _ si _ => n' - (intOf si).toNat)
  case atStart => exact ⟨0, Nat.zero_le _, rfl, H1⟩
  case round =>
    obtain ⟨k, hk, rfl, HW⟩ := hrel
    by_cases hlt : k < n'
    · have i1 : (k : Int) < (n' : Int) := by omega
      obtain ⟨b, o, rfl, hc⟩ := (HR.out.gr HW.out.2).at hlt
      obtain ⟨k0, k1⟩ := hc k hlt
      obtain ⟨z0, z1⟩ := box2 wr (f' k) (g' k) 34
      obtain ⟨q1, q2, q3⟩ := HO.out k hlt
      have C := Lib.hid (put_any w _ _ (f' k) (g' k) (wr.alloc (.cells #[.string (f' k), .int .i64 (g' k)] 34)) (HW.out.alloc _) q1 q2 q3)
      rw [← HS.out k] at C
      clear hc q1 q2 q3
      generalize f' k = s at *
      generalize g' k = m at *
      go_wp2_with (go_at_call 65; refine C.out.mono ?_; rintro e w2 ⟨v2, rfl, h2, _, _⟩; have H2 := Lib.hid h2; clear h2)
      go_roundw
      case rel => exact ⟨k + 1, hlt, by go_num, H2⟩
      case measure => simp [intOf]; omega
    · obtain rfl : k = n' := by omega
      have i1 : ¬ (k : Int) < (k : Int) := by omega
      go_wp2
      go_ret
      exact ⟨_, rfl, HW.out⟩

set_option maxHeartbeats 1000000 in
theorem limited_any (w0 : World) (v : Value) (L : SL) (w : World) (ho : OwnS w0 34 w v L) (hz : ∀ x ∈ L, x.1.length ≤ 1000) :
    Calls Tryd.prog 39 #[v] w (RetSE (ansL true L) (ansE true L) w0) := by
  obtain ⟨a, c, rfl, h1, h2, h3⟩ := ho.rd
  have hLn : L.length ≤ 9223372036854775807 := by unfold maxLen at h2; omega
  have C := Lib.hid (over_any a L.length c (sx L) (sy L) w hLn (fun i hi => by
    have hm : L[i] ∈ L := List.getElem_mem hi
    have := hz _ hm
    rw [← size_key]
    simp only [sx, List.getD_eq_getElem?_getD, List.getElem?_eq_getElem hi, Option.getD_some]
    simp
    omega) h3)
  rw [ofS_sx] at C
  have HO := Lib.hid ho
  have HH := Lib.hid (And.intro h1 (And.intro h2 h3))
  clear ho hz h1 h2 h3
  cases hv : overL L with
  | true =>
    rw [hv] at C
    go_enter Tryd.func39, Tryd.ntmps39
    go_wp2_with (go_at_call 63; refine C.out.mono ?_; rintro e w1 ⟨rfl, g1⟩; have G1 := Lib.hid g1; clear g1)
    refine bodyPost_ret (v := .tuple #[.slice none 0 0, .int .i64 4]) (by simp [results, Tryd.results39, go_sem]) rfl ?_
    rw [show ansL true L = [] by simp [ansL, hv], show ansE true L = 4 by simp [ansE, hv]]
    exact RetSE.none (HO.out.2.trans G1.out) _
  | false =>
    rw [hv] at C
    go_enter Tryd.func39, Tryd.ntmps39
    go_wp2_with (go_at_call 63; refine C.out.mono ?_; rintro e w1 ⟨rfl, g1⟩; have G1 := Lib.hid g1; clear g1)
    refine bodyPost_ret (v := .tuple #[.slice a L.length c, .int .i64 0]) (by simp [results, Tryd.results39, go_sem]) rfl ?_
    rw [show ansL true L = L by simp [ansL, hv], show ansE true L = 0 by simp [ansE, hv]]
    exact ⟨a, c, rfl, HH.out.1, HH.out.2.1, HH.out.2.2.gr G1.out, HO.out.2.trans G1.out⟩

end Go.Proofs.YtehdemcfeoiecaaDoor

import Derived.Test.YtehdemcfeoiecaaGreatDoorCards
import Derived.Test.YtehdemcfeoiecaaGreatDoorTie
import Derived.OpenShut
import Derived.ShutString
import Derived.ChangeOld
import Derived.Below
import Derived.Deep.DeepHandedRow
import Derived.Lib.LaidTab
import Derived.Stop.LaidErr
import Derived.LaidSub
import Derived.Test.YtehdemcfeoiecaaGreatDoorK06
import Derived.Test.YtehdemcfeoiecaaGreatDoorK19
set_option maxHeartbeats 64000000
set_option maxRecDepth 100000
namespace Go.Proofs.YtehdemcfeoiecaaGreatDoor
open Go.RowKit Go.Firn Go.Firn.Tb RS
theorem OwL.tight {w : World} {b n : Nat} {L : SL} (h : OwL w b n L) : OwL w b L.length L := by
 obtain ⟨es, clock, hb, F, hs, hD⟩ := h
 refine ⟨es, clock, hb, F, ?_, hD⟩
 have hsz := mapD_size (H := Unit) L
 rw [hD] at hsz
 simp only [Maps.size, length_sorted] at hsz
 simp at hsz
 omega
theorem retD_ln {N : Nat} {L : SL} {w : World} {e : Ending} {w' : World} (h : RetLn N L w e w') : RetD L w e w' := by
 obtain ⟨b, n, h1, _, h2, h3, _⟩ := h
 exact ⟨b, h1, h2.tight, h3⟩
theorem putL_length (k : Key) (n : Int) : ∀ L : SL, (putL k n L).length ≤ L.length + 1
 | [] => by simp [putL]
 | x :: r => by
  have := putL_length k n r
  unfold putL
  split
  ·simp; omega
  split <;> simp
theorem plusL_length : ∀ (t s : SL), (plusL s t).length ≤ s.length + t.length
 | [], s => by simp [plusL]
 | x :: r, s => by
  have h1 := plusL_length r (putL x.1 x.2 s)
  have h2 := putL_length x.1 x.2 s
  show (plusL (putL x.1 x.2 s) r).length ≤ _
  simp
  omega
theorem innL_length (a : Key × Int) : ∀ (t o : SL), (innL a t o).length ≤ o.length + t.length
 | [], o => by simp [innL]
 | x :: r, o => by
  have h1 := innL_length a r (putL (mx a.1 x.1) (a.2 * x.2) o)
  have h2 := putL_length (mx a.1 x.1) (a.2 * x.2) o
  show (innL a r (putL (mx a.1 x.1) (a.2 * x.2) o)).length ≤ _
  simp
  omega
theorem timesF_length (t : SL) : ∀ (s o : SL), (timesF s t o).length ≤ o.length + s.length * t.length
 | [], o => by simp [timesF]
 | x :: r, o => by
  have h1 := timesF_length t r (innL x t o)
  have h2 := innL_length x t o
  show (timesF r t (innL x t o)).length ≤ _
  rw [List.length_cons, Nat.add_mul, Nat.one_mul]
  omega
def muS (L : SL) : Nat := L.length * 8796093022208 + (tot (fun _ => 1) L).toNat
theorem tot_le {B : Int} : ∀ {L : SL}, Pos L → (∀ x ∈ L, x.2 ≤ B) → tot (fun _ => 1) L ≤ B * L.length
 | [], _, _ => by simp [tot]
 | x :: r, hp, h => by
  have h1 := tot_le (L := r) (fun y hy => hp y (List.mem_cons_of_mem x hy)) fun y hy => h y (List.mem_cons_of_mem x hy)
  have h2 := h x List.mem_cons_self
  simp only [tot, List.length_cons]
  rw [Int.natCast_add, Int.mul_add]
  simp
  omega
theorem fits_bd {L : SL} (hg : GS L) (h : RgS.fits L = true) : L.length ≤ 40 ∧ tot (fun _ => 1) L ≤ 4000000 := by
 have h' : overL L = false := by simpa [RgS] using h
 obtain ⟨h1, h2⟩ := over_iff.1 h'
 refine ⟨h2, ?_⟩
 have := tot_le (B := 100000) hg.1.2.1 fun x hx => (h1 x hx).1
 omega
theorem tot_const (c : Int) : ∀ L : SL, tot (fun _ => c) L = tot (fun _ => 1) L * c
 | [] => by simp [tot]
 | x :: r => by
  simp only [tot]
  rw [tot_const c r, Int.add_mul]
  congr 1
  simp
theorem tot_prod (a b : SL) : tot (fun _ => 1) (timesL a b) = tot (fun _ => 1) a * tot (fun _ => 1) b := by
 rw [tot_times]
 exact tot_const _ a
theorem muS_mul {x y : SL} (hx : GS x) (hy : GS y) (fx : RgS.fits x = true) (fy : RgS.fits y = true) : muS (timesL x y) ≤ 14089748835532800 := by
 obtain ⟨a1, a2⟩ := fits_bd hx fx
 obtain ⟨b1, b2⟩ := fits_bd hy fy
 have hl : (timesL x y).length ≤ 1600 := by
  have h := timesF_length y x []
  have h2 : x.length * y.length ≤ 40 * 40 := Nat.mul_le_mul a1 b1
  simp at h
  show (timesF x y []).length ≤ 1600
  omega
 have ht : tot (fun _ => 1) (timesL x y) ≤ 16000000000000 := by
  rw [tot_prod]
  have h1 := tot_one_pos hx.1.2.1
  have h2 := tot_one_pos hy.1.2.1
  have := Int.mul_le_mul a2 b2 h2 (by omega)
  omega
 unfold muS
 omega
def FS : RF := ⟨108, 109, 110, 111, #[], #[], #[], #[]⟩
theorem staysS_any (y : Nat) (d : SL) (w : World) (h : Rep w y d) : Calls Tryz.prog 110 #[.map (some y)] w (RetB (RgS.stays d) w) := by
 have H := Lh h
 have HE := Lh (show RgS.stays d = decide (0 < d.length) by
  show decide (d ≠ []) = _
  refine decide_eq_decide.2 ?_
  rw [← List.length_pos_iff])
 rw [HE.out]
 have hlen := World.ownsMap.len h Tryz.underlying113 3
 rw [mapD_size] at hlen
 clear h HE
 go_enter Tryz.func110, Tryz.ntmps110
 go_wp2_with fail
 go_ret
 exact ⟨rfl, Gr.refl w⟩
theorem fitsS_any (y : Nat) (d : SL) (w : World) (h : Rep w y d) (hg : GS d) (hm : muS d ≤ 4000000000000000000) : Calls Tryz.prog 111 #[.map (some y)] w (RetB (RgS.fits d) w) := by
 have h1 := tot_one_pos hg.1.2.1
 have C := Lh (products_any y d.length d w h (by unfold muS at hm; omega) hg.1 (fun x hx => Nat.le_trans (hg.2.1 x hx) (by omega)) (by unfold muS at hm; omega))
 have HE := Lh (show RgS.fits d = !overL d from rfl)
 rw [HE.out]
 clear h hg hm HE h1
 go_enter Tryz.func111, Tryz.ntmps111
 go_wp2_with (go_at_call 81; (refine C.out.mono ?_); rintro e w1 ⟨a, c, rfl, _, _, _, g1⟩; have G1 := Lh g1; clear g1)
 go_ret
 exact ⟨rfl, G1.out⟩
theorem ringS {w : World} : RingOk FS RgS GS muS 4000000000000000000 w where
 ep := enters_of Tryz.func108 (by kernel_rfl) rfl
 et := enters_of Tryz.func109 (by kernel_rfl) rfl
 es := enters_of Tryz.func110 (by kernel_rfl) rfl
 ef := enters_of Tryz.func111 (by kernel_rfl) rfl
 plus := fun W y z d e g hy hz hd he hB => by
  have h1 := tot_one_pos hd.1.2.1
  have h2 := tot_one_pos he.1.2.1
  unfold muS at hB
  exact (plus_any y z d.length e.length d e W hy hz (by omega) hd.1.1 he.1.1 hd.1.2.1 he.1.2.1 (by omega)).mono fun _ _ h => retD_ln h
 times := fun W y z d e g hy hz hd he sd se fd fe => by
  obtain ⟨a1, a2⟩ := fits_bd hd fd
  obtain ⟨b1, b2⟩ := fits_bd he fe
  have hm := muS_mul hd he fd fe
  have h1 := tot_one_pos (hd.1.times he.1).2.1
  unfold muS at hm
  exact (times_any y z d.length e.length d e W hy hz (by omega) (by omega) hd.1.1 he.1.1 hd.1.2.1 he.1.2.1 (by omega) (fun x hx => Nat.le_trans (hd.2.1 x hx) (by omega)) (fun x hx => Nat.le_trans (he.2.1 x hx) (by omega))).mono fun _ _ h => retD_ln h
 stays := fun W y d g hy hd => staysS_any y d W hy
 fits := fun W y d g hy hd hB => fitsS_any y d W hy hd hB
 law := lawS
 mu := fun a b ha hb => by
  have h1 := plusL_length b a
  have h2 := tot_plus (fun _ => 1) b a
  have h3 := tot_one_pos ha.1.2.1
  have h4 := tot_one_pos hb.1.2.1
  show muS (plusL a b) ≤ _
  unfold muS
  rw [h2]
  generalize 8796093022208 = K
  have := Nat.mul_le_mul_right K h1
  rw [Nat.add_mul] at this
  omega
theorem fromS_any (a : Option Addr) (n c : Nat) (L : SL) (w : World) (hr : RdP w a n c L) (h0 : G0 L) : Calls Tryz.prog 80 #[.slice a n c] w (RetD L w) := by
 obtain ⟨h1, h2⟩ := vL_iff.1 h0.1
 obtain ⟨h3, h4⟩ := over_iff.1 h2
 have hn := hr.1
 have hL := ofS_sx L
 rw [← hn] at hL
 have := newSum_any a n c (sx L) (sy L) w (by rw [hL]; exact h1.1) (by omega) (fun i hi => by
  have hm := sx_mem (L := L) (k := i) (by omega)
  have hp := h1.2.1 _ hm
  have hb := h3 _ hm
  refine ⟨?_, hp, by omega⟩
  have h9 : (sx L i).data.toList.length ≤ 12 := hb.2
  have e9 : (sx L i).data.toList.length = (sx L i).size := Array.length_toList
  omega) hr.2.2.2.2
 rw [hL] at this
 exact this.mono fun _ _ h => retD_ln h
theorem ansS {w : World} : AnsOk FS RgS GS muS 4000000000000000000 14089748835532800 80 #[] (fun L => L) w where
 ring := ringS
 from_ := ⟨enters_of Tryz.func80 (by kernel_rfl) rfl, fun W a n c L g hr h0 => fromS_any a n c L W hr h0⟩
 good := fun _ h => GS.of h
 fit := fun d hd hf => by
  obtain ⟨a1, a2⟩ := fits_bd hd hf
  unfold muS
  omega
 mul := fun x y hx hy _ _ fx fy => muS_mul hx hy fx fy
 beg := fun L h0 => by
  have hg := GS.of h0
  obtain ⟨h1, h2⟩ := vL_iff.1 h0.1
  obtain ⟨a1, a2⟩ := fits_bd hg (by simp [RgS, h2])
  unfold muS
  omega
 room := by decide
end Go.Proofs.YtehdemcfeoiecaaGreatDoor
namespace Go.Proofs.YtehdemcfeoiecaaGreatDoor.RE
open Go.RowKit Go.Firn Go.Firn.Tb
structure Rw where
 a : Option Addr
 n : Nat
 c : Nat
 fa : Option Addr
 fn : Nat
 fc : Nat
 y : Int
def Rep (w0 w : World) (x : Rw) (d : SL × Int) : Prop := RdP w x.fa x.fn x.fc d.1 ∧ Old w0 w 58 x.fn x.fa ∧ x.y = d.2
theorem Rep.gr {w0 w w' : World} {x : Rw} {d : SL × Int} (h : Rep w0 w x d) (g : Gr w w') : Rep w0 w' x d := ⟨h.1.gr g, h.2.1.gr g, h.2.2⟩
theorem rdS_wr {w w' : World} {a : Option Addr} {n b : Nat} {f : Nat → ByteArray} {g : Nat → Int} (h : RdS w a n f g) (k : Wr b w w') (ho : Off b n a) : RdS w' a n f g := by
 rcases h with h | ⟨b', o, ha, hc⟩
 ·exact .inl h
 rcases ho with ho | ho
 ·exact .inl ho
 exact .inr ⟨b', o, ha, fun i hi => ⟨k.cell (hc i hi).1 (show b' ≠ b from ho _ ha), k.cell (hc i hi).2 (show b' ≠ b from ho _ ha)⟩⟩
theorem rdP_wr {w w' : World} {a : Option Addr} {n c b : Nat} {L : SL} (h : RdP w a n c L) (g : Wr b w w') (ho : Off b n a) : RdP w' a n c L := ⟨h.1, h.2.1, h.2.2.1, h.2.2.2.1, rdS_wr h.2.2.2.2 g ho⟩
theorem Rep.wr {w0 w w' : World} {x : Rw} {d : SL × Int} (h : Rep w0 w x d) {b : Nat} {cur : Array Value} {e : TypeId} {fz : Nat × Nat} (hb : w.heap[b]? = some (.cells cur e fz)) (hne : 58 ≠ e) (h0 : w0.heap.size ≤ b) (g : Wr b w w') : Rep w0 w' x d :=
 ⟨rdP_wr h.1 g (h.2.1.off h0 hb hne), h.2.1.wr g (h.2.1.off h0 hb hne), h.2.2⟩
theorem old_of_rds {w : World} {a : Option Addr} {n : Nat} {f : Nat → ByteArray} {g : Nat → Int} (h : RdS w a n f g) (e : TypeId) : Old w w e n a := by
 rcases h with h | ⟨b, o, rfl, hc⟩
 ·exact .inl h
 rcases Nat.eq_zero_or_pos n with k | k
 ·exact .inl k
 refine .inr fun ad e => ?_
 obtain rfl := Option.some.inj e
 exact .inl (World.block_lt_of_cell? w _ (hc 0 k).1)
def pkr (raw : List Rw) : List Value := raw.flatMap fun x => [.slice x.a x.n x.c, .slice x.fa x.fn x.fc, .int .i64 x.y]
theorem pkr_length (raw : List Rw) : (pkr raw).length = raw.length * 3 := by
 induction raw with
 | nil => rfl
 | cons m ms ih =>
  have : pkr (m :: ms) = [.slice m.a m.n m.c, .slice m.fa m.fn m.fc, .int .i64 m.y] ++ pkr ms := rfl
  rw [this, List.length_append, ih]; simp; omega
theorem pkr_append (a b : List Rw) : pkr (a ++ b) = pkr a ++ pkr b := by simp [pkr]
theorem pkr_at : ∀ (raw : List Rw) (i : Nat) (x : Rw), raw[i]? = some x → (pkr raw)[i * 3]? = some (.slice x.a x.n x.c) ∧ (pkr raw)[i * 3 + 1]? = some (.slice x.fa x.fn x.fc) ∧ (pkr raw)[i * 3 + 2]? = some (.int .i64 x.y)
 | [], i, x, h => by simp at h
 | m :: ms, i, x, h => by
  have e : pkr (m :: ms) = .slice m.a m.n m.c :: .slice m.fa m.fn m.fc :: .int .i64 m.y :: pkr ms := rfl
  cases i with
  | zero => simp at h; subst h; rw [e]; exact ⟨rfl, rfl, rfl⟩
  | succ i =>
   have := pkr_at ms i x (by simpa using h)
   rw [e, show (i + 1) * 3 = i * 3 + 1 + 1 + 1 by omega]
   simpa using this
def RdR (w : World) (a : Option Addr) (n c : Nat) (raw : List Rw) : Prop := n = raw.length ∧ n ≤ c ∧ c ≤ 9223372036854775807 ∧ (a = none → c = 0) ∧ (n = 0 ∨ ∃ b o, a = some ⟨b, o, none⟩ ∧ ∀ i x, raw[i]? = some x → w.cell? ⟨b, o + i * 3, none⟩ = some (.slice x.a x.n x.c) ∧ w.cell? ⟨b, o + i * 3 + 1, none⟩ = some (.slice x.fa x.fn x.fc) ∧ w.cell? ⟨b, o + i * 3 + 2, none⟩ = some (.int .i64 x.y))
theorem RdR.gr {w w' : World} {a : Option Addr} {n c : Nat} {raw : List Rw} (h : RdR w a n c raw) (g : Gr w w') : RdR w' a n c raw := by
 obtain ⟨h1, h2, h3, h4, h5⟩ := h
 refine ⟨h1, h2, h3, h4, ?_⟩
 rcases h5 with h5 | ⟨b, o, e, hc⟩
 ·exact .inl h5
 exact .inr ⟨b, o, e, fun i x hi => ⟨g.cell (hc i x hi).1, g.cell (hc i x hi).2.1, g.cell (hc i x hi).2.2⟩⟩
theorem RdR.at {w : World} {a : Option Addr} {n c : Nat} {raw : List Rw} (h : RdR w a n c raw) {k : Nat} (hk : k < n) : ∃ b o x, a = some ⟨b, o, none⟩ ∧ raw[k]? = some x ∧ w.cell? ⟨b, o + k * 3, none⟩ = some (.slice x.a x.n x.c) ∧ w.cell? ⟨b, o + k * 3 + 1, none⟩ = some (.slice x.fa x.fn x.fc) ∧ w.cell? ⟨b, o + k * 3 + 2, none⟩ = some (.int .i64 x.y) := by
 obtain ⟨h1, h2, h3, h4, h5⟩ := h
 rcases h5 with h5 | ⟨b, o, e, hc⟩
 ·omega
 have hx : raw[k]? = some (raw[k]'(by omega)) := List.getElem?_eq_getElem (by omega)
 exact ⟨b, o, _, e, hx, hc k _ hx⟩
def Dat (w0 w : World) (raw : List Rw) (L : Tbl (SL × Int)) : Prop := raw.length = L.length ∧ ∀ (i : Nat) (x : Rw) (r : List Int × (SL × Int)), raw[i]? = some x → L[i]? = some r → Rd3 w x.a x.n x.c r.1 ∧ Old w0 w 3 x.n x.a ∧ Rep w0 w x r.2
theorem Dat.gr {w0 w w' : World} {raw : List Rw} {L : Tbl (SL × Int)} (h : Dat w0 w raw L) (g : Gr w w') : Dat w0 w' raw L := ⟨h.1, fun i x r hx hr => by
 obtain ⟨h1, h2, h3⟩ := h.2 i x r hx hr
 exact ⟨h1.gr g, h2.gr g, h3.gr g⟩⟩
theorem Dat.wr {w0 w w' : World} {raw : List Rw} {L : Tbl (SL × Int)} (h : Dat w0 w raw L) {b : Nat} {cur : Array Value} {e : TypeId} {fz : Nat × Nat} (hb : w.heap[b]? = some (.cells cur e fz)) (hne : 3 ≠ e) (hne58 : 58 ≠ e) (h0 : w0.heap.size ≤ b) (g : Wr b w w') : Dat w0 w' raw L := ⟨h.1, fun i x r hx hr => by
 obtain ⟨h1, h2, h3⟩ := h.2 i x r hx hr
 have ho := h2.off h0 hb hne
 exact ⟨h1.wr g ho, h2.wr g ho, h3.wr hb hne58 h0 g⟩⟩
theorem Dat.nil (w0 w : World) : Dat w0 w [] [] := ⟨rfl, fun i x r hx _ => by simp at hx⟩
theorem Dat.base {w0 w1 w : World} {raw : List Rw} {L : Tbl (SL × Int)} (h : Dat w0 w raw L) (g : w0.heap.size ≤ w1.heap.size) : Dat w1 w raw L := ⟨h.1, fun i x r hx hr => by
 obtain ⟨h1, h2, h3⟩ := h.2 i x r hx hr
 exact ⟨h1, h2.base g, h3.1, h3.2.1.base g, h3.2.2⟩⟩
theorem Dat.own {w0 w : World} {raw : List Rw} {L : Tbl (SL × Int)} (h : Dat w0 w raw L) : Dat w w raw L := ⟨h.1, fun i x r hx hr => by
 obtain ⟨h1, _, h3⟩ := h.2 i x r hx hr
 exact ⟨h1, Old.of_rd h1.2.2.2.2 3, h3.1, old_of_rds h3.1.2.2.2.2 58, h3.2.2⟩⟩
theorem Dat.snoc {w0 w : World} {raw : List Rw} {L : Tbl (SL × Int)} (h : Dat w0 w raw L) {x : Rw} {r : List Int × (SL × Int)} (h1 : Rd3 w x.a x.n x.c r.1) (h2 : Old w0 w 3 x.n x.a) (h3 : Rep w0 w x r.2) : Dat w0 w (raw ++ [x]) (L ++ [r]) := by
 refine ⟨by simp [h.1], fun i y s hy hs => ?_⟩
 rcases Nat.lt_or_ge i raw.length with k | k
 ·rw [List.getElem?_append_left k] at hy
  rw [List.getElem?_append_left (by have := h.1; omega)] at hs
  exact h.2 i y s hy hs
 rw [List.getElem?_append_right k] at hy
 rw [List.getElem?_append_right (by have := h.1; omega)] at hs
 have hi : i - raw.length = 0 := by
  rcases Nat.eq_zero_or_pos (i - raw.length) with q | q
  ·exact q
  rw [List.getElem?_eq_none (by simp; omega)] at hy; cases hy
 rw [hi] at hy
 rw [← h.1, hi] at hs
 simp at hy hs
 subst hy; subst hs
 exact ⟨h1, h2, h3⟩
theorem Dat.append {w0 w : World} {raw raw' : List Rw} {L L' : Tbl (SL × Int)} (h : Dat w0 w raw L) (h' : Dat w0 w raw' L') : Dat w0 w (raw ++ raw') (L ++ L') := by
 refine ⟨by simp [h.1, h'.1], fun i y s hy hs => ?_⟩
 rcases Nat.lt_or_ge i raw.length with k | k
 ·rw [List.getElem?_append_left k] at hy
  rw [List.getElem?_append_left (by have := h.1; omega)] at hs
  exact h.2 i y s hy hs
 rw [List.getElem?_append_right k] at hy
 rw [List.getElem?_append_right (by have := h.1; omega), ← h.1] at hs
 exact h'.2 _ y s hy hs
theorem Dat.at {w0 w : World} {raw : List Rw} {L : Tbl (SL × Int)} (h : Dat w0 w raw L) {k : Nat} {x : Rw} (hx : raw[k]? = some x) : ∃ r, L[k]? = some r ∧ Rd3 w x.a x.n x.c r.1 ∧ Old w0 w 3 x.n x.a ∧ Rep w0 w x r.2 := by
 have hk : k < raw.length := by
  rcases Nat.lt_or_ge k raw.length with q | q
  ·exact q
  rw [List.getElem?_eq_none q] at hx; cases hx
 have hr : L[k]? = some (L[k]'(by have := h.1; omega)) := List.getElem?_eq_getElem (by have := h.1; omega)
 exact ⟨_, hr, h.2 k x _ hx hr⟩
def RdT (w0 w : World) (a : Option Addr) (n c : Nat) (T : Tbl (SL × Int)) : Prop := ∃ raw, RdR w a n c raw ∧ Dat w0 w raw T
theorem RdT.gr {w0 w w' : World} {a : Option Addr} {n c : Nat} {T : Tbl (SL × Int)} (h : RdT w0 w a n c T) (g : Gr w w') : RdT w0 w' a n c T := by
 obtain ⟨raw, h1, h2⟩ := h
 exact ⟨raw, h1.gr g, h2.gr g⟩
theorem RdT.own {w0 w : World} {a : Option Addr} {n c : Nat} {T : Tbl (SL × Int)} (h : RdT w0 w a n c T) : RdT w w a n c T := by
 obtain ⟨raw, h1, h2⟩ := h
 exact ⟨raw, h1, h2.own⟩
theorem RdT.len {w0 w : World} {a : Option Addr} {n c : Nat} {T : Tbl (SL × Int)} (h : RdT w0 w a n c T) : n = T.length := by
 obtain ⟨raw, h1, h2⟩ := h
 exact h1.1.trans h2.1
def OwnR (w0 w : World) (v : Value) (raw : List Rw) : Prop := w.ownsRow w0.heap.size 81 3 v raw.length (pkr raw) ∧ Gr w0 w
theorem OwnR.nil' {w0 w : World} (g : Gr w0 w) : OwnR w0 w (.slice none 0 0) [] := ⟨World.ownsRow_nil w _ _ _, g⟩
theorem OwnR.nil (w : World) : OwnR w w (.slice none 0 0) [] := OwnR.nil' (Gr.refl w)
theorem OwnR.gr {w0 w w' : World} {v : Value} {raw : List Rw} (h : OwnR w0 w v raw) (g : Gr w w') : OwnR w0 w' v raw :=
 ⟨h.1.kept (row := none) ⟨g.os, g.tape, g.output, Gr.size g, fun k hk _ => Below.block g k hk⟩ (by cases v.ownBlock <;> simp), h.2.trans g⟩
theorem OwnR.alloc {w0 w : World} {v : Value} {raw : List Rw} (h : OwnR w0 w v raw) (o : Obj) : OwnR w0 (w.alloc o) v raw := h.gr ((Gr.refl w).alloc o)
theorem OwnR.drew {w0 w : World} {v : Value} {raw : List Rw} (h : OwnR w0 w v raw) : OwnR w0 w.drew v raw := h.gr ((Gr.refl w).drew)
theorem OwnR.rd {w0 w : World} {v : Value} {raw : List Rw} (h : OwnR w0 w v raw) : ∃ a c, v = .slice a raw.length c ∧ RdR w a raw.length c raw := by
 have h0 := h.1
 obtain ⟨hl, hv⟩ := h.1
 rcases hv with ⟨rfl, hz⟩ | ⟨g, cap, cur, rfl, hb, hg, hnc, hcm, hcs, htake⟩
 ·exact ⟨none, 0, by rw [hz], rfl, by omega, by omega, fun _ => rfl, .inl hz⟩
 refine ⟨_, _, rfl, rfl, hnc, by unfold maxLen at hcm; omega, (fun k => by cases k), .inr ⟨g, 0, rfl, fun i x hi => ?_⟩⟩
 obtain ⟨p0, p1, p2⟩ := pkr_at raw i x hi
 have c0 := h0.cells (g := g) rfl _ _ p0
 have c1 := h0.cells (g := g) rfl _ _ p1
 have c2 := h0.cells (g := g) rfl _ _ p2
 rw [add_flat rfl] at c0 c1 c2
 exact ⟨c0, by rw [Nat.add_assoc]; exact c1, by rw [Nat.add_assoc]; exact c2⟩
theorem OwnR.blk {w0 w : World} {v : Value} {raw : List Rw} (h : OwnR w0 w v raw) : (v = .slice none 0 0 ∧ raw = []) ∨ ∃ g c cur, v = .slice (some ⟨g, 0, none⟩) raw.length c ∧ raw.length ≤ c ∧ c ≤ 9223372036854775807 ∧ w0.heap.size ≤ g ∧ g < w.heap.size ∧ w.heap[g]? = some (.cells cur 81 (0, 0)) ∧ ∀ i x, raw[i]? = some x → w.cell? ⟨g, i * 3, none⟩ = some (.slice x.a x.n x.c) ∧ w.cell? ⟨g, i * 3 + 1, none⟩ = some (.slice x.fa x.fn x.fc) ∧ w.cell? ⟨g, i * 3 + 2, none⟩ = some (.int .i64 x.y) ∧ w.frozen? ⟨g, i * 3 + 1, none⟩ = false ∧ w.frozen? ⟨g, i * 3 + 2, none⟩ = false := by
 have h0 := h.1
 obtain ⟨hl, hv⟩ := h.1
 rcases hv with ⟨rfl, hz⟩ | ⟨g, cap, cur, rfl, hb, hg, hnc, hcm, hcs, htake⟩
 ·exact .inl ⟨rfl, List.length_eq_zero_iff.1 hz⟩
 refine .inr ⟨g, cap, cur, rfl, hnc, by unfold maxLen at hcm; omega, hb, (h0.lt g rfl).2, hg, fun i x hi => ?_⟩
 obtain ⟨p0, p1, p2⟩ := pkr_at raw i x hi
 have c0 := h0.cells (g := g) rfl _ _ p0
 have c1 := h0.cells (g := g) rfl _ _ p1
 have c2 := h0.cells (g := g) rfl _ _ p2
 rw [add_flat rfl] at c0 c1 c2
 simp only [Nat.zero_add] at c0 c1 c2
 exact ⟨c0, c1, c2, h0.frozenAt _, h0.frozenAt _⟩
theorem Dat.grown {w0 w w' : World} {v : Value} {raw raw' : List Rw} {L : Tbl (SL × Int)} (h : Dat w0 w raw' L) (ho : OwnR w0 w v raw) (g : w.grownBy w' v.ownBlock) : Dat w0 w' raw' L := by
 rcases ho.blk with ⟨rfl, _⟩ | ⟨b, c, cur, rfl, _, _, hb, _, hg, _⟩
 ·exact h.gr ((Gr.refl w).grown g fun k hk => by cases hk)
 exact h.wr hg (by decide) (by decide) hb g
theorem infoR : (Tryz.prog.info? 81).map (fun i => (i.zero, i.size, i.bytes)) = some (some (.agg #[.slice none 0 0, .slice none 0 0, .int .i64 0]), 3, 56) := by kernel_rfl
theorem info_row : ∃ i, Tryz.prog.info? 81 = some i ∧ i.zero = some (.agg #[.slice none 0 0, .slice none 0 0, .int .i64 0]) ∧ i.size = 3 ∧ i.bytes = 56 := by
 have h := infoR
 cases hi : Tryz.prog.info? 81 with
 | none => rw [hi] at h; cases h
 | some i => rw [hi] at h; simp at h; exact ⟨i, rfl, h.1, h.2.1, h.2.2⟩
theorem wp_cat_row {o : Oper} {a : Act} {K : Act → World → Prop} {Q : Exit → Act → World → Prop} (s x : Operand) (t : TypeId)
  (ho : o.op = .call { callee := .builtin .append, args := #[s, x], argTypes := #[t, t] }) (ht : Tryz.prog.underlying t = some (.slice 81))
  {w0 w : World} (v : Value) (raw : List Rw) (hs : a.eval s = v) (hown : OwnR w0 w v raw)
  (b off n c : Nat) (X : List Rw) (hx : a.eval x = .slice (some ⟨b, off, none⟩) n c) (hX : X.length = n) (hc : ∀ i x, X[i]? = some x → w.cell? ⟨b, off + i * 3, none⟩ = some (.slice x.a x.n x.c) ∧ w.cell? ⟨b, off + i * 3 + 1, none⟩ = some (.slice x.fa x.fn x.fc) ∧ w.cell? ⟨b, off + i * 3 + 2, none⟩ = some (.int .i64 x.y)) (hk : raw.length + n ≤ 1000000)
  (h : ∀ v' w', OwnR w0 w' v' (raw ++ X) → w.grownBy w' v.ownBlock → K (a.put o.dst v') w') : o.wp Tryz.prog a w K Q := by
 obtain ⟨i0, hi, hz0, hz1, hz2⟩ := info_row
 refine wp_append_own w s x t ho w0.heap.size 81 i0 _ 3 56 ht hi hz0 hz1 hz2 rfl (by decide) v raw.length (pkr raw) hs hown.1 ⟨b, off, none⟩ n c (pkr X) hx (by rw [pkr_length, hX]) ?_ ?_ ?_ ?_ hown.2.size ?_
 ·intro j u hu
  rw [add_flat rfl]
  have hj : j < n * 3 := by
   rcases Nat.lt_or_ge j (n * 3) with h | h
   ·exact h
   rw [List.getElem?_eq_none (by rw [pkr_length, hX]; exact h)] at hu; cases hu
  obtain ⟨q, hget⟩ : ∃ q, X[j / 3]? = some q := ⟨_, List.getElem?_eq_getElem (show j / 3 < X.length by omega)⟩
  obtain ⟨p0, p1, p2⟩ := pkr_at X (j / 3) _ hget
  obtain ⟨k0, k1, k2⟩ := hc (j / 3) _ hget
  rcases (by omega : j % 3 = 0 ∨ j % 3 = 1 ∨ j % 3 = 2) with h | h | h
  ·have ej : j = j / 3 * 3 := by omega
   rw [ej, p0] at hu
   cases hu
   rw [show off + j = off + j / 3 * 3 by omega]
   exact k0
  ·have ej : j = j / 3 * 3 + 1 := by omega
   rw [ej, p1] at hu
   cases hu
   rw [show off + j = off + j / 3 * 3 + 1 by omega]
   exact k1
  have ej : j = j / 3 * 3 + 2 := by omega
  rw [ej, p2] at hu
  cases hu
  rw [show off + j = off + j / 3 * 3 + 2 by omega]
  exact k2
 ·intro u hu
  unfold pkr at hu
  rw [List.mem_flatMap] at hu
  obtain ⟨m, _, hm⟩ := hu
  simp at hm
  rcases hm with rfl | rfl | rfl <;> rfl
 ·unfold maxLen; omega
 ·omega
 intro v' w' h1 h2 _
 rw [← pkr_append] at h1
 refine h v' w' ⟨?_, hown.2.grown h2 fun k hk => (hown.1.lt k hk).1⟩ h2
 rw [List.length_append, hX]
 exact h1
section
variable {ops : Array Oper} {rest : List Oper} {o : Oper} {a : Act} {Q : Exit → Act → World → Prop}
theorem wpList_cat_row (hgd : o.guard = none) (s x : Operand) (t : TypeId)
  (ho : o.op = .call { callee := .builtin .append, args := #[s, x], argTypes := #[t, t] }) (ht : Tryz.prog.underlying t = some (.slice 81))
  {w0 w : World} (v : Value) (raw : List Rw) (hs : a.eval s = v) (hown : OwnR w0 w v raw)
  (b off n c : Nat) (X : List Rw) (hx : a.eval x = .slice (some ⟨b, off, none⟩) n c) (hX : X.length = n) (hc : ∀ i x, X[i]? = some x → w.cell? ⟨b, off + i * 3, none⟩ = some (.slice x.a x.n x.c) ∧ w.cell? ⟨b, off + i * 3 + 1, none⟩ = some (.slice x.fa x.fn x.fc) ∧ w.cell? ⟨b, off + i * 3 + 2, none⟩ = some (.int .i64 x.y)) (hk : raw.length + n ≤ 1000000)
  (h : ∀ v' w', OwnR w0 w' v' (raw ++ X) → w.grownBy w' v.ownBlock → wpList Tryz.prog ops Q rest (a.put o.dst v') w') : wpList Tryz.prog ops Q (o :: rest) a w :=
 wpList_plain hgd fun _ hK => wp_cat_row s x t ho ht v raw hs hown b off n c X hx hX hc hk fun v' w' h1 h2 => hK _ _ (h v' w' h1 h2)
theorem wpList_app_row (hgd : o.guard = none) (s x : Operand) (t : TypeId)
  (ho : o.op = .call { callee := .builtin .append, args := #[s, x], argTypes := #[t, t] }) (ht : Tryz.prog.underlying t = some (.slice 81))
  {w0 w : World} (v : Value) (raw : List Rw) (hs : a.eval s = v) (hown : OwnR w0 w v raw)
  (g : Nat) (r : Rw) (hx : a.eval x = .slice (some ⟨g, 0, none⟩) 1 1) (hg : w.cell? ⟨g, 0, none⟩ = some (.slice r.a r.n r.c) ∧ w.cell? ⟨g, 1, none⟩ = some (.slice r.fa r.fn r.fc) ∧ w.cell? ⟨g, 2, none⟩ = some (.int .i64 r.y)) (hk : raw.length < 999999)
  (h : ∀ v' w', OwnR w0 w' v' (raw ++ [r]) → w.grownBy w' v.ownBlock → wpList Tryz.prog ops Q rest (a.put o.dst v') w') : wpList Tryz.prog ops Q (o :: rest) a w :=
 wpList_cat_row hgd s x t ho ht v raw hs hown g 0 1 1 [r] hx rfl (fun i y hy => by
  cases i with
  | zero => simp at hy; subst hy; exact hg
  | succ i => simp at hy) (by omega) h
end
end Go.Proofs.YtehdemcfeoiecaaGreatDoor.RE
namespace Go.Proofs.YtehdemcfeoiecaaGreatDoor.RW
open Go.RowKit Go.Firn Go.Firn.Tb
structure Rw where
 a : Option Addr
 n : Nat
 c : Nat
 fa : Option Addr
 fn : Nat
 fc : Nat
def Rep (w0 w : World) (x : Rw) (d : SL) : Prop := RdP w x.fa x.fn x.fc d ∧ Old w0 w 58 x.fn x.fa
theorem Rep.gr {w0 w w' : World} {x : Rw} {d : SL} (h : Rep w0 w x d) (g : Gr w w') : Rep w0 w' x d := ⟨h.1.gr g, h.2.gr g⟩
theorem rdS_wr {w w' : World} {a : Option Addr} {n b : Nat} {f : Nat → ByteArray} {g : Nat → Int} (h : RdS w a n f g) (k : Wr b w w') (ho : Off b n a) : RdS w' a n f g := by
 rcases h with h | ⟨b', o, ha, hc⟩
 ·exact .inl h
 rcases ho with ho | ho
 ·exact .inl ho
 exact .inr ⟨b', o, ha, fun i hi => ⟨k.cell (hc i hi).1 (show b' ≠ b from ho _ ha), k.cell (hc i hi).2 (show b' ≠ b from ho _ ha)⟩⟩
theorem rdP_wr {w w' : World} {a : Option Addr} {n c b : Nat} {L : SL} (h : RdP w a n c L) (g : Wr b w w') (ho : Off b n a) : RdP w' a n c L := ⟨h.1, h.2.1, h.2.2.1, h.2.2.2.1, rdS_wr h.2.2.2.2 g ho⟩
theorem Rep.wr {w0 w w' : World} {x : Rw} {d : SL} (h : Rep w0 w x d) {b : Nat} {cur : Array Value} {e : TypeId} {fz : Nat × Nat} (hb : w.heap[b]? = some (.cells cur e fz)) (hne : 58 ≠ e) (h0 : w0.heap.size ≤ b) (g : Wr b w w') : Rep w0 w' x d :=
 ⟨rdP_wr h.1 g (h.2.off h0 hb hne), h.2.wr g (h.2.off h0 hb hne)⟩
theorem old_of_rds {w : World} {a : Option Addr} {n : Nat} {f : Nat → ByteArray} {g : Nat → Int} (h : RdS w a n f g) (e : TypeId) : Old w w e n a := by
 rcases h with h | ⟨b, o, rfl, hc⟩
 ·exact .inl h
 rcases Nat.eq_zero_or_pos n with k | k
 ·exact .inl k
 refine .inr fun ad e => ?_
 obtain rfl := Option.some.inj e
 exact .inl (World.block_lt_of_cell? w _ (hc 0 k).1)
def pkr (raw : List Rw) : List Value := raw.flatMap fun x => [.slice x.a x.n x.c, .slice x.fa x.fn x.fc]
theorem pkr_length (raw : List Rw) : (pkr raw).length = raw.length * 2 := by
 induction raw with
 | nil => rfl
 | cons m ms ih =>
  have : pkr (m :: ms) = [.slice m.a m.n m.c, .slice m.fa m.fn m.fc] ++ pkr ms := rfl
  rw [this, List.length_append, ih]; simp; omega
theorem pkr_append (a b : List Rw) : pkr (a ++ b) = pkr a ++ pkr b := by simp [pkr]
theorem pkr_at : ∀ (raw : List Rw) (i : Nat) (x : Rw), raw[i]? = some x → (pkr raw)[i * 2]? = some (.slice x.a x.n x.c) ∧ (pkr raw)[i * 2 + 1]? = some (.slice x.fa x.fn x.fc)
 | [], i, x, h => by simp at h
 | m :: ms, i, x, h => by
  have e : pkr (m :: ms) = .slice m.a m.n m.c :: .slice m.fa m.fn m.fc :: pkr ms := rfl
  cases i with
  | zero => simp at h; subst h; rw [e]; exact ⟨rfl, rfl⟩
  | succ i =>
   have := pkr_at ms i x (by simpa using h)
   rw [e, show (i + 1) * 2 = i * 2 + 1 + 1 by omega]
   simpa using this
def RdR (w : World) (a : Option Addr) (n c : Nat) (raw : List Rw) : Prop := n = raw.length ∧ n ≤ c ∧ c ≤ 9223372036854775807 ∧ (a = none → c = 0) ∧ (n = 0 ∨ ∃ b o, a = some ⟨b, o, none⟩ ∧ ∀ i x, raw[i]? = some x → w.cell? ⟨b, o + i * 2, none⟩ = some (.slice x.a x.n x.c) ∧ w.cell? ⟨b, o + i * 2 + 1, none⟩ = some (.slice x.fa x.fn x.fc))
theorem RdR.gr {w w' : World} {a : Option Addr} {n c : Nat} {raw : List Rw} (h : RdR w a n c raw) (g : Gr w w') : RdR w' a n c raw := by
 obtain ⟨h1, h2, h3, h4, h5⟩ := h
 refine ⟨h1, h2, h3, h4, ?_⟩
 rcases h5 with h5 | ⟨b, o, e, hc⟩
 ·exact .inl h5
 exact .inr ⟨b, o, e, fun i x hi => ⟨g.cell (hc i x hi).1, g.cell (hc i x hi).2⟩⟩
theorem RdR.at {w : World} {a : Option Addr} {n c : Nat} {raw : List Rw} (h : RdR w a n c raw) {k : Nat} (hk : k < n) : ∃ b o x, a = some ⟨b, o, none⟩ ∧ raw[k]? = some x ∧ w.cell? ⟨b, o + k * 2, none⟩ = some (.slice x.a x.n x.c) ∧ w.cell? ⟨b, o + k * 2 + 1, none⟩ = some (.slice x.fa x.fn x.fc) := by
 obtain ⟨h1, h2, h3, h4, h5⟩ := h
 rcases h5 with h5 | ⟨b, o, e, hc⟩
 ·omega
 have hx : raw[k]? = some (raw[k]'(by omega)) := List.getElem?_eq_getElem (by omega)
 exact ⟨b, o, _, e, hx, hc k _ hx⟩
def Dat (w0 w : World) (raw : List Rw) (L : Tbl SL) : Prop := raw.length = L.length ∧ ∀ (i : Nat) (x : Rw) (r : List Int × SL), raw[i]? = some x → L[i]? = some r → Rd3 w x.a x.n x.c r.1 ∧ Old w0 w 3 x.n x.a ∧ Rep w0 w x r.2
theorem Dat.gr {w0 w w' : World} {raw : List Rw} {L : Tbl SL} (h : Dat w0 w raw L) (g : Gr w w') : Dat w0 w' raw L := ⟨h.1, fun i x r hx hr => by
 obtain ⟨h1, h2, h3⟩ := h.2 i x r hx hr
 exact ⟨h1.gr g, h2.gr g, h3.gr g⟩⟩
theorem Dat.wr {w0 w w' : World} {raw : List Rw} {L : Tbl SL} (h : Dat w0 w raw L) {b : Nat} {cur : Array Value} {e : TypeId} {fz : Nat × Nat} (hb : w.heap[b]? = some (.cells cur e fz)) (hne : 3 ≠ e) (hne58 : 58 ≠ e) (h0 : w0.heap.size ≤ b) (g : Wr b w w') : Dat w0 w' raw L := ⟨h.1, fun i x r hx hr => by
 obtain ⟨h1, h2, h3⟩ := h.2 i x r hx hr
 have ho := h2.off h0 hb hne
 exact ⟨h1.wr g ho, h2.wr g ho, h3.wr hb hne58 h0 g⟩⟩
theorem Dat.nil (w0 w : World) : Dat w0 w [] [] := ⟨rfl, fun i x r hx _ => by simp at hx⟩
theorem Dat.base {w0 w1 w : World} {raw : List Rw} {L : Tbl SL} (h : Dat w0 w raw L) (g : w0.heap.size ≤ w1.heap.size) : Dat w1 w raw L := ⟨h.1, fun i x r hx hr => by
 obtain ⟨h1, h2, h3⟩ := h.2 i x r hx hr
 exact ⟨h1, h2.base g, h3.1, h3.2.base g⟩⟩
theorem Dat.own {w0 w : World} {raw : List Rw} {L : Tbl SL} (h : Dat w0 w raw L) : Dat w w raw L := ⟨h.1, fun i x r hx hr => by
 obtain ⟨h1, _, h3⟩ := h.2 i x r hx hr
 exact ⟨h1, Old.of_rd h1.2.2.2.2 3, h3.1, old_of_rds h3.1.2.2.2.2 58⟩⟩
theorem Dat.snoc {w0 w : World} {raw : List Rw} {L : Tbl SL} (h : Dat w0 w raw L) {x : Rw} {r : List Int × SL} (h1 : Rd3 w x.a x.n x.c r.1) (h2 : Old w0 w 3 x.n x.a) (h3 : Rep w0 w x r.2) : Dat w0 w (raw ++ [x]) (L ++ [r]) := by
 refine ⟨by simp [h.1], fun i y s hy hs => ?_⟩
 rcases Nat.lt_or_ge i raw.length with k | k
 ·rw [List.getElem?_append_left k] at hy
  rw [List.getElem?_append_left (by have := h.1; omega)] at hs
  exact h.2 i y s hy hs
 rw [List.getElem?_append_right k] at hy
 rw [List.getElem?_append_right (by have := h.1; omega)] at hs
 have hi : i - raw.length = 0 := by
  rcases Nat.eq_zero_or_pos (i - raw.length) with q | q
  ·exact q
  rw [List.getElem?_eq_none (by simp; omega)] at hy; cases hy
 rw [hi] at hy
 rw [← h.1, hi] at hs
 simp at hy hs
 subst hy; subst hs
 exact ⟨h1, h2, h3⟩
theorem Dat.append {w0 w : World} {raw raw' : List Rw} {L L' : Tbl SL} (h : Dat w0 w raw L) (h' : Dat w0 w raw' L') : Dat w0 w (raw ++ raw') (L ++ L') := by
 refine ⟨by simp [h.1, h'.1], fun i y s hy hs => ?_⟩
 rcases Nat.lt_or_ge i raw.length with k | k
 ·rw [List.getElem?_append_left k] at hy
  rw [List.getElem?_append_left (by have := h.1; omega)] at hs
  exact h.2 i y s hy hs
 rw [List.getElem?_append_right k] at hy
 rw [List.getElem?_append_right (by have := h.1; omega), ← h.1] at hs
 exact h'.2 _ y s hy hs
theorem Dat.at {w0 w : World} {raw : List Rw} {L : Tbl SL} (h : Dat w0 w raw L) {k : Nat} {x : Rw} (hx : raw[k]? = some x) : ∃ r, L[k]? = some r ∧ Rd3 w x.a x.n x.c r.1 ∧ Old w0 w 3 x.n x.a ∧ Rep w0 w x r.2 := by
 have hk : k < raw.length := by
  rcases Nat.lt_or_ge k raw.length with q | q
  ·exact q
  rw [List.getElem?_eq_none q] at hx; cases hx
 have hr : L[k]? = some (L[k]'(by have := h.1; omega)) := List.getElem?_eq_getElem (by have := h.1; omega)
 exact ⟨_, hr, h.2 k x _ hx hr⟩
def RdT (w0 w : World) (a : Option Addr) (n c : Nat) (T : Tbl SL) : Prop := ∃ raw, RdR w a n c raw ∧ Dat w0 w raw T
theorem RdT.gr {w0 w w' : World} {a : Option Addr} {n c : Nat} {T : Tbl SL} (h : RdT w0 w a n c T) (g : Gr w w') : RdT w0 w' a n c T := by
 obtain ⟨raw, h1, h2⟩ := h
 exact ⟨raw, h1.gr g, h2.gr g⟩
theorem RdT.own {w0 w : World} {a : Option Addr} {n c : Nat} {T : Tbl SL} (h : RdT w0 w a n c T) : RdT w w a n c T := by
 obtain ⟨raw, h1, h2⟩ := h
 exact ⟨raw, h1, h2.own⟩
theorem RdT.len {w0 w : World} {a : Option Addr} {n c : Nat} {T : Tbl SL} (h : RdT w0 w a n c T) : n = T.length := by
 obtain ⟨raw, h1, h2⟩ := h
 exact h1.1.trans h2.1
def OwnR (w0 w : World) (v : Value) (raw : List Rw) : Prop := w.ownsRow w0.heap.size 52 2 v raw.length (pkr raw) ∧ Gr w0 w
theorem OwnR.nil' {w0 w : World} (g : Gr w0 w) : OwnR w0 w (.slice none 0 0) [] := ⟨World.ownsRow_nil w _ _ _, g⟩
theorem OwnR.nil (w : World) : OwnR w w (.slice none 0 0) [] := OwnR.nil' (Gr.refl w)
theorem OwnR.gr {w0 w w' : World} {v : Value} {raw : List Rw} (h : OwnR w0 w v raw) (g : Gr w w') : OwnR w0 w' v raw :=
 ⟨h.1.kept (row := none) ⟨g.os, g.tape, g.output, Gr.size g, fun k hk _ => Below.block g k hk⟩ (by cases v.ownBlock <;> simp), h.2.trans g⟩
theorem OwnR.alloc {w0 w : World} {v : Value} {raw : List Rw} (h : OwnR w0 w v raw) (o : Obj) : OwnR w0 (w.alloc o) v raw := h.gr ((Gr.refl w).alloc o)
theorem OwnR.drew {w0 w : World} {v : Value} {raw : List Rw} (h : OwnR w0 w v raw) : OwnR w0 w.drew v raw := h.gr ((Gr.refl w).drew)
theorem OwnR.rd {w0 w : World} {v : Value} {raw : List Rw} (h : OwnR w0 w v raw) : ∃ a c, v = .slice a raw.length c ∧ RdR w a raw.length c raw := by
 have h0 := h.1
 obtain ⟨hl, hv⟩ := h.1
 rcases hv with ⟨rfl, hz⟩ | ⟨g, cap, cur, rfl, hb, hg, hnc, hcm, hcs, htake⟩
 ·exact ⟨none, 0, by rw [hz], rfl, by omega, by omega, fun _ => rfl, .inl hz⟩
 refine ⟨_, _, rfl, rfl, hnc, by unfold maxLen at hcm; omega, (fun k => by cases k), .inr ⟨g, 0, rfl, fun i x hi => ?_⟩⟩
 obtain ⟨p0, p1⟩ := pkr_at raw i x hi
 have c0 := h0.cells (g := g) rfl _ _ p0
 have c1 := h0.cells (g := g) rfl _ _ p1
 rw [add_flat rfl] at c0 c1
 exact ⟨c0, by rw [Nat.add_assoc]; exact c1⟩
theorem OwnR.blk {w0 w : World} {v : Value} {raw : List Rw} (h : OwnR w0 w v raw) : (v = .slice none 0 0 ∧ raw = []) ∨ ∃ g c cur, v = .slice (some ⟨g, 0, none⟩) raw.length c ∧ raw.length ≤ c ∧ c ≤ 9223372036854775807 ∧ w0.heap.size ≤ g ∧ g < w.heap.size ∧ w.heap[g]? = some (.cells cur 52 (0, 0)) ∧ ∀ i x, raw[i]? = some x → w.cell? ⟨g, i * 2, none⟩ = some (.slice x.a x.n x.c) ∧ w.cell? ⟨g, i * 2 + 1, none⟩ = some (.slice x.fa x.fn x.fc) ∧ w.frozen? ⟨g, i * 2 + 1, none⟩ = false := by
 have h0 := h.1
 obtain ⟨hl, hv⟩ := h.1
 rcases hv with ⟨rfl, hz⟩ | ⟨g, cap, cur, rfl, hb, hg, hnc, hcm, hcs, htake⟩
 ·exact .inl ⟨rfl, List.length_eq_zero_iff.1 hz⟩
 refine .inr ⟨g, cap, cur, rfl, hnc, by unfold maxLen at hcm; omega, hb, (h0.lt g rfl).2, hg, fun i x hi => ?_⟩
 obtain ⟨p0, p1⟩ := pkr_at raw i x hi
 have c0 := h0.cells (g := g) rfl _ _ p0
 have c1 := h0.cells (g := g) rfl _ _ p1
 rw [add_flat rfl] at c0 c1
 simp only [Nat.zero_add] at c0 c1
 exact ⟨c0, c1, h0.frozenAt _⟩
theorem Dat.grown {w0 w w' : World} {v : Value} {raw raw' : List Rw} {L : Tbl SL} (h : Dat w0 w raw' L) (ho : OwnR w0 w v raw) (g : w.grownBy w' v.ownBlock) : Dat w0 w' raw' L := by
 rcases ho.blk with ⟨rfl, _⟩ | ⟨b, c, cur, rfl, _, _, hb, _, hg, _⟩
 ·exact h.gr ((Gr.refl w).grown g fun k hk => by cases hk)
 exact h.wr hg (by decide) (by decide) hb g
theorem infoR : (Tryz.prog.info? 52).map (fun i => (i.zero, i.size, i.bytes)) = some (some (.agg #[.slice none 0 0, .slice none 0 0]), 2, 48) := by kernel_rfl
theorem info_row : ∃ i, Tryz.prog.info? 52 = some i ∧ i.zero = some (.agg #[.slice none 0 0, .slice none 0 0]) ∧ i.size = 2 ∧ i.bytes = 48 := by
 have h := infoR
 cases hi : Tryz.prog.info? 52 with
 | none => rw [hi] at h; cases h
 | some i => rw [hi] at h; simp at h; exact ⟨i, rfl, h.1, h.2.1, h.2.2⟩
theorem wp_cat_row {o : Oper} {a : Act} {K : Act → World → Prop} {Q : Exit → Act → World → Prop} (s x : Operand) (t : TypeId)
  (ho : o.op = .call { callee := .builtin .append, args := #[s, x], argTypes := #[t, t] }) (ht : Tryz.prog.underlying t = some (.slice 52))
  {w0 w : World} (v : Value) (raw : List Rw) (hs : a.eval s = v) (hown : OwnR w0 w v raw)
  (b off n c : Nat) (X : List Rw) (hx : a.eval x = .slice (some ⟨b, off, none⟩) n c) (hX : X.length = n) (hc : ∀ i x, X[i]? = some x → w.cell? ⟨b, off + i * 2, none⟩ = some (.slice x.a x.n x.c) ∧ w.cell? ⟨b, off + i * 2 + 1, none⟩ = some (.slice x.fa x.fn x.fc)) (hk : raw.length + n ≤ 1000000)
  (h : ∀ v' w', OwnR w0 w' v' (raw ++ X) → w.grownBy w' v.ownBlock → K (a.put o.dst v') w') : o.wp Tryz.prog a w K Q := by
 obtain ⟨i0, hi, hz0, hz1, hz2⟩ := info_row
 refine wp_append_own w s x t ho w0.heap.size 52 i0 _ 2 48 ht hi hz0 hz1 hz2 rfl (by decide) v raw.length (pkr raw) hs hown.1 ⟨b, off, none⟩ n c (pkr X) hx (by rw [pkr_length, hX]) ?_ ?_ ?_ ?_ hown.2.size ?_
 ·intro j u hu
  rw [add_flat rfl]
  have hj : j < n * 2 := by
   rcases Nat.lt_or_ge j (n * 2) with h | h
   ·exact h
   rw [List.getElem?_eq_none (by rw [pkr_length, hX]; exact h)] at hu; cases hu
  obtain ⟨q, hget⟩ : ∃ q, X[j / 2]? = some q := ⟨_, List.getElem?_eq_getElem (show j / 2 < X.length by omega)⟩
  obtain ⟨p0, p1⟩ := pkr_at X (j / 2) _ hget
  obtain ⟨k0, k1⟩ := hc (j / 2) _ hget
  rcases (by omega : j % 2 = 0 ∨ j % 2 = 1) with h | h
  ·have ej : j = j / 2 * 2 := by omega
   rw [ej, p0] at hu
   cases hu
   rw [show off + j = off + j / 2 * 2 by omega]
   exact k0
  have ej : j = j / 2 * 2 + 1 := by omega
  rw [ej, p1] at hu
  cases hu
  rw [show off + j = off + j / 2 * 2 + 1 by omega]
  exact k1
 ·intro u hu
  unfold pkr at hu
  rw [List.mem_flatMap] at hu
  obtain ⟨m, _, hm⟩ := hu
  simp at hm
  rcases hm with rfl | rfl <;> rfl
 ·unfold maxLen; omega
 ·omega
 intro v' w' h1 h2 _
 rw [← pkr_append] at h1
 refine h v' w' ⟨?_, hown.2.grown h2 fun k hk => (hown.1.lt k hk).1⟩ h2
 rw [List.length_append, hX]
 exact h1
section
variable {ops : Array Oper} {rest : List Oper} {o : Oper} {a : Act} {Q : Exit → Act → World → Prop}
theorem wpList_cat_row (hgd : o.guard = none) (s x : Operand) (t : TypeId)
  (ho : o.op = .call { callee := .builtin .append, args := #[s, x], argTypes := #[t, t] }) (ht : Tryz.prog.underlying t = some (.slice 52))
  {w0 w : World} (v : Value) (raw : List Rw) (hs : a.eval s = v) (hown : OwnR w0 w v raw)
  (b off n c : Nat) (X : List Rw) (hx : a.eval x = .slice (some ⟨b, off, none⟩) n c) (hX : X.length = n) (hc : ∀ i x, X[i]? = some x → w.cell? ⟨b, off + i * 2, none⟩ = some (.slice x.a x.n x.c) ∧ w.cell? ⟨b, off + i * 2 + 1, none⟩ = some (.slice x.fa x.fn x.fc)) (hk : raw.length + n ≤ 1000000)
  (h : ∀ v' w', OwnR w0 w' v' (raw ++ X) → w.grownBy w' v.ownBlock → wpList Tryz.prog ops Q rest (a.put o.dst v') w') : wpList Tryz.prog ops Q (o :: rest) a w :=
 wpList_plain hgd fun _ hK => wp_cat_row s x t ho ht v raw hs hown b off n c X hx hX hc hk fun v' w' h1 h2 => hK _ _ (h v' w' h1 h2)
theorem wpList_app_row (hgd : o.guard = none) (s x : Operand) (t : TypeId)
  (ho : o.op = .call { callee := .builtin .append, args := #[s, x], argTypes := #[t, t] }) (ht : Tryz.prog.underlying t = some (.slice 52))
  {w0 w : World} (v : Value) (raw : List Rw) (hs : a.eval s = v) (hown : OwnR w0 w v raw)
  (g : Nat) (r : Rw) (hx : a.eval x = .slice (some ⟨g, 0, none⟩) 1 1) (hg : w.cell? ⟨g, 0, none⟩ = some (.slice r.a r.n r.c) ∧ w.cell? ⟨g, 1, none⟩ = some (.slice r.fa r.fn r.fc)) (hk : raw.length < 999999)
  (h : ∀ v' w', OwnR w0 w' v' (raw ++ [r]) → w.grownBy w' v.ownBlock → wpList Tryz.prog ops Q rest (a.put o.dst v') w') : wpList Tryz.prog ops Q (o :: rest) a w :=
 wpList_cat_row hgd s x t ho ht v raw hs hown g 0 1 1 [r] hx rfl (fun i y hy => by
  cases i with
  | zero => simp at hy; subst hy; exact hg
  | succ i => simp at hy) (by omega) h
end
end Go.Proofs.YtehdemcfeoiecaaGreatDoor.RW
namespace Go.Proofs.YtehdemcfeoiecaaGreatDoor
open Go.RowKit Go.Firn Go.Firn.Tb
theorem qryPlanS {ws : List Int} {q : Key} {x : List Wd × Int} (h : qry ws q = some x) : ∃ pw, planW ws x.1 [] = some pw ∧ pw.length = 1 ∧ x.1.length ≤ 12 := by
 unfold qry at h
 split at h
 ·cases h
 rename_i y hy
 split at h
 ·rename_i hl
  cases h
  exact ⟨_, planQ_planW hy, hl.2, hl.1⟩
 cases h
theorem resQ_errS {D : Type} {R : Rg D} {φ : SL → D} {right : Bool} {Ts : List (Int × Tbl SL)} {q : Key} {E : Int} (h : resQ R φ right Ts q = .error E) : E = 90 ∨ E = 91 ∨ E = 2 ∨ E = 4 := by
 unfold resQ at h
 split at h
 ·split at h
  ·cases h; simp
  split at h
  ·split at h
   ·cases h; simp
   cases h
  cases h; simp
 cases h; simp
theorem resQ_lenS {D : Type} {R : Rg D} {G : D → Prop} {φ : SL → D} {right : Bool} {Ts : List (Int × Tbl SL)} {q : Key} {T : Tbl D} {W : Int} (hL : RgL R G) (hG : ∀ L, G0 L → G (φ L)) (h : resQ R φ right Ts q = .ok (T, W)) : TI R G W T := by
 unfold resQ at h
 split at h
 ·rename_i hv
  split at h
  ·cases h
  rename_i x hq
  split at h
  ·split at h
   ·cases h
   rename_i T' hT
   cases h
   unfold ansQ at hT
   obtain ⟨p, hp, rfl⟩ := Option.map_eq_some_iff.1 hT
   obtain ⟨pw, hpw, hl, _⟩ := qryPlanS hq
   have hP := run_PI hL (tabs_GI (φ := φ) (G' := G) hv hG) x.1 (p := []) (pw := []) ⟨rfl, fun i hi => by simp at hi⟩ hpw hp
   have h0 := hP.2 0 (by omega)
   have e : pw.getD 0 0 = x.2 := by
    unfold qry at hq
    split at hq
    ·cases hq
    rename_i y hy
    split at hq
    ·cases hq
     have := planQ_planW hy
     rw [hpw] at this
     cases this
     rfl
    cases hq
   rwa [e] at h0
  cases h
 cases h
theorem fallS {j n : Nat} (h : j < n) : n - (intOf (.int .i64 ((j + 1 : Nat) : Int))).toNat < n - (intOf (.int .i64 (j : Int))).toNat := by simp only [intOf]; omega
def BoxO (W : World) (b : Nat) (z : Int) (v : Value) : Prop := W.heap[b]? = some (.cells #[.int .i64 z, v] 36 (0, 0))
theorem BoxO.gr {W W' : World} {b : Nat} {z : Int} {v : Value} (h : BoxO W b z v) (g : Gr W W') : BoxO W' b z v := (Below.block g b (Array.getElem?_eq_some_iff.1 h).1).trans h
theorem BoxO.at0 {W : World} {b : Nat} {z : Int} {v : Value} (h : BoxO W b z v) : W.cell? ⟨b, 0, none⟩ = some (.int .i64 z) := (cell_of_row W b 0 _ 36 (0, 0) h).trans rfl
theorem BoxO.at1 {W : World} {b : Nat} {z : Int} {v : Value} (h : BoxO W b z v) : W.cell? ⟨b, 1, none⟩ = some v := (cell_of_row W b 1 _ 36 (0, 0) h).trans rfl
theorem BoxO.fz {W : World} {b : Nat} {z : Int} {v : Value} (h : BoxO W b z v) : W.frozen? ⟨b, 1, none⟩ = false := frozen_of_row W b 1 _ 36 h
theorem BoxO.ne {w0 W : World} {b : Nat} {z : Int} {v u : Value} {raw : List RW.Rw} (h : BoxO W b z v) (ho : RW.OwnR w0 W u raw) : u.ownBlock ≠ some b := fun e => by
 rcases ho.blk with ⟨rfl, _⟩ | ⟨g, c, cur, rfl, _, _, _, _, hg, _⟩
 ·cases e
 cases e
 unfold BoxO at h
 rw [h] at hg
 cases hg
theorem BoxO.grown {w0 W W' : World} {b : Nat} {z : Int} {v u : Value} {raw : List RW.Rw} (h : BoxO W b z v) (ho : RW.OwnR w0 W u raw) (g : W.grownBy W' u.ownBlock) : BoxO W' b z v :=
 (g.block b (Array.getElem?_eq_some_iff.1 h).1 (fun e => h.ne ho e.symm)).trans h
theorem BoxO.put {W : World} {b : Nat} {z : Int} {v : Value} (h : BoxO W b z v) (v' : Value) : ∃ W', W.setCell ⟨b, 1, none⟩ v' = W' ∧ W.grownBy W' (some b) ∧ BoxO W' b z v' := by
 refine ⟨_, rfl, (Wr.refl b W).set 1 v', ?_⟩
 unfold BoxO at h ⊢
 unfold World.setCell
 simp [Array.getElem?_modify, h]
theorem ownR_far {w0 W W' : World} {b : Nat} {v : Value} {raw : List RW.Rw} (ho : RW.OwnR w0 W v raw) (hb : w0.heap.size ≤ b) (hne : v.ownBlock ≠ some b) (g : W.grownBy W' (some b)) : RW.OwnR w0 W' v raw := by
 refine ⟨ho.1.kept g ?_, ho.2.grown g fun k hk => by cases hk; exact hb⟩
 cases hv : v.ownBlock with
 | none => exact .inl rfl
 | some k =>
  right
  intro e
  exact hne (by rw [hv, e])
theorem datW_far {W W' : World} {b : Nat} {z : Int} {v : Value} {raw : List RW.Rw} {L : Tbl SL} (h : RW.Dat RS.EW W raw L) (hB : BoxO W b z v) (g : W.grownBy W' (some b)) : RW.Dat RS.EW W' raw L := h.wr hB (by decide) (by decide) (Nat.zero_le _) g
theorem datW_grown {w0 w w' : World} {v : Value} {raw raw' : List RW.Rw} {L : Tbl SL} (h : RW.Dat RS.EW w raw' L) (ho : RW.OwnR w0 w v raw) (g : w.grownBy w' v.ownBlock) : RW.Dat RS.EW w' raw' L := by
 rcases ho.blk with ⟨rfl, _⟩ | ⟨b, c, cur, rfl, _, _, hb, _, hg, _⟩
 ·exact h.gr ((Gr.refl w).grown g fun k hk => by cases hk)
 exact h.wr hg (by decide) (by decide) (Nat.zero_le _) g
theorem ownRW_base {w0 w1 w : World} {v : Value} {raw : List RW.Rw} (h : RW.OwnR w1 w v raw) (g : Gr w0 w1) : RW.OwnR w0 w v raw := by
 obtain ⟨⟨hl, hv⟩, g2⟩ := h
 refine ⟨⟨hl, ?_⟩, g.trans g2⟩
 rcases hv with h | ⟨b, cap, cur, e, hb, r⟩
 ·exact .inl h
 exact .inr ⟨b, cap, cur, e, Nat.le_trans g.size hb, r⟩
theorem put2w {W : World} {b : Nat} {u0 u1 : Value} (x0 : W.cell? ⟨b, 0, none⟩ = some u0) (x1 : W.cell? ⟨b, 1, none⟩ = some u1) (v0 v1 : Value) : ∃ W', (W.setCell ⟨b, 0, none⟩ v0).setCell ⟨b, 1, none⟩ v1 = W' ∧ W.grownBy W' (some b) ∧ W'.cell? ⟨b, 0, none⟩ = some v0 ∧ W'.cell? ⟨b, 1, none⟩ = some v1 := by
 refine ⟨_, rfl, ((Wr.refl b W).set 0 v0).set 1 v1, ?_, ?_⟩
 ·rw [World.cell?_setCell_other _ _ _ _ (by simp)]
  exact cell_near x0 _
 exact cell_near (by rw [World.cell?_setCell_other _ _ _ _ (by simp)]; exact x1) _
theorem sums_any (w : World) : Calls Tryz.prog 79 #[] w fun e w' => e = .returned FS.val ∧ Gr w w' := by
 go_enter Tryz.func79, Tryz.ntmps79
 go_wp2_with fail
 refine bodyPost_ret (v := FS.val) (by simp [results, Tryz.results79, go_sem, FS, RS.RF.val]) rfl ⟨rfl, (Gr.refl w).alloc _⟩
def RetAsk (r : Except Int (Tbl SL × Int)) (w : World) (e : Ending) (w' : World) : Prop := match r with
 | .error E => e = .returned (.tuple #[.agg #[.int .i64 0, .slice none 0 0], .int .i64 E]) ∧ Gr w w'
 | .ok x => ∃ v raw, e = .returned (.tuple #[.agg #[.int .i64 x.2, v], .int .i64 0]) ∧ RW.OwnR w w' v raw ∧ RW.Dat RS.EW w' raw x.1
theorem ask_any (a : Option Addr) (n c : Nat) (Ts : List (Int × Tbl SL)) (q : ByteArray) (right : Bool) (w : World) (hr : RdWs w a n c Ts) (hz : SzWs Ts) (hq : q.size ≤ 9223372036854775807) (hT : Pow10 w) (hE : Errs w) :
  Calls Tryz.prog 51 #[.slice a n c, .string q, .bool right] w (RetAsk (resQ RgS (fun L => L) right Ts q.data.toList) w) := by
 have C79 := Lh (fun W => sums_any W)
 have C78 := Lh (fun W (k : Gr w W) => RS.answer_any FS RgS GS muS 4000000000000000000 14089748835532800 80 #[] (fun L => L) a n c Ts q right W (hr.gr k) hz hq (hT.gr k) (hE.gr k) fun _ => ansS)
 have HLn := Lh (fun (T : Tbl SL) (Wd : Int) (h : resQ RgS (fun L => L) right Ts q.data.toList = .ok (T, Wd)) => resQ_lenS lawS (fun L h0 => GS.of h0) h)
 clear hr hz hq hT hE
 generalize hres : resQ RgS (fun L => L) right Ts q.data.toList = res at *
 have g0 := (Gr.refl w).alloc (.cells #[.int .i64 0, .slice none 0 0] 36)
 have G0 := Lh g0
 clear g0
 cases res with
 | error E =>
  have hE0 := resQ_errS hres
  have e0 : (E != 0) = true := by simp; omega
  clear HLn hres hE0
  go_enter Tryz.func51, Tryz.ntmps51
  go_wp2_with (first
   | (go_at_call 79; (refine (C79.out _).mono ?_); rintro e w1 ⟨rfl, g1⟩; have g1' := Lh g1; have G1 := Lh (G0.out.trans g1); clear g1)
   | (go_at_call 78; (refine (C78.out _ G1.out).mono ?_); rintro e w2 ⟨rfl, g2⟩; have G2 := Lh (G1.out.trans g2); have gb := g1'.out.trans g2; obtain ⟨x0, f0⟩ := gb.fresh' (b := w.heap.size) (j := 0) rfl rfl; obtain ⟨x1, f1⟩ := gb.fresh' (b := w.heap.size) (j := 1) rfl rfl; obtain ⟨u0, hu0⟩ : ∃ u, some (Value.int .i64 0) = some u := ⟨_, rfl⟩; obtain ⟨u1, hu1⟩ : ∃ u, some (Value.slice none 0 0) = some u := ⟨_, rfl⟩; replace x0 := x0.trans hu0; replace x1 := x1.trans hu1; obtain ⟨wP, hwP, gP, k0, k1⟩ := put2w x0 x1 (.int .i64 0) (.slice none 0 0); have GP := Lh (G2.out.grown gP fun k hk => by cases hk; exact Nat.le_refl _); clear g2 gb gP hu0 hu1))
  refine bodyPost_ret (v := .tuple #[.agg #[.int .i64 0, .slice none 0 0], .int .i64 E]) (by simp [results, Tryz.results51, go_sem, k0, k1]) rfl ?_
  exact ⟨rfl, GP.out⟩
 | ok x =>
  obtain ⟨T, Wd⟩ := x
  have HTI := Lh (HLn.out T Wd rfl)
  clear HLn hres
  go_enter Tryz.func51, Tryz.ntmps51
  go_wp2_with (first
   | (go_at_call 79; (refine (C79.out _).mono ?_); rintro e w1 ⟨rfl, g1⟩; have g1' := Lh g1; have G1 := Lh (G0.out.trans g1); clear g1)
   | (go_at_call 78; (refine (C78.out _ G1.out).mono ?_); rintro e w2 ⟨ta, tn, tc, rfl, h2, g2⟩; have G2 := Lh (G1.out.trans g2); have GB := Lh (g1'.out.trans g2); have H2 := Lh h2; clear g2 h2 C78 C79 G0 G1 g1'))
  obtain ⟨rawT, hR, hD⟩ := H2.out
  have HR := Lh hR
  have HD := Lh hD
  have HNn := Lh (show tn = T.length ∧ tn ≤ 60 by have := hR.1; have := hD.1; have := (okT_le HTI.out.ok).1; omega)
  clear hR hD
  have HGB := Lh ((Gr.refl w2).alloc (.cells #[.int .i64 Wd, .slice none 0 0] 36))
  have HB0 := Lh (show BoxO (w2.alloc (.cells #[.int .i64 Wd, .slice none 0 0] 36)) w2.heap.size Wd (.slice none 0 0) from heap_alloc_new w2 _)
  go_wp2_with fail
  generalize hbo : w2.heap.size = bo at *
  have Hbo := Lh (Nat.le_of_eq hbo)
  go_loopw [33] (fun si wr => ∃ (i : Nat) (v : Value) (raw : List RW.Rw), i ≤ tn ∧ si = .int .i64 i ∧ Hid (RW.OwnR w2 wr v raw) ∧ Hid (RW.Dat RS.EW wr raw (T.take i)) ∧ Hid (BoxO wr bo Wd v)) (fun si _ => tn - (intOf si).toNat)
  case atStart => exact ⟨0, _, [], Nat.zero_le _, rfl, Lh (RW.OwnR.nil' HGB.out), Lh (RW.Dat.nil _ _), HB0⟩
  case round =>
   obtain ⟨i, v, raw, hi, rfl, HO, HDw, HB⟩ := hrel
   by_cases hlt : i < tn
   ·have i1 : (i : Int) < (tn : Int) := by omega
    obtain ⟨b, o, x, hab, hx, z0, z1⟩ := (HR.out.gr HO.out.2).at hlt
    obtain ⟨r, hrT, d1, d2, d3⟩ := HD.out.at hx
    subst hab
    have hg := HTI.out.gd r (List.mem_of_getElem? hrT)
    have hf := (okT_le HTI.out.ok).2 r (List.mem_of_getElem? hrT)
    have HF := Lh (fits_bd hg hf)
    have HGS := Lh hg
    have CP := Lh (fun W (k : Gr wr W) => products_own x.y r.2.length r.2 W (d3.gr (HO.out.2.trans k)) (by have := HF.out; omega) HGS.out.1 (fun y hy => Nat.le_trans (HGS.out.2.1 y hy) (by omega)) (by have := HF.out; omega))
    have HX1 := Lh (fun W (k : Gr wr W) => And.intro (d1.gr (HO.out.2.trans k)) (d2.gr (HO.out.2.trans k)))
    have HTk := Lh (show T.take (i + 1) = T.take i ++ [r] by rw [List.take_add_one, hrT]; rfl)
    have HRl := Lh (show raw.length < 999999 by
     have h1 := HDw.out.1
     rw [List.length_take] at h1
     have := HNn.out
     omega)
    have HE := Lh (show r.2 ≠ [] from hg.2.2)
    have Hlt := Lh hlt
    have w9 := Lh (show wrap64 ((i : Int) + 1) = ((i + 1 : Nat) : Int) by rw [IntWalk.wrap64_in _ (by have := HNn.out; omega)]; omega)
    obtain ⟨va, vc, rfl, _⟩ := HO.out.rd
    obtain ⟨wA, hwA⟩ : ∃ wA, wr.alloc (.cells #[.slice x.a x.n x.c, .map (some x.y)] 121) = wA := ⟨_, rfl⟩
    have gA : Gr wr wA := hwA ▸ (Gr.refl wr).alloc _
    obtain ⟨y0, y1⟩ : wA.cell? ⟨wr.heap.size, 0, none⟩ = some (.slice x.a x.n x.c) ∧ wA.cell? ⟨wr.heap.size, 1, none⟩ = some (.map (some x.y)) := by rw [← hwA]; exact ⟨by simp, by simp⟩
    have HGA := Lh gA
    have c0 := (HB.out.gr gA).at0
    have c1 := (HB.out.gr gA).at1
    clear hx hrT d1 d2 d3 hlt hg hf gA
    generalize hrl : raw.length = rl at *
    go_wp2_with (first
     | (go_at_call 81; (refine (CP.out _ HGA.out).mono ?_); rintro e w5 ⟨fa, fc, rfl, l1, l2, p5, g5, o5⟩; have G5 := Lh (HGA.out.trans g5); have P5 := Lh (And.intro l1 (And.intro l2 (And.intro p5 (o5 RS.EW)))); have s0 := g5.cell y0; have c0' := g5.cell c0; have c1' := g5.cell c1; clear g5 l1 l2 p5 o5 CP y0 y1 c0 c1)
     | (at_builtin; go_must (refine RW.wpList_app_row rfl _ _ 34 rfl Tryz.underlying34 _ raw rfl (HO.out.gr (G5.out.trans ((Gr.refl w5).alloc _))) w5.heap.size (RW.Rw.mk x.a x.n x.c fa r.2.length fc) rfl ⟨by simp, by simp⟩ (by rw [hrl]; exact HRl.out) ?_); intro v6 w6 h6 g6; have HB6 := Lh ((HB.out.gr (G5.out.trans ((Gr.refl w5).alloc _))).grown (HO.out.gr (G5.out.trans ((Gr.refl w5).alloc _))) g6); obtain ⟨va6, vc6, rfl, _⟩ := h6.rd; generalize hn6 : (raw ++ [RW.Rw.mk x.a x.n x.c fa r.2.length fc]).length = n6 at *; obtain ⟨wP, hwP, gP, bP⟩ := HB6.out.put (.slice va6 n6 vc6); have q1 := HB6.out.at1; have f1 := HB6.out.fz; have H6 := Lh h6; have G6 := Lh g6; have GP := Lh gP; have BP := Lh bP; have e9 := w9.out; clear h6 g6 gP bP hn6 c0' c1' s0 i1))
    have gx : Gr wr (w5.alloc (.cells #[.slice x.a x.n x.c, .slice fa r.2.length fc] 52)) := G5.out.trans ((Gr.refl w5).alloc _)
    have hd0 : RW.Dat RS.EW w6 (raw ++ [RW.Rw.mk x.a x.n x.c fa r.2.length fc]) (T.take (i + 1)) := by
     rw [HTk.out]
     have hx1 := HX1.out _ gx
     have hn : fa = none → fc = 0 := fun e => by
      rcases P5.out.2.2.1 with h | ⟨b9, o9, e9, _⟩
      ·exact absurd (List.length_eq_zero_iff.1 h) HE.out
      rw [e] at e9; cases e9
     have hs := (HDw.out.gr gx).snoc (x := RW.Rw.mk x.a x.n x.c fa r.2.length fc) (r := r) hx1.1 hx1.2 ⟨⟨rfl, P5.out.1, by have := P5.out.2.1; unfold maxLen at this; omega, hn, P5.out.2.2.1.gr ((Gr.refl w5).alloc _)⟩, P5.out.2.2.2.gr ((Gr.refl w5).alloc _)⟩
     exact datW_grown hs (HO.out.gr gx) G6.out
    have hd1 := datW_far hd0 HB6.out GP.out
    have ho1 := ownR_far H6.out Hbo.out (HB6.out.ne H6.out) GP.out
    go_roundw
    case rel => exact ⟨i + 1, _, _, Hlt.out, by first | rw [e9] | rfl, Lh ho1, Lh hd1, BP⟩
    case measure => first | (rw [e9]; exact fallS Hlt.out) | exact fallS Hlt.out
   obtain rfl : i = tn := by omega
   have i1 : ¬ (i : Int) < (i : Int) := by omega
   have hTt : T.take i = T := List.take_of_length_le (by have := HNn.out; omega)
   rw [hTt] at HDw
   have gz := GB.out.trans HO.out.2
   have HBz := Lh (show BoxO wr w.heap.size 0 (.slice none 0 0) from (show BoxO (w.alloc (.cells #[.int .i64 0, .slice none 0 0] 36)) w.heap.size 0 (.slice none 0 0) from heap_alloc_new w _).gr gz)
   obtain ⟨x0, f0⟩ := gz.fresh' (b := w.heap.size) (j := 0) rfl rfl
   obtain ⟨x1, f1⟩ := gz.fresh' (b := w.heap.size) (j := 1) rfl rfl
   obtain ⟨u0, hu0⟩ : ∃ u, some (Value.int .i64 0) = some u := ⟨_, rfl⟩
   obtain ⟨u1, hu1⟩ : ∃ u, some (Value.slice none 0 0) = some u := ⟨_, rfl⟩
   replace x0 := x0.trans hu0
   replace x1 := x1.trans hu1
   obtain ⟨va, vc, rfl, _⟩ := HO.out.rd
   have c0 := HB.out.at0
   have c1 := HB.out.at1
   have HOw := Lh (ownRW_base HO.out G2.out)
   obtain ⟨wP, hwP, gP, k0, k1⟩ := put2w x0 x1 (.int .i64 Wd) (.slice va raw.length vc)
   have HO2 := Lh (ownR_far HOw.out (Nat.le_refl _) (HBz.out.ne HOw.out) gP)
   have HD2 := Lh (datW_far HDw.out HBz.out gP)
   clear hlt hTt gz gP hu0 hu1
   generalize hrl : raw.length = rl at *
   go_wp2_with fail
   refine bodyPost_ret (v := .tuple #[.agg #[.int .i64 Wd, .slice va rl vc], .int .i64 0]) (by simp [results, Tryz.results51, go_sem, k0, k1]) rfl ?_
   exact ⟨_, raw, rfl, HO2.out, HD2.out⟩
end Go.Proofs.YtehdemcfeoiecaaGreatDoor
namespace Go.Firn.Tb
section
variable {D : Type}
def ValT (P : Int → Prop) (T : Tbl D) : Prop := ∀ x ∈ T, ∀ v ∈ x.1, P v
theorem ValT.nil {P : Int → Prop} : ValT P ([] : Tbl D) := fun x hx => by cases hx
theorem valT_at {P : Int → Prop} {p : List (Tbl D)} (h : ∀ T ∈ p, ValT P T) (i : Nat) : ValT P (p.getD i []) := by
 rw [List.getD_eq_getElem?_getD]
 cases hx : p[i]? with
 | none => exact ValT.nil
 | some T => exact h T (List.mem_of_getElem? hx)
theorem valT_gath {R : Rg D} {P : Int → Prop} {L : Tbl D} (h : ValT P L) : ValT P (gath R L) := fun x hx v hv => by
 obtain ⟨y, hy, e⟩ := gath_keys R L x hx
 exact h y hy v (by rw [e]; exact hv)
theorem valT_rows {mul : D → D → D} {P : Int → Prop} {tabs p : List (Tbl D)} (ht : ∀ T ∈ tabs, ValT P T) (hp : ∀ T ∈ p, ValT P T) (w : Wd) : ValT P (rowsW mul tabs w p) := by
 have kept : ∀ w : Wd, (∀ v x, v ∈ colsW w x → v ∈ x) → ValT P (((p.getD (p.length - 1) []).filter fun x => keepsW w x.1).map fun x => (colsW w x.1, x.2)) := fun w hc z hz v hv => by
  obtain ⟨x, hx, rfl⟩ := List.mem_map.1 hz
  exact valT_at hp _ x (List.mem_filter.1 hx).1 v (hc v _ hv)
 cases w with
 | put n => exact valT_at ht n
 | orr =>
  intro x hx v hv
  rcases List.mem_append.1 hx with hx | hx
  ·exact valT_at hp _ x hx v hv
  exact valT_at hp _ x hx v hv
 | byy =>
  intro z hz v hv
  obtain ⟨x, hx, hz⟩ := List.mem_flatMap.1 hz
  unfold join1 at hz
  obtain ⟨y, hy, rfl⟩ := List.mem_map.1 hz
  rcases List.mem_append.1 hv with hv | hv
  ·exact valT_at hp _ x hx v hv
  exact valT_at hp _ y (List.mem_filter.1 hy).1 v (List.mem_of_mem_drop hv)
 | drop n => exact kept (.drop n) fun v x hv => List.mem_of_mem_eraseIdx hv
 | pick n m => exact kept (.pick n m) fun v x hv => hv
 | same n m => exact kept (.same n m) fun v x hv => hv
theorem valT_run {R : Rg D} {P : Int → Prop} {tabs : List (Tbl D)} (ht : ∀ T ∈ tabs, ValT P T) : ∀ (l : List Wd) (p q : List (Tbl D)), (∀ T ∈ p, ValT P T) → runT R tabs l p = some q → ∀ T ∈ q, ValT P T
 | [], p, q, hp, h => by
  simp only [runT, Option.some.injEq] at h
  subst h
  exact hp
 | w :: r, p, q, hp, h => by
  unfold runT at h
  split at h
  ·refine valT_run ht r _ q (fun T hT => ?_) h
   rcases List.mem_append.1 hT with hT | hT
   ·exact hp T (List.mem_of_mem_take hT)
   simp only [List.mem_singleton] at hT
   subst hT
   exact valT_gath (valT_rows ht hp w)
  cases h
end
end Go.Firn.Tb
namespace Go.Proofs.YtehdemcfeoiecaaGreatDoor
open Go.RowKit Go.Firn Go.Firn.Tb
theorem ans_valid {Ts : List (Int × Tbl SL)} {q : Key} {right : Bool} {T : Tbl SL} {W : Int} (h : resQ RgS (fun L => L) right Ts q = .ok (T, W)) : vTab W T = true := by
 have hti := resQ_lenS lawS (fun L h0 => GS.of h0) h
 refine vTab_of ⟨hti.w1, hti.srt, hti.wd, (okT_le hti.ok).1, fun r hr => ?_⟩ ?_
 ·have hg := hti.gd r hr
  have hf := (okT_le hti.ok).2 r hr
  exact ⟨vL_iff.2 ⟨hg.1, by simpa [RgS] using hf⟩, hg.2.2⟩
 unfold resQ at h
 split at h
 ·rename_i hv
  split at h
  ·cases h
  split at h
  ·split at h
   ·cases h
   rename_i T' hT
   cases h
   unfold ansQ at hT
   obtain ⟨p, hp, rfl⟩ := Option.map_eq_some_iff.1 hT
   have hval := valT_run (P := fun v => -999 ≤ v ∧ v ≤ 999) (fun T0 hT0 => by
    unfold tabsOf at hT0
    obtain ⟨y, hy, rfl⟩ := List.mem_map.1 hT0
    intro r hr v hv2
    unfold mapT at hr
    obtain ⟨r0, hr0, rfl⟩ := List.mem_map.1 hr
    exact (vTab_TG ((vTabs_iff.1 hv).1 _ hy)).2 r0 hr0 v hv2) _ [] p (fun T0 hT0 => by cases hT0) hp
   exact fun r hr v hv2 => valT_at hval 0 r hr v hv2
  cases h
 cases h
theorem fallY {j n : Nat} (h : j < n) : n - (intOf (.int .i64 ((j + 1 : Nat) : Int))).toNat < n - (intOf (.int .i64 (j : Int))).toNat := by simp only [intOf]; omega
def RetSome (w : World) (e : Ending) (w' : World) : Prop := ∃ b, e = .returned (.bool b) ∧ Gr w w'
theorem Wide_some (a : Option Addr) (n c : Nat) (Ts : List (Int × Tbl SL)) (w : World) (h : RdWs w a n c Ts) : Calls Tryz.prog 9 #[.slice a n c] w (RetSome w) := by
 have HT := Lh h
 have HN := Lh (show n ≤ 9223372036854775807 by have := h.2.1; have := h.2.2.1; omega)
 clear h
 go_enter Tryz.func9, Tryz.ntmps9
 go_wp2_with fail
 go_loopw [14, 3] (fun si s3 wr => ∃ (i : Nat) (z : Int), i ≤ n ∧ si = .int .i64 i ∧ s3 = .int .i64 z ∧ Hid (Gr w wr)) (fun si _ _ => n - (intOf si).toNat)
 case atStart => exact ⟨0, _, Nat.zero_le _, rfl, rfl, Lh (Gr.refl w)⟩
 case round =>
  obtain ⟨i, z, hi, rfl, rfl, HG⟩ := hrel
  by_cases hlt : i < n
  ·have i1 : (i : Int) < (n : Int) := by omega
   obtain ⟨b, o, r, a1, n1, c1, rfl, hr, k0, k1, hw⟩ := (HT.out.gr HG.out).at hlt
   have HW := Lh hw
   have HN1 := Lh (show n1 ≤ 9223372036854775807 by have := hw.2.1; have := hw.2.2.1; omega)
   have Hlt := Lh hlt
   have w9 := Lh (show wrap64 ((i : Int) + 1) = ((i + 1 : Nat) : Int) by rw [IntWalk.wrap64_in _ (by have := HN.out; omega)]; omega)
   obtain ⟨r1, r2⟩ := r
   simp only at k0
   clear hr hw
   go_wp2_with fail
   go_loopw [21, 3] (fun si s3 W => ∃ (j : Nat) (z : Int), j ≤ n1 ∧ si = .int .i64 j ∧ s3 = .int .i64 z ∧ Hid (Gr wr W)) (fun si _ _ => n1 - (intOf si).toNat)
   case atStart => exact ⟨0, _, Nat.zero_le _, rfl, rfl, Lh ((Gr.refl _).alloc _)⟩
   case round =>
    obtain ⟨j, z, hj, rfl, rfl, HG1⟩ := hrel
    by_cases hlj : j < n1
    ·have i1 : (j : Int) < (n1 : Int) := by omega
     obtain ⟨b, o, r, a2, n2, c2, a3, n3, c3, rfl, hr, k0, k1, _, hp⟩ := (HW.out.gr HG1.out).at hlj
     have HP := Lh hp.2.2.2.2
     have HN2 := Lh (show n3 ≤ 9223372036854775807 by have := hp.2.1; have := hp.2.2.1; omega)
     have Hlj := Lh hlj
     have w8 := Lh (show wrap64 ((j : Int) + 1) = ((j + 1 : Nat) : Int) by rw [IntWalk.wrap64_in _ (by have := HN1.out; omega)]; omega)
     clear hr hp
     go_wp2_with fail
     go_loopw [39, 3] (fun si s3 W => ∃ (j : Nat) (z : Int), j ≤ n3 ∧ si = .int .i64 j ∧ s3 = .int .i64 z ∧ Hid (Gr wr W)) (fun si _ _ => n3 - (intOf si).toNat)
     case atStart => exact ⟨0, _, Nat.zero_le _, rfl, rfl, Lh ((Gr.refl _).alloc _)⟩
     case round =>
      obtain ⟨k, z, hk, rfl, rfl, HG2⟩ := hrel
      by_cases hlk : k < n3
      ·have i1 : (k : Int) < (n3 : Int) := by omega
       obtain ⟨b, o, rfl, hc⟩ := (HP.out.gr HG2.out).at hlk
       obtain ⟨y0, y1⟩ := hc k hlk
       have Hlk := Lh hlk
       have w7 := Lh (show wrap64 ((k : Int) + 1) = ((k + 1 : Nat) : Int) by rw [IntWalk.wrap64_in _ (by have := HN2.out; omega)]; omega)
       have e9 := w7.out
       clear hc
       go_wp2_with fail
       go_roundw
       case rel => exact ⟨k + 1, _, Hlk.out, by first | rw [e9] | rfl, rfl, Lh (HG2.out.alloc _)⟩
       case measure => first | (rw [e9]; exact fallY Hlk.out) | exact fallY Hlk.out
      obtain rfl : k = n3 := by omega
      have i1 : ¬ (k : Int) < (k : Int) := by omega
      have e9 := w8.out
      clear hlk
      go_wp2_with fail
      go_roundw
      case rel => exact ⟨j + 1, _, Hlj.out, by first | rw [e9] | rfl, rfl, Lh (HG1.out.trans HG2.out)⟩
      case measure => first | (rw [e9]; exact fallY Hlj.out) | exact fallY Hlj.out
    obtain rfl : j = n1 := by omega
    have i1 : ¬ (j : Int) < (j : Int) := by omega
    have e9 := w9.out
    clear hlj
    go_wp2_with fail
    go_roundw
    case rel => exact ⟨i + 1, _, Hlt.out, by first | rw [e9] | rfl, rfl, Lh (HG.out.trans HG1.out)⟩
    case measure => first | (rw [e9]; exact fallY Hlt.out) | exact fallY Hlt.out
  obtain rfl : i = n := by omega
  have i1 : ¬ (i : Int) < (i : Int) := by omega
  clear hlt
  go_wp2_with fail
  go_ret
  exact ⟨_, rfl, HG.out⟩
theorem many_any (q : ByteArray) (a : Option Addr) (m c : Nat) (w : World) : Calls Tryz.prog 10 #[.string q, .slice a m c] w (RetB (decide (300 < q.size) || decide (100 < m)) w) := by
 by_cases h : 300 < q.size
 ·have h1 : (300 : Int) < (q.size : Int) := by omega
  have h2 : decide ((300 : Int) < (q.size : Int)) = true := decide_eq_true h1
  have HD := Lh (show (decide (300 < q.size) || decide (100 < m)) = true by rw [decide_eq_true h]; rfl)
  rw [HD.out]
  clear HD
  go_enter Tryz.func10, Tryz.ntmps10
  go_wp2_with fail
  go_ret
  exact ⟨rfl, Gr.refl w⟩
 have h1 : ¬ (300 : Int) < (q.size : Int) := by omega
 have h2 : decide ((300 : Int) < (q.size : Int)) = false := decide_eq_false h1
 have HD := Lh (show (decide (300 < q.size) || decide (100 < m)) = decide ((100 : Int) < (m : Int)) by
  rw [decide_eq_false h, Bool.false_or]
  exact decide_eq_decide.2 (by omega))
 rw [HD.out]
 clear HD
 go_enter Tryz.func10, Tryz.ntmps10
 go_wp2_with fail
 go_ret
 exact ⟨by simp, Gr.refl w⟩
theorem Ask_any (a : Option Addr) (n c : Nat) (Ts : List (Int × Tbl SL)) (q : ByteArray) (w : World) (hr : RdWs w a n c Ts) (hz : SzWs Ts) (hq : q.size ≤ 9223372036854775807) (hT : Pow10 w) (hE : Errs w) :
  Calls Tryz.prog 18 #[.slice a n c, .string q] w (RetAsk (resQ RgS (fun L => L) true Ts q.data.toList) w) := by
 have C51 := Lh (fun W (k : Gr w W) => ask_any a n c Ts q true W (hr.gr k) hz hq (hT.gr k) (hE.gr k))
 clear hr hz hq hT hE
 cases hres : resQ RgS (fun L => L) true Ts q.data.toList with
 | error E =>
  rw [hres] at C51
  clear hres
  go_enter Tryz.func18, Tryz.ntmps18
  go_wp2_with (go_at_call 51; (refine (C51.out _ ((Gr.refl w).alloc _)).mono ?_); rintro e w1 ⟨rfl, g1⟩; have G1 := Lh (((Gr.refl w).alloc (.cells #[.int .i64 0, .slice none 0 0] 36)).trans g1); obtain ⟨x0, f0⟩ := g1.fresh' (b := w.heap.size) (j := 0) rfl rfl; obtain ⟨x1, f1⟩ := g1.fresh' (b := w.heap.size) (j := 1) rfl rfl; obtain ⟨u0, hu0⟩ : ∃ u, some (Value.int .i64 0) = some u := ⟨_, rfl⟩; obtain ⟨u1, hu1⟩ : ∃ u, some (Value.slice none 0 0) = some u := ⟨_, rfl⟩; replace x0 := x0.trans hu0; replace x1 := x1.trans hu1; obtain ⟨wP, hwP, gP, k0, k1⟩ := put2w x0 x1 (.int .i64 0) (.slice none 0 0); have GP := Lh (G1.out.grown gP fun k hk => by cases hk; exact Nat.le_refl _); clear g1 gP hu0 hu1)
  refine bodyPost_ret (v := .tuple #[.agg #[.int .i64 0, .slice none 0 0], .int .i64 E]) (by simp [results, Tryz.results18, go_sem, k0, k1]) rfl ?_
  exact ⟨rfl, GP.out⟩
 | ok x =>
  obtain ⟨T, Wd⟩ := x
  rw [hres] at C51
  clear hres
  go_enter Tryz.func18, Tryz.ntmps18
  go_wp2_with (go_at_call 51; (refine (C51.out _ ((Gr.refl w).alloc _)).mono ?_); rintro e w1 ⟨v, raw, rfl, ho, hd⟩; obtain ⟨va, vc, rfl, _⟩ := ho.rd; generalize hrl : raw.length = rl at *; have HOx := Lh ho; have HDx := Lh hd; have g1 := ho.2; have G1 := Lh (((Gr.refl w).alloc (.cells #[.int .i64 0, .slice none 0 0] 36)).trans g1); have HBz := Lh (show BoxO w1 w.heap.size 0 (.slice none 0 0) from (show BoxO (w.alloc (.cells #[.int .i64 0, .slice none 0 0] 36)) w.heap.size 0 (.slice none 0 0) from heap_alloc_new w _).gr g1); obtain ⟨x0, f0⟩ := g1.fresh' (b := w.heap.size) (j := 0) rfl rfl; obtain ⟨x1, f1⟩ := g1.fresh' (b := w.heap.size) (j := 1) rfl rfl; obtain ⟨u0, hu0⟩ : ∃ u, some (Value.int .i64 0) = some u := ⟨_, rfl⟩; obtain ⟨u1, hu1⟩ : ∃ u, some (Value.slice none 0 0) = some u := ⟨_, rfl⟩; replace x0 := x0.trans hu0; replace x1 := x1.trans hu1; obtain ⟨wP, hwP, gP, k0, k1⟩ := put2w x0 x1 (.int .i64 Wd) (.slice va rl vc); have HOw := Lh (ownRW_base HOx.out ((Gr.refl w).alloc _)); have HO2 := Lh (ownR_far HOw.out (Nat.le_refl _) (HBz.out.ne HOw.out) gP); have HD2 := Lh (datW_far HDx.out HBz.out gP); clear g1 gP hu0 hu1 ho hd)
  refine bodyPost_ret (v := .tuple #[.agg #[.int .i64 Wd, .slice va rl vc], .int .i64 0]) (by simp [results, Tryz.results18, go_sem, k0, k1]) rfl ?_
  exact ⟨_, raw, rfl, HO2.out, HD2.out⟩
theorem RdWs.one {w : World} {b : Nat} {W : Int} {a : Option Addr} {n c : Nat} {T : Tbl SL} (h0 : w.cell? ⟨b, 0, none⟩ = some (.int .i64 W)) (h1 : w.cell? ⟨b, 1, none⟩ = some (.slice a n c)) (h : RdW w a n c T) : RdWs w (some ⟨b, 0, none⟩) 1 1 [(W, T)] := by
 refine ⟨rfl, Nat.le_refl _, by omega, (fun e => by cases e), .inr ⟨b, 0, rfl, fun i r hr => ?_⟩⟩
 rcases i with _ | i
 ·simp at hr
  subst hr
  exact ⟨a, n, c, h0, h1, h⟩
 simp at hr
theorem SzWs.one {W : Int} {T : Tbl SL} (h : vTab W T = true) : SzWs [(W, T)] := fun x hx => by
 simp only [List.mem_singleton] at hx
 subst hx
 obtain ⟨h1, h2⟩ := vTab_TG h
 have hw := h1.w1
 refine ⟨WalkArith.wf_i64 (by omega), fun r hr => ⟨fun v hv => ?_, fun y hy => ?_⟩⟩
 ·have := h2 r hr v hv
  exact WalkArith.wf_i64 (by omega)
 obtain ⟨k1, k2⟩ := vL_iff.1 (h1.gd r hr).1
 have := (over_iff.1 k2).1 y hy
 have hp := k1.2.1 y hy
 exact ⟨by omega, WalkArith.wf_i64 (by omega)⟩
namespace provWides
end provWides
end Go.Proofs.YtehdemcfeoiecaaGreatDoor
namespace Go.Firn
end Go.Firn
namespace Go.Proofs.YtehdemcfeoiecaaGreatDoor
open Go.ChangeShapes Go.WideShapes Go.ChangeAt Go.RowKit Go.Firn
theorem own : ownKnob Tryz.prog.godebug = none := by kernel_rfl
theorem gPow : Tryz.prog.globalNamed "internal/strconv.uint64pow10" = some 5 := by kernel_rfl
theorem gPowType : (Tryz.prog.globals[5]?).map (·.type) = some 286 := by kernel_rfl
theorem cells286 : Tryz.prog.cellsOf 286 = 20 := by kernel_rfl
theorem cells247 : Tryz.prog.cellsOf 247 = 1 := by kernel_rfl
theorem pow_of {W : World} (h : laidMetH Tryz.prog Rows.provCountsRow.laid W) : Pow10 W :=
 Lib.tabIs_of_head (rest := []) (zs := Lib.pow10Tab) gPow gPowType Tryz.underlying286 Tryz.underlying247 cells247 cells286 (laidMetH.filter (fun x => x.1 == "internal/strconv.uint64pow10") h)
end Go.Proofs.YtehdemcfeoiecaaGreatDoor

import Derived.Test.YtehdemcfeoiecaaGreatDoorA22
set_option maxHeartbeats 64000000
set_option maxRecDepth 100000
namespace Go.Proofs.YtehdemcfeoiecaaGreatDoor
open Go.RowKit Go.Firn Go.Firn.Tb
def RetAk (vt : Bool) (r : Option (List Wd × Int)) (w : World) (e : Ending) (w' : World) : Prop := ∃ a n c W er, e = .returned (.tuple #[.slice a n c, .int .i64 W, .int .i64 er]) ∧ Gr w w' ∧ (match vt, r with
 | false, _ => er = 90
 | true, none => er = 91
 | true, some x => er = 0 ∧ W = x.2 ∧ n = x.1.length ∧ Rd33 w' a n c (x.1.map rwd))
theorem asked_any (at_ : Option Addr) (nt ct : Nat) (Ts : List (Int × Tbl SL)) (q : ByteArray) (w : World) (hr : RdWs w at_ nt ct Ts) (hz : SzWs Ts) (hq : q.size ≤ 1000000) :
  Calls Tryz.prog 52 #[.slice at_ nt ct, .string q] w (RetAk (vTabs Ts) (qry (wsOf Ts) q.data.toList) w) := by
 have C23 := Lh (refValid_any at_ nt ct Ts w hr hz)
 cases hv : vTabs Ts with
 | false =>
  rw [hv] at C23
  clear hr hz hv hq
  go_enter Tryz.func52, Tryz.ntmps52
  go_wp2_with (go_at_call 23; (refine C23.out.mono ?_); rintro e w1 ⟨rfl, g1⟩; have G1 := Lh g1; clear g1)
  refine bodyPost_ret (v := .tuple #[.slice none 0 0, .int .i64 0, .int .i64 90]) (by simp [results, Tryz.results52, go_sem]) rfl ?_
  exact ⟨_, _, _, _, _, rfl, G1.out, rfl⟩
 | true =>
  rw [hv] at C23
  have C82 := Lh (fun W (k : Gr w W) => readQuery_any at_ nt ct Ts q W (hr.gr k) hv hq)
  clear hr hz hv hq
  cases hQ : qry (wsOf Ts) q.data.toList with
  | none =>
   rw [hQ] at C82
   clear hQ
   go_enter Tryz.func52, Tryz.ntmps52
   go_wp2_with (first
    | (go_at_call 23; (refine C23.out.mono ?_); rintro e w1 ⟨rfl, g1⟩; have G1 := Lh g1; clear g1 C23)
    | (go_at_call 82; (refine (C82.out _ G1.out).mono ?_); rintro e w2 ⟨a, n, c, W, ok, rfl, g2, rfl⟩; have G2 := Lh g2; clear g2 C82))
   refine bodyPost_ret (v := .tuple #[.slice none 0 0, .int .i64 0, .int .i64 91]) (by simp [results, Tryz.results52, go_sem]) rfl ?_
   exact ⟨_, _, _, _, _, rfl, G1.out.trans G2.out, rfl⟩
  | some x =>
   rw [hQ] at C82
   clear hQ
   obtain ⟨l, Wx⟩ := x
   go_enter Tryz.func52, Tryz.ntmps52
   go_wp2_with (first
    | (go_at_call 23; (refine C23.out.mono ?_); rintro e w1 ⟨rfl, g1⟩; have G1 := Lh g1; clear g1 C23)
    | (go_at_call 82; (refine (C82.out _ G1.out).mono ?_); rintro e w2 ⟨a, n, c, W, ok, rfl, g2, rfl, rfl, rfl, h2⟩; have G2 := Lh g2; have HH2 := Lh h2; clear g2 h2 C82))
   refine bodyPost_ret (v := .tuple #[.slice a l.length c, .int .i64 W, .int .i64 0]) (by simp [results, Tryz.results52, go_sem]) rfl ?_
   exact ⟨_, _, _, _, _, rfl, G1.out.trans G2.out, rfl, rfl, rfl, HH2.out⟩
end Go.Proofs.YtehdemcfeoiecaaGreatDoor

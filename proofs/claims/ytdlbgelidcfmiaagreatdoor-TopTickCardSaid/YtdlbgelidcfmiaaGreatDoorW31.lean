/- Contracts of chapter 1: the errors of Apart, of the program and of the reference (printed by tools/genapno.py). -/
import Derived.Test.YtdlbgelidcfmiaaGreatDoorW30
namespace Go.Proofs.YtdlbgelidcfmiaaGreatDoor
open Go.RowKit Go.Firn

theorem isLocal_v {n : Int} {v : Bool} (h : btw 0 n 100000 = v) (w : World) :
    Calls Tryz.prog 42 #[.int .i64 n] w fun e w' => e = .returned (.bool v) ∧ w' = w := by
  subst h; exact (isLocal_any n w).mono fun _ _ ⟨h, e⟩ => ⟨h, e.symm⟩

set_option maxRecDepth 100000 in
set_option maxHeartbeats 1000000 in
theorem Apart_no1 (a a' : Option Addr) (n c n' c' : Nat) (L T L' T' : Nat → Int) (F G : Int) (w : World) (hn : n ≤ 9223372036854775807) (_hn' : n' ≤ 9223372036854775807) (hr : RdM w a n L T) (hr' : RdM w a' n' L' T') (hv : vK n L T = false) :
    Calls Tryz.prog 19 #[.slice a n c, .slice a' n' c', .int .i64 F, .int .i64 G] w (RetIRE 0 0 0 11 w) := by
  have V1 := Lib.hid (fun w1 h => show Calls Tryz.prog 27 #[.slice a n c] w1 (RetB false w1) by have := ValidClock_any a n c L T w1 hn h; rwa [hv] at this)
  clear hv
  have HR := Lib.hid hr
  have HR' := Lib.hid hr'
  clear hr hr'
  have g0 : Gr w (w.alloc (.cells #[.int .i64 0, .int .i64 0] 37)) := (Gr.refl w).alloc _
  have B9 : Hid (Box2 (w.alloc (.cells #[.int .i64 0, .int .i64 0] 37)) w.heap.size 0 0) := Lib.hid (Box2.new rfl)
  go_enter Tryz.func19, Tryz.ntmps19
  go_wp2_with fail
  refine (V1.out _ (HR.out.gr g0)).mono ?_
  rintro e w1 ⟨rfl, g2⟩
  replace g0 := g0.trans g2
  replace B9 := Lib.hid (B9.out.gr g2)
  clear g2
  obtain ⟨s0, s1, f0, f1⟩ := id B9.out
  have hz := World.block_lt_of_cell? _ _ s0
  obtain ⟨y0, y1, -, -⟩ := B9.out.put (x' := 0) (y' := 0)
  go_wp2_with fail
  clear s0 s1
  refine bodyPost_ret (v := .tuple #[.int .i64 0, .agg #[.int .i64 0, .int .i64 0], .int .i64 11]) (by simp [results, Tryz.results19, go_sem, y0, y1]) rfl ⟨rfl, ?_⟩
  exact (g0.setAt (by omega) _).setAt (by omega) _

set_option maxRecDepth 100000 in
set_option maxHeartbeats 1000000 in
theorem Apart_no2 (a a' : Option Addr) (n c n' c' : Nat) (L T L' T' : Nat → Int) (F G : Int) (w : World) (hn : n ≤ 9223372036854775807) (hn' : n' ≤ 9223372036854775807) (hr : RdM w a n L T) (hr' : RdM w a' n' L' T') (hv : vK n L T = true) (hv' : vK n' L' T' = false) :
    Calls Tryz.prog 19 #[.slice a n c, .slice a' n' c', .int .i64 F, .int .i64 G] w (RetIRE 0 0 0 11 w) := by
  have V1 := Lib.hid (fun w1 h => show Calls Tryz.prog 27 #[.slice a n c] w1 (RetB true w1) by have := ValidClock_any a n c L T w1 hn h; rwa [hv] at this)
  have V2 := Lib.hid (fun w1 h => show Calls Tryz.prog 27 #[.slice a' n' c'] w1 (RetB false w1) by have := ValidClock_any a' n' c' L' T' w1 hn' h; rwa [hv'] at this)
  clear hv hv'
  have HR := Lib.hid hr
  have HR' := Lib.hid hr'
  clear hr hr'
  have g0 : Gr w (w.alloc (.cells #[.int .i64 0, .int .i64 0] 37)) := (Gr.refl w).alloc _
  have B9 : Hid (Box2 (w.alloc (.cells #[.int .i64 0, .int .i64 0] 37)) w.heap.size 0 0) := Lib.hid (Box2.new rfl)
  go_enter Tryz.func19, Tryz.ntmps19
  go_wp2_with fail
  refine (V1.out _ (HR.out.gr g0)).mono ?_
  rintro e w1 ⟨rfl, g2⟩
  replace g0 := g0.trans g2
  replace B9 := Lib.hid (B9.out.gr g2)
  clear g2
  go_wp2_with fail
  refine (V2.out _ (HR'.out.gr g0)).mono ?_
  rintro e w1 ⟨rfl, g2⟩
  replace g0 := g0.trans g2
  replace B9 := Lib.hid (B9.out.gr g2)
  clear g2
  obtain ⟨s0, s1, f0, f1⟩ := id B9.out
  have hz := World.block_lt_of_cell? _ _ s0
  obtain ⟨y0, y1, -, -⟩ := B9.out.put (x' := 0) (y' := 0)
  go_wp2_with fail
  clear s0 s1
  refine bodyPost_ret (v := .tuple #[.int .i64 0, .agg #[.int .i64 0, .int .i64 0], .int .i64 11]) (by simp [results, Tryz.results19, go_sem, y0, y1]) rfl ⟨rfl, ?_⟩
  exact (g0.setAt (by omega) _).setAt (by omega) _

set_option maxRecDepth 100000 in
set_option maxHeartbeats 1000000 in
theorem Apart_no3 (a a' : Option Addr) (n c n' c' : Nat) (L T L' T' : Nat → Int) (F G : Int) (w : World) (hn : n ≤ 9223372036854775807) (hn' : n' ≤ 9223372036854775807) (hr : RdM w a n L T) (hr' : RdM w a' n' L' T') (hv : vK n L T = true) (hv' : vK n' L' T' = true) (hF : btw 0 F 100000 = false) :
    Calls Tryz.prog 19 #[.slice a n c, .slice a' n' c', .int .i64 F, .int .i64 G] w (RetIRE 0 0 0 2 w) := by
  have V1 := Lib.hid (fun w1 h => show Calls Tryz.prog 27 #[.slice a n c] w1 (RetB true w1) by have := ValidClock_any a n c L T w1 hn h; rwa [hv] at this)
  have V2 := Lib.hid (fun w1 h => show Calls Tryz.prog 27 #[.slice a' n' c'] w1 (RetB true w1) by have := ValidClock_any a' n' c' L' T' w1 hn' h; rwa [hv'] at this)
  have T1 := Lib.hid (fun w1 => isLocal_v (n := F) hF w1)
  clear hv hv' hF
  have HR := Lib.hid hr
  have HR' := Lib.hid hr'
  clear hr hr'
  have g0 : Gr w (w.alloc (.cells #[.int .i64 0, .int .i64 0] 37)) := (Gr.refl w).alloc _
  have B9 : Hid (Box2 (w.alloc (.cells #[.int .i64 0, .int .i64 0] 37)) w.heap.size 0 0) := Lib.hid (Box2.new rfl)
  go_enter Tryz.func19, Tryz.ntmps19
  go_wp2_with fail
  refine (V1.out _ (HR.out.gr g0)).mono ?_
  rintro e w1 ⟨rfl, g2⟩
  replace g0 := g0.trans g2
  replace B9 := Lib.hid (B9.out.gr g2)
  clear g2
  go_wp2_with fail
  refine (V2.out _ (HR'.out.gr g0)).mono ?_
  rintro e w1 ⟨rfl, g2⟩
  replace g0 := g0.trans g2
  replace B9 := Lib.hid (B9.out.gr g2)
  clear g2
  obtain ⟨s0, s1, f0, f1⟩ := id B9.out
  have hz := World.block_lt_of_cell? _ _ s0
  obtain ⟨y0, y1, -, -⟩ := B9.out.put (x' := 0) (y' := 0)
  go_wp2_with (go_at_call 42; refine (T1.out _).mono ?_; rintro e w1 ⟨rfl, rfl⟩)
  clear s0 s1
  refine bodyPost_ret (v := .tuple #[.int .i64 0, .agg #[.int .i64 0, .int .i64 0], .int .i64 2]) (by simp [results, Tryz.results19, go_sem, y0, y1]) rfl ⟨rfl, ?_⟩
  exact (g0.setAt (by omega) _).setAt (by omega) _

set_option maxRecDepth 100000 in
set_option maxHeartbeats 1000000 in
theorem Apart_no4 (a a' : Option Addr) (n c n' c' : Nat) (L T L' T' : Nat → Int) (F G : Int) (w : World) (hn : n ≤ 9223372036854775807) (hn' : n' ≤ 9223372036854775807) (hr : RdM w a n L T) (hr' : RdM w a' n' L' T') (hv : vK n L T = true) (hv' : vK n' L' T' = true) (hF : btw 0 F 100000 = true) (hG : btw 0 G 100000 = false) :
    Calls Tryz.prog 19 #[.slice a n c, .slice a' n' c', .int .i64 F, .int .i64 G] w (RetIRE 0 0 0 2 w) := by
  have V1 := Lib.hid (fun w1 h => show Calls Tryz.prog 27 #[.slice a n c] w1 (RetB true w1) by have := ValidClock_any a n c L T w1 hn h; rwa [hv] at this)
  have V2 := Lib.hid (fun w1 h => show Calls Tryz.prog 27 #[.slice a' n' c'] w1 (RetB true w1) by have := ValidClock_any a' n' c' L' T' w1 hn' h; rwa [hv'] at this)
  have T1 := Lib.hid (fun w1 => isLocal_v (n := F) hF w1)
  have T2 := Lib.hid (fun w1 => isLocal_v (n := G) hG w1)
  clear hv hv' hF hG
  have HR := Lib.hid hr
  have HR' := Lib.hid hr'
  clear hr hr'
  have g0 : Gr w (w.alloc (.cells #[.int .i64 0, .int .i64 0] 37)) := (Gr.refl w).alloc _
  have B9 : Hid (Box2 (w.alloc (.cells #[.int .i64 0, .int .i64 0] 37)) w.heap.size 0 0) := Lib.hid (Box2.new rfl)
  go_enter Tryz.func19, Tryz.ntmps19
  go_wp2_with fail
  refine (V1.out _ (HR.out.gr g0)).mono ?_
  rintro e w1 ⟨rfl, g2⟩
  replace g0 := g0.trans g2
  replace B9 := Lib.hid (B9.out.gr g2)
  clear g2
  go_wp2_with fail
  refine (V2.out _ (HR'.out.gr g0)).mono ?_
  rintro e w1 ⟨rfl, g2⟩
  replace g0 := g0.trans g2
  replace B9 := Lib.hid (B9.out.gr g2)
  clear g2
  obtain ⟨s0, s1, f0, f1⟩ := id B9.out
  have hz := World.block_lt_of_cell? _ _ s0
  obtain ⟨y0, y1, -, -⟩ := B9.out.put (x' := 0) (y' := 0)
  go_wp2_with (first | (go_at_call 42; refine (T1.out _).mono ?_; rintro e w1 ⟨rfl, rfl⟩) | (go_at_call 42; refine (T2.out _).mono ?_; rintro e w1 ⟨rfl, rfl⟩))
  clear s0 s1
  refine bodyPost_ret (v := .tuple #[.int .i64 0, .agg #[.int .i64 0, .int .i64 0], .int .i64 2]) (by simp [results, Tryz.results19, go_sem, y0, y1]) rfl ⟨rfl, ?_⟩
  exact (g0.setAt (by omega) _).setAt (by omega) _

set_option maxRecDepth 100000 in
set_option maxHeartbeats 1000000 in
theorem Apart_no5 (a a' : Option Addr) (n c n' c' : Nat) (L T L' T' : Nat → Int) (F G : Int) (w : World) (hn : n ≤ 9223372036854775807) (hn' : n' ≤ 9223372036854775807) (hr : RdM w a n L T) (hr' : RdM w a' n' L' T') (hv : vK n L T = true) (hv' : vK n' L' T' = true) (hF : btw 0 F 100000 = true) (hG : btw 0 G 100000 = true) (hFG : ¬ F ≤ G) :
    Calls Tryz.prog 19 #[.slice a n c, .slice a' n' c', .int .i64 F, .int .i64 G] w (RetIRE 0 0 0 2 w) := by
  have V1 := Lib.hid (fun w1 h => show Calls Tryz.prog 27 #[.slice a n c] w1 (RetB true w1) by have := ValidClock_any a n c L T w1 hn h; rwa [hv] at this)
  have V2 := Lib.hid (fun w1 h => show Calls Tryz.prog 27 #[.slice a' n' c'] w1 (RetB true w1) by have := ValidClock_any a' n' c' L' T' w1 hn' h; rwa [hv'] at this)
  have T1 := Lib.hid (fun w1 => isLocal_v (n := F) hF w1)
  have T2 := Lib.hid (fun w1 => isLocal_v (n := G) hG w1)
  have d1 : decide (G < F) = true := by simp; omega
  clear hv hv' hF hG hFG
  have HR := Lib.hid hr
  have HR' := Lib.hid hr'
  clear hr hr'
  have g0 : Gr w (w.alloc (.cells #[.int .i64 0, .int .i64 0] 37)) := (Gr.refl w).alloc _
  have B9 : Hid (Box2 (w.alloc (.cells #[.int .i64 0, .int .i64 0] 37)) w.heap.size 0 0) := Lib.hid (Box2.new rfl)
  go_enter Tryz.func19, Tryz.ntmps19
  go_wp2_with fail
  refine (V1.out _ (HR.out.gr g0)).mono ?_
  rintro e w1 ⟨rfl, g2⟩
  replace g0 := g0.trans g2
  replace B9 := Lib.hid (B9.out.gr g2)
  clear g2
  go_wp2_with fail
  refine (V2.out _ (HR'.out.gr g0)).mono ?_
  rintro e w1 ⟨rfl, g2⟩
  replace g0 := g0.trans g2
  replace B9 := Lib.hid (B9.out.gr g2)
  clear g2
  obtain ⟨s0, s1, f0, f1⟩ := id B9.out
  have hz := World.block_lt_of_cell? _ _ s0
  obtain ⟨y0, y1, -, -⟩ := B9.out.put (x' := 0) (y' := 0)
  go_wp2_with (first | (go_at_call 42; refine (T1.out _).mono ?_; rintro e w1 ⟨rfl, rfl⟩) | (go_at_call 42; refine (T2.out _).mono ?_; rintro e w1 ⟨rfl, rfl⟩))
  clear s0 s1
  refine bodyPost_ret (v := .tuple #[.int .i64 0, .agg #[.int .i64 0, .int .i64 0], .int .i64 2]) (by simp [results, Tryz.results19, go_sem, y0, y1]) rfl ⟨rfl, ?_⟩
  exact (g0.setAt (by omega) _).setAt (by omega) _

end Go.Proofs.YtdlbgelidcfmiaaGreatDoor

/- The functions of the seat's program as plain ones over the layer 'Sh', written by a program of this session's own; no condition. -/
import Derived.Test.YtkghbcadnbojgaaGreatDoorUFB
namespace Go.Sh.YtkghbcadnbojgaaGreatDoor
open Go Go.Proofs
set_option linter.unusedVariables false
set_option maxRecDepth 100000


def anns (f : FuncId) : Ann := match f with
  | 3 => f3.ann
  | 5 => f5.ann
  | 6 => f6.ann
  | 7 => f7.ann
  | 8 => f8.ann
  | 9 => f9.ann
  | 11 => f11.ann
  | 12 => f12.ann
  | 15 => f15.ann
  | 16 => f16.ann
  | 17 => f17.ann
  | 18 => f18.ann
  | 19 => f19.ann
  | 20 => f20.ann
  | 21 => f21.ann
  | 22 => f22.ann
  | 23 => f23.ann
  | 24 => f24.ann
  | 25 => f25.ann
  | 26 => f26.ann
  | 27 => f27.ann
  | 28 => f28.ann
  | 29 => f29.ann
  | 30 => f30.ann
  | 31 => f31.ann
  | 33 => f33.ann
  | 34 => f34.ann
  | 35 => f35.ann
  | 36 => f36.ann
  | 37 => f37.ann
  | 38 => f38.ann
  | 39 => f39.ann
  | 40 => f40.ann
  | 41 => f41.ann
  | 42 => f42.ann
  | 43 => f43.ann
  | 44 => f44.ann
  | 45 => f45.ann
  | 46 => f46.ann
  | 47 => f47.ann
  | 48 => f48.ann
  | 49 => f49.ann
  | 50 => f50.ann
  | 51 => f51.ann
  | 53 => f53.ann
  | 54 => f54.ann
  | 55 => f55.ann
  | 56 => f56.ann
  | 57 => f57.ann
  | 58 => f58.ann
  | 59 => f59.ann
  | 60 => f60.ann
  | 61 => f61.ann
  | 62 => f62.ann
  | 63 => f63.ann
  | 64 => f64.ann
  | 65 => f65.ann
  | 66 => f66.ann
  | 67 => f67.ann
  | 68 => f68.ann
  | 69 => f69.ann
  | 70 => f70.ann
  | 71 => f71.ann
  | 72 => f72.ann
  | 73 => f73.ann
  | 74 => f74.ann
  | 75 => f75.ann
  | 79 => f79.ann
  | 80 => f80.ann
  | 81 => f81.ann
  | 82 => f82.ann
  | 83 => f83.ann
  | 84 => f84.ann
  | 85 => f85.ann
  | 86 => f86.ann
  | 87 => f87.ann
  | 88 => f88.ann
  | 89 => f89.ann
  | 90 => f90.ann
  | 91 => f91.ann
  | 92 => f92.ann
  | 95 => f95.ann
  | 96 => f96.ann
  | 97 => f97.ann
  | 98 => f98.ann
  | 99 => f99.ann
  | 100 => f100.ann
  | 101 => f101.ann
  | 102 => f102.ann
  | 103 => f103.ann
  | 106 => f106.ann
  | 107 => f107.ann
  | 108 => f108.ann
  | 109 => f109.ann
  | 110 => f110.ann
  | 111 => f111.ann
  | 112 => f112.ann
  | 113 => f113.ann
  | 114 => f114.ann
  | 115 => f115.ann
  | 118 => f118.ann
  | 119 => f119.ann
  | 120 => f120.ann
  | 121 => f121.ann
  | 122 => f122.ann
  | 123 => f123.ann
  | 124 => f124.ann
  | 125 => f125.ann
  | 126 => f126.ann
  | 127 => f127.ann
  | 128 => f128.ann
  | 129 => f129.ann
  | 132 => f132.ann
  | 133 => f133.ann
  | 134 => f134.ann
  | 135 => f135.ann
  | 136 => f136.ann
  | 164 => f164.ann
  | 165 => f165.ann
  | 166 => f166.ann
  | 167 => f167.ann
  | _ => .z
noncomputable abbrev R (prim : Prim) : CallF := Go.Sh.run Tryz.prog anns prim
theorem f3.run {prim : Prim} {w : World} {r : Value × World} (hn : prim.call 3 #[] w = none) (h : f3 (R prim)  w = some r) : R prim 3 #[] w = some r := run_body Tryz.func3 (by kernel_rfl) hn (by rw [show anns 3 = f3.ann from rfl, f3.eq]; exact h)
theorem f5.run {prim : Prim} {l0 fill1 : Value} {w : World} {r : Value × World} (hn : prim.call 5 #[l0, fill1] w = none) (h : f5 (R prim) l0 fill1 w = some r) : R prim 5 #[l0, fill1] w = some r := run_body Tryz.func5 (by kernel_rfl) hn (by rw [show anns 5 = f5.ann from rfl, f5.eq]; exact h)
theorem f6.run {prim : Prim} {t0 o1 : Value} {w : World} {r : Value × World} (hn : prim.call 6 #[t0, o1] w = none) (h : f6 (R prim) t0 o1 w = some r) : R prim 6 #[t0, o1] w = some r := run_body Tryz.func6 (by kernel_rfl) hn (by rw [show anns 6 = f6.ann from rfl, f6.eq]; exact h)
theorem f7.run {prim : Prim} {l0 s1 : Value} {w : World} {r : Value × World} (hn : prim.call 7 #[l0, s1] w = none) (h : f7 (R prim) l0 s1 w = some r) : R prim 7 #[l0, s1] w = some r := run_body Tryz.func7 (by kernel_rfl) hn (by rw [show anns 7 = f7.ann from rfl, f7.eq]; exact h)
theorem f8.run {prim : Prim} {w : World} {r : Value × World} (hn : prim.call 8 #[] w = none) (h : f8 (R prim)  w = some r) : R prim 8 #[] w = some r := run_body Tryz.func8 (by kernel_rfl) hn (by rw [show anns 8 = f8.ann from rfl, f8.eq]; exact h)
theorem f9.run {prim : Prim} {s0 : Value} {w : World} {r : Value × World} (hn : prim.call 9 #[s0] w = none) (h : f9 (R prim) s0 w = some r) : R prim 9 #[s0] w = some r := run_body Tryz.func9 (by kernel_rfl) hn (by rw [show anns 9 = f9.ann from rfl, f9.eq]; exact h)
theorem f11.run {prim : Prim} {a0 b1 : Value} {w : World} {r : Value × World} (hn : prim.call 11 #[a0, b1] w = none) (h : f11 (R prim) a0 b1 w = some r) : R prim 11 #[a0, b1] w = some r := run_body Tryz.func11 (by kernel_rfl) hn (by rw [show anns 11 = f11.ann from rfl, f11.eq]; exact h)
theorem f12.run {prim : Prim} {err0 at1 e2 : Value} {w : World} {r : Value × World} (hn : prim.call 12 #[err0, at1, e2] w = none) (h : f12 (R prim) err0 at1 e2 w = some r) : R prim 12 #[err0, at1, e2] w = some r := run_body Tryz.func12 (by kernel_rfl) hn (by rw [show anns 12 = f12.ann from rfl, f12.eq]; exact h)
theorem f15.run {prim : Prim} {l0 : Value} {w : World} {r : Value × World} (hn : prim.call 15 #[l0] w = none) (h : f15 (R prim) l0 w = some r) : R prim 15 #[l0] w = some r := run_body Tryz.func15 (by kernel_rfl) hn (by rw [show anns 15 = f15.ann from rfl, f15.eq]; exact h)
theorem f16.run {prim : Prim} {lines0 l1 : Value} {w : World} {r : Value × World} (hn : prim.call 16 #[lines0, l1] w = none) (h : f16 (R prim) lines0 l1 w = some r) : R prim 16 #[lines0, l1] w = some r := run_body Tryz.func16 (by kernel_rfl) hn (by rw [show anns 16 = f16.ann from rfl, f16.eq]; exact h)
theorem f17.run {prim : Prim} {l0 : Value} {w : World} {r : Value × World} (hn : prim.call 17 #[l0] w = none) (h : f17 (R prim) l0 w = some r) : R prim 17 #[l0] w = some r := run_body Tryz.func17 (by kernel_rfl) hn (by rw [show anns 17 = f17.ann from rfl, f17.eq]; exact h)
theorem f18.run {prim : Prim} {l0 : Value} {w : World} {r : Value × World} (hn : prim.call 18 #[l0] w = none) (h : f18 (R prim) l0 w = some r) : R prim 18 #[l0] w = some r := run_body Tryz.func18 (by kernel_rfl) hn (by rw [show anns 18 = f18.ann from rfl, f18.eq]; exact h)
theorem f19.run {prim : Prim} {c0 n1 : Value} {w : World} {r : Value × World} (hn : prim.call 19 #[c0, n1] w = none) (h : f19 (R prim) c0 n1 w = some r) : R prim 19 #[c0, n1] w = some r := run_body Tryz.func19 (by kernel_rfl) hn (by rw [show anns 19 = f19.ann from rfl, f19.eq]; exact h)
theorem f20.run {prim : Prim} {err0 event1 e2 : Value} {w : World} {r : Value × World} (hn : prim.call 20 #[err0, event1, e2] w = none) (h : f20 (R prim) err0 event1 e2 w = some r) : R prim 20 #[err0, event1, e2] w = some r := run_body Tryz.func20 (by kernel_rfl) hn (by rw [show anns 20 = f20.ann from rfl, f20.eq]; exact h)
theorem f21.run {prim : Prim} {l0 : Value} {w : World} {r : Value × World} (hn : prim.call 21 #[l0] w = none) (h : f21 (R prim) l0 w = some r) : R prim 21 #[l0] w = some r := run_body Tryz.func21 (by kernel_rfl) hn (by rw [show anns 21 = f21.ann from rfl, f21.eq]; exact h)
theorem f22.run {prim : Prim} {err0 target1 : Value} {w : World} {r : Value × World} (hn : prim.call 22 #[err0, target1] w = none) (h : f22 (R prim) err0 target1 w = some r) : R prim 22 #[err0, target1] w = some r := run_body Tryz.func22 (by kernel_rfl) hn (by rw [show anns 22 = f22.ann from rfl, f22.eq]; exact h)
theorem f23.run {prim : Prim} {at0 e1 : Value} {w : World} {r : Value × World} (hn : prim.call 23 #[at0, e1] w = none) (h : f23 (R prim) at0 e1 w = some r) : R prim 23 #[at0, e1] w = some r := run_body Tryz.func23 (by kernel_rfl) hn (by rw [show anns 23 = f23.ann from rfl, f23.eq]; exact h)
theorem f24.run {prim : Prim} {s0 : Value} {w : World} {r : Value × World} (hn : prim.call 24 #[s0] w = none) (h : f24 (R prim) s0 w = some r) : R prim 24 #[s0] w = some r := run_body Tryz.func24 (by kernel_rfl) hn (by rw [show anns 24 = f24.ann from rfl, f24.eq]; exact h)
theorem f25.run {prim : Prim} {s0 c1 : Value} {w : World} {r : Value × World} (hn : prim.call 25 #[s0, c1] w = none) (h : f25 (R prim) s0 c1 w = some r) : R prim 25 #[s0, c1] w = some r := run_body Tryz.func25 (by kernel_rfl) hn (by rw [show anns 25 = f25.ann from rfl, f25.eq]; exact h)
theorem f26.run {prim : Prim} {s0 at1 to2 : Value} {w : World} {r : Value × World} (hn : prim.call 26 #[s0, at1, to2] w = none) (h : f26 (R prim) s0 at1 to2 w = some r) : R prim 26 #[s0, at1, to2] w = some r := run_body Tryz.func26 (by kernel_rfl) hn (by rw [show anns 26 = f26.ann from rfl, f26.eq]; exact h)
theorem f27.run {prim : Prim} {r0 : Value} {w : World} {r : Value × World} (hn : prim.call 27 #[r0] w = none) (h : f27 (R prim) r0 w = some r) : R prim 27 #[r0] w = some r := run_body Tryz.func27 (by kernel_rfl) hn (by rw [show anns 27 = f27.ann from rfl, f27.eq]; exact h)
theorem f28.run {prim : Prim} {t0 o1 : Value} {w : World} {r : Value × World} (hn : prim.call 28 #[t0, o1] w = none) (h : f28 (R prim) t0 o1 w = some r) : R prim 28 #[t0, o1] w = some r := run_body Tryz.func28 (by kernel_rfl) hn (by rw [show anns 28 = f28.ann from rfl, f28.eq]; exact h)
theorem f29.run {prim : Prim} {s0 : Value} {w : World} {r : Value × World} (hn : prim.call 29 #[s0] w = none) (h : f29 (R prim) s0 w = some r) : R prim 29 #[s0] w = some r := run_body Tryz.func29 (by kernel_rfl) hn (by rw [show anns 29 = f29.ann from rfl, f29.eq]; exact h)
theorem f30.run {prim : Prim} {s0 at1 : Value} {w : World} {r : Value × World} (hn : prim.call 30 #[s0, at1] w = none) (h : f30 (R prim) s0 at1 w = some r) : R prim 30 #[s0, at1] w = some r := run_body Tryz.func30 (by kernel_rfl) hn (by rw [show anns 30 = f30.ann from rfl, f30.eq]; exact h)
theorem f31.run {prim : Prim} {l0 end1 : Value} {w : World} {r : Value × World} (hn : prim.call 31 #[l0, end1] w = none) (h : f31 (R prim) l0 end1 w = some r) : R prim 31 #[l0, end1] w = some r := run_body Tryz.func31 (by kernel_rfl) hn (by rw [show anns 31 = f31.ann from rfl, f31.eq]; exact h)
theorem f33.run {prim : Prim} {a0 b1 : Value} {w : World} {r : Value × World} (hn : prim.call 33 #[a0, b1] w = none) (h : f33 (R prim) a0 b1 w = some r) : R prim 33 #[a0, b1] w = some r := run_body Tryz.func33 (by kernel_rfl) hn (by rw [show anns 33 = f33.ann from rfl, f33.eq]; exact h)
theorem f34.run {prim : Prim} {err0 target1 : Value} {w : World} {r : Value × World} (hn : prim.call 34 #[err0, target1] w = none) (h : f34 (R prim) err0 target1 w = some r) : R prim 34 #[err0, target1] w = some r := run_body Tryz.func34 (by kernel_rfl) hn (by rw [show anns 34 = f34.ann from rfl, f34.eq]; exact h)
theorem f35.run {prim : Prim} {i0 : Value} {w : World} {r : Value × World} (hn : prim.call 35 #[i0] w = none) (h : f35 (R prim) i0 w = some r) : R prim 35 #[i0] w = some r := run_body Tryz.func35 (by kernel_rfl) hn (by rw [show anns 35 = f35.ann from rfl, f35.eq]; exact h)
theorem f36.run {prim : Prim} {l0 m1 : Value} {w : World} {r : Value × World} (hn : prim.call 36 #[l0, m1] w = none) (h : f36 (R prim) l0 m1 w = some r) : R prim 36 #[l0, m1] w = some r := run_body Tryz.func36 (by kernel_rfl) hn (by rw [show anns 36 = f36.ann from rfl, f36.eq]; exact h)
theorem f37.run {prim : Prim} {r0 : Value} {w : World} {r : Value × World} (hn : prim.call 37 #[r0] w = none) (h : f37 (R prim) r0 w = some r) : R prim 37 #[r0] w = some r := run_body Tryz.func37 (by kernel_rfl) hn (by rw [show anns 37 = f37.ann from rfl, f37.eq]; exact h)
theorem f38.run {prim : Prim} {event0 e1 : Value} {w : World} {r : Value × World} (hn : prim.call 38 #[event0, e1] w = none) (h : f38 (R prim) event0 e1 w = some r) : R prim 38 #[event0, e1] w = some r := run_body Tryz.func38 (by kernel_rfl) hn (by rw [show anns 38 = f38.ann from rfl, f38.eq]; exact h)
theorem f39.run {prim : Prim} {t0 : Value} {w : World} {r : Value × World} (hn : prim.call 39 #[t0] w = none) (h : f39 (R prim) t0 w = some r) : R prim 39 #[t0] w = some r := run_body Tryz.func39 (by kernel_rfl) hn (by rw [show anns 39 = f39.ann from rfl, f39.eq]; exact h)
theorem f40.run {prim : Prim} {ahead0 e1 day2 : Value} {w : World} {r : Value × World} (hn : prim.call 40 #[ahead0, e1, day2] w = none) (h : f40 (R prim) ahead0 e1 day2 w = some r) : R prim 40 #[ahead0, e1, day2] w = some r := run_body Tryz.func40 (by kernel_rfl) hn (by rw [show anns 40 = f40.ann from rfl, f40.eq]; exact h)
theorem f41.run {prim : Prim} {l0 i1 : Value} {w : World} {r : Value × World} (hn : prim.call 41 #[l0, i1] w = none) (h : f41 (R prim) l0 i1 w = some r) : R prim 41 #[l0, i1] w = some r := run_body Tryz.func41 (by kernel_rfl) hn (by rw [show anns 41 = f41.ann from rfl, f41.eq]; exact h)
theorem f42.run {prim : Prim} {r0 : Value} {w : World} {r : Value × World} (hn : prim.call 42 #[r0] w = none) (h : f42 (R prim) r0 w = some r) : R prim 42 #[r0] w = some r := run_body Tryz.func42 (by kernel_rfl) hn (by rw [show anns 42 = f42.ann from rfl, f42.eq]; exact h)
theorem f43.run {prim : Prim} {s0 : Value} {w : World} {r : Value × World} (hn : prim.call 43 #[s0] w = none) (h : f43 (R prim) s0 w = some r) : R prim 43 #[s0] w = some r := run_body Tryz.func43 (by kernel_rfl) hn (by rw [show anns 43 = f43.ann from rfl, f43.eq]; exact h)
theorem f44.run {prim : Prim} {n0 : Value} {w : World} {r : Value × World} (hn : prim.call 44 #[n0] w = none) (h : f44 (R prim) n0 w = some r) : R prim 44 #[n0] w = some r := run_body Tryz.func44 (by kernel_rfl) hn (by rw [show anns 44 = f44.ann from rfl, f44.eq]; exact h)
theorem f45.run {prim : Prim} {r0 n1 : Value} {w : World} {r : Value × World} (hn : prim.call 45 #[r0, n1] w = none) (h : f45 (R prim) r0 n1 w = some r) : R prim 45 #[r0, n1] w = some r := run_body Tryz.func45 (by kernel_rfl) hn (by rw [show anns 45 = f45.ann from rfl, f45.eq]; exact h)
theorem f46.run {prim : Prim} {e0 : Value} {w : World} {r : Value × World} (hn : prim.call 46 #[e0] w = none) (h : f46 (R prim) e0 w = some r) : R prim 46 #[e0] w = some r := run_body Tryz.func46 (by kernel_rfl) hn (by rw [show anns 46 = f46.ann from rfl, f46.eq]; exact h)
theorem f47.run {prim : Prim} {e0 : Value} {w : World} {r : Value × World} (hn : prim.call 47 #[e0] w = none) (h : f47 (R prim) e0 w = some r) : R prim 47 #[e0] w = some r := run_body Tryz.func47 (by kernel_rfl) hn (by rw [show anns 47 = f47.ann from rfl, f47.eq]; exact h)
theorem f48.run {prim : Prim} {n0 : Value} {w : World} {r : Value × World} (hn : prim.call 48 #[n0] w = none) (h : f48 (R prim) n0 w = some r) : R prim 48 #[n0] w = some r := run_body Tryz.func48 (by kernel_rfl) hn (by rw [show anns 48 = f48.ann from rfl, f48.eq]; exact h)
theorem f49.run {prim : Prim} {r0 : Value} {w : World} {r : Value × World} (hn : prim.call 49 #[r0] w = none) (h : f49 (R prim) r0 w = some r) : R prim 49 #[r0] w = some r := run_body Tryz.func49 (by kernel_rfl) hn (by rw [show anns 49 = f49.ann from rfl, f49.eq]; exact h)
theorem f50.run {prim : Prim} {s0 : Value} {w : World} {r : Value × World} (hn : prim.call 50 #[s0] w = none) (h : f50 (R prim) s0 w = some r) : R prim 50 #[s0] w = some r := run_body Tryz.func50 (by kernel_rfl) hn (by rw [show anns 50 = f50.ann from rfl, f50.eq]; exact h)
theorem f51.run {prim : Prim} {e0 r1 : Value} {w : World} {r : Value × World} (hn : prim.call 51 #[e0, r1] w = none) (h : f51 (R prim) e0 r1 w = some r) : R prim 51 #[e0, r1] w = some r := run_body Tryz.func51 (by kernel_rfl) hn (by rw [show anns 51 = f51.ann from rfl, f51.eq]; exact h)
theorem f53.run {prim : Prim} {err0 target1 targetComparable2 : Value} {w : World} {r : Value × World} (hn : prim.call 53 #[err0, target1, targetComparable2] w = none) (h : f53 (R prim) err0 target1 targetComparable2 w = some r) : R prim 53 #[err0, target1, targetComparable2] w = some r := run_body Tryz.func53 (by kernel_rfl) hn (by rw [show anns 53 = f53.ann from rfl, f53.eq]; exact h)
theorem f54.run {prim : Prim} {s0 : Value} {w : World} {r : Value × World} (hn : prim.call 54 #[s0] w = none) (h : f54 (R prim) s0 w = some r) : R prim 54 #[s0] w = some r := run_body Tryz.func54 (by kernel_rfl) hn (by rw [show anns 54 = f54.ann from rfl, f54.eq]; exact h)
theorem f55.run {prim : Prim} {s0 c1 : Value} {w : World} {r : Value × World} (hn : prim.call 55 #[s0, c1] w = none) (h : f55 (R prim) s0 c1 w = some r) : R prim 55 #[s0, c1] w = some r := run_body Tryz.func55 (by kernel_rfl) hn (by rw [show anns 55 = f55.ann from rfl, f55.eq]; exact h)
theorem f56.run {prim : Prim} {s0 : Value} {w : World} {r : Value × World} (hn : prim.call 56 #[s0] w = none) (h : f56 (R prim) s0 w = some r) : R prim 56 #[s0] w = some r := run_body Tryz.func56 (by kernel_rfl) hn (by rw [show anns 56 = f56.ann from rfl, f56.eq]; exact h)
theorem f57.run {prim : Prim} {s0 chars1 : Value} {w : World} {r : Value × World} (hn : prim.call 57 #[s0, chars1] w = none) (h : f57 (R prim) s0 chars1 w = some r) : R prim 57 #[s0, chars1] w = some r := run_body Tryz.func57 (by kernel_rfl) hn (by rw [show anns 57 = f57.ann from rfl, f57.eq]; exact h)
theorem f58.run {prim : Prim} {r0 holds1 : Value} {w : World} {r : Value × World} (hn : prim.call 58 #[r0, holds1] w = none) (h : f58 (R prim) r0 holds1 w = some r) : R prim 58 #[r0, holds1] w = some r := run_body Tryz.func58 (by kernel_rfl) hn (by rw [show anns 58 = f58.ann from rfl, f58.eq]; exact h)
theorem f59.run {prim : Prim} {s0 : Value} {w : World} {r : Value × World} (hn : prim.call 59 #[s0] w = none) (h : f59 (R prim) s0 w = some r) : R prim 59 #[s0] w = some r := run_body Tryz.func59 (by kernel_rfl) hn (by rw [show anns 59 = f59.ann from rfl, f59.eq]; exact h)
theorem f60.run {prim : Prim} {s0 : Value} {w : World} {r : Value × World} (hn : prim.call 60 #[s0] w = none) (h : f60 (R prim) s0 w = some r) : R prim 60 #[s0] w = some r := run_body Tryz.func60 (by kernel_rfl) hn (by rw [show anns 60 = f60.ann from rfl, f60.eq]; exact h)
theorem f61.run {prim : Prim} {s0 : Value} {w : World} {r : Value × World} (hn : prim.call 61 #[s0] w = none) (h : f61 (R prim) s0 w = some r) : R prim 61 #[s0] w = some r := run_body Tryz.func61 (by kernel_rfl) hn (by rw [show anns 61 = f61.ann from rfl, f61.eq]; exact h)
theorem f62.run {prim : Prim} {r0 text1 : Value} {w : World} {r : Value × World} (hn : prim.call 62 #[r0, text1] w = none) (h : f62 (R prim) r0 text1 w = some r) : R prim 62 #[r0, text1] w = some r := run_body Tryz.func62 (by kernel_rfl) hn (by rw [show anns 62 = f62.ann from rfl, f62.eq]; exact h)
theorem f63.run {prim : Prim} {r0 : Value} {w : World} {r : Value × World} (hn : prim.call 63 #[r0] w = none) (h : f63 (R prim) r0 w = some r) : R prim 63 #[r0] w = some r := run_body Tryz.func63 (by kernel_rfl) hn (by rw [show anns 63 = f63.ann from rfl, f63.eq]; exact h)
theorem f64.run {prim : Prim} {s0 : Value} {w : World} {r : Value × World} (hn : prim.call 64 #[s0] w = none) (h : f64 (R prim) s0 w = some r) : R prim 64 #[s0] w = some r := run_body Tryz.func64 (by kernel_rfl) hn (by rw [show anns 64 = f64.ann from rfl, f64.eq]; exact h)
theorem f65.run {prim : Prim} {s0 : Value} {w : World} {r : Value × World} (hn : prim.call 65 #[s0] w = none) (h : f65 (R prim) s0 w = some r) : R prim 65 #[s0] w = some r := run_body Tryz.func65 (by kernel_rfl) hn (by rw [show anns 65 = f65.ann from rfl, f65.eq]; exact h)
theorem f66.run {prim : Prim} {s0 : Value} {w : World} {r : Value × World} (hn : prim.call 66 #[s0] w = none) (h : f66 (R prim) s0 w = some r) : R prim 66 #[s0] w = some r := run_body Tryz.func66 (by kernel_rfl) hn (by rw [show anns 66 = f66.ann from rfl, f66.eq]; exact h)
theorem f67.run {prim : Prim} {s0 : Value} {w : World} {r : Value × World} (hn : prim.call 67 #[s0] w = none) (h : f67 (R prim) s0 w = some r) : R prim 67 #[s0] w = some r := run_body Tryz.func67 (by kernel_rfl) hn (by rw [show anns 67 = f67.ann from rfl, f67.eq]; exact h)
theorem f68.run {prim : Prim} {r0 rate1 : Value} {w : World} {r : Value × World} (hn : prim.call 68 #[r0, rate1] w = none) (h : f68 (R prim) r0 rate1 w = some r) : R prim 68 #[r0, rate1] w = some r := run_body Tryz.func68 (by kernel_rfl) hn (by rw [show anns 68 = f68.ann from rfl, f68.eq]; exact h)
theorem f69.run {prim : Prim} {s0 at1 : Value} {w : World} {r : Value × World} (hn : prim.call 69 #[s0, at1] w = none) (h : f69 (R prim) s0 at1 w = some r) : R prim 69 #[s0, at1] w = some r := run_body Tryz.func69 (by kernel_rfl) hn (by rw [show anns 69 = f69.ann from rfl, f69.eq]; exact h)
theorem f70.run {prim : Prim} {s0 at1 : Value} {w : World} {r : Value × World} (hn : prim.call 70 #[s0, at1] w = none) (h : f70 (R prim) s0 at1 w = some r) : R prim 70 #[s0, at1] w = some r := run_body Tryz.func70 (by kernel_rfl) hn (by rw [show anns 70 = f70.ann from rfl, f70.eq]; exact h)
theorem f71.run {prim : Prim} {l0 end1 k2 : Value} {w : World} {r : Value × World} (hn : prim.call 71 #[l0, end1, k2] w = none) (h : f71 (R prim) l0 end1 k2 w = some r) : R prim 71 #[l0, end1, k2] w = some r := run_body Tryz.func71 (by kernel_rfl) hn (by rw [show anns 71 = f71.ann from rfl, f71.eq]; exact h)
theorem f72.run {prim : Prim} {l0 end1 k2 : Value} {w : World} {r : Value × World} (hn : prim.call 72 #[l0, end1, k2] w = none) (h : f72 (R prim) l0 end1 k2 w = some r) : R prim 72 #[l0, end1, k2] w = some r := run_body Tryz.func72 (by kernel_rfl) hn (by rw [show anns 72 = f72.ann from rfl, f72.eq]; exact h)
theorem f73.run {prim : Prim} {l0 end1 : Value} {w : World} {r : Value × World} (hn : prim.call 73 #[l0, end1] w = none) (h : f73 (R prim) l0 end1 w = some r) : R prim 73 #[l0, end1] w = some r := run_body Tryz.func73 (by kernel_rfl) hn (by rw [show anns 73 = f73.ann from rfl, f73.eq]; exact h)
theorem f74.run {prim : Prim} {r0 s1 : Value} {w : World} {r : Value × World} (hn : prim.call 74 #[r0, s1] w = none) (h : f74 (R prim) r0 s1 w = some r) : R prim 74 #[r0, s1] w = some r := run_body Tryz.func74 (by kernel_rfl) hn (by rw [show anns 74 = f74.ann from rfl, f74.eq]; exact h)
theorem f75.run {prim : Prim} {l0 : Value} {w : World} {r : Value × World} (hn : prim.call 75 #[l0] w = none) (h : f75 (R prim) l0 w = some r) : R prim 75 #[l0] w = some r := run_body Tryz.func75 (by kernel_rfl) hn (by rw [show anns 75 = f75.ann from rfl, f75.eq]; exact h)
theorem f79.run {prim : Prim} {err0 target1 targetVal2 targetType3 : Value} {w : World} {r : Value × World} (hn : prim.call 79 #[err0, target1, targetVal2, targetType3] w = none) (h : f79 (R prim) err0 target1 targetVal2 targetType3 w = some r) : R prim 79 #[err0, target1, targetVal2, targetType3] w = some r := run_body Tryz.func79 (by kernel_rfl) hn (by rw [show anns 79 = f79.ann from rfl, f79.eq]; exact h)
theorem f80.run {prim : Prim} {r0 : Value} {w : World} {r : Value × World} (hn : prim.call 80 #[r0] w = none) (h : f80 (R prim) r0 w = some r) : R prim 80 #[r0] w = some r := run_body Tryz.func80 (by kernel_rfl) hn (by rw [show anns 80 = f80.ann from rfl, f80.eq]; exact h)
theorem f81.run {prim : Prim} {x0 : Value} {w : World} {r : Value × World} (hn : prim.call 81 #[x0] w = none) (h : f81 (R prim) x0 w = some r) : R prim 81 #[x0] w = some r := run_body Tryz.func81 (by kernel_rfl) hn (by rw [show anns 81 = f81.ann from rfl, f81.eq]; exact h)
theorem f82.run {prim : Prim} {s0 : Value} {w : World} {r : Value × World} (hn : prim.call 82 #[s0] w = none) (h : f82 (R prim) s0 w = some r) : R prim 82 #[s0] w = some r := run_body Tryz.func82 (by kernel_rfl) hn (by rw [show anns 82 = f82.ann from rfl, f82.eq]; exact h)
theorem f83.run {prim : Prim} {ahead0 e1 : Value} {w : World} {r : Value × World} (hn : prim.call 83 #[ahead0, e1] w = none) (h : f83 (R prim) ahead0 e1 w = some r) : R prim 83 #[ahead0, e1] w = some r := run_body Tryz.func83 (by kernel_rfl) hn (by rw [show anns 83 = f83.ann from rfl, f83.eq]; exact h)
theorem f84.run {prim : Prim} {r0 n1 : Value} {w : World} {r : Value × World} (hn : prim.call 84 #[r0, n1] w = none) (h : f84 (R prim) r0 n1 w = some r) : R prim 84 #[r0, n1] w = some r := run_body Tryz.func84 (by kernel_rfl) hn (by rw [show anns 84 = f84.ann from rfl, f84.eq]; exact h)
theorem f85.run {prim : Prim} {r0 n1 : Value} {w : World} {r : Value × World} (hn : prim.call 85 #[r0, n1] w = none) (h : f85 (R prim) r0 n1 w = some r) : R prim 85 #[r0, n1] w = some r := run_body Tryz.func85 (by kernel_rfl) hn (by rw [show anns 85 = f85.ann from rfl, f85.eq]; exact h)
theorem f86.run {prim : Prim} {n0 : Value} {w : World} {r : Value × World} (hn : prim.call 86 #[n0] w = none) (h : f86 (R prim) n0 w = some r) : R prim 86 #[n0] w = some r := run_body Tryz.func86 (by kernel_rfl) hn (by rw [show anns 86 = f86.ann from rfl, f86.eq]; exact h)
theorem f87.run {prim : Prim} {r0 : Value} {w : World} {r : Value × World} (hn : prim.call 87 #[r0] w = none) (h : f87 (R prim) r0 w = some r) : R prim 87 #[r0] w = some r := run_body Tryz.func87 (by kernel_rfl) hn (by rw [show anns 87 = f87.ann from rfl, f87.eq]; exact h)
theorem f88.run {prim : Prim} {r0 : Value} {w : World} {r : Value × World} (hn : prim.call 88 #[r0] w = none) (h : f88 (R prim) r0 w = some r) : R prim 88 #[r0] w = some r := run_body Tryz.func88 (by kernel_rfl) hn (by rw [show anns 88 = f88.ann from rfl, f88.eq]; exact h)
theorem f89.run {prim : Prim} {p0 r1 : Value} {w : World} {r : Value × World} (hn : prim.call 89 #[p0, r1] w = none) (h : f89 (R prim) p0 r1 w = some r) : R prim 89 #[p0, r1] w = some r := run_body Tryz.func89 (by kernel_rfl) hn (by rw [show anns 89 = f89.ann from rfl, f89.eq]; exact h)
theorem f90.run {prim : Prim} {r0 n1 : Value} {w : World} {r : Value × World} (hn : prim.call 90 #[r0, n1] w = none) (h : f90 (R prim) r0 n1 w = some r) : R prim 90 #[r0, n1] w = some r := run_body Tryz.func90 (by kernel_rfl) hn (by rw [show anns 90 = f90.ann from rfl, f90.eq]; exact h)
theorem f91.run {prim : Prim} {i0 : Value} {w : World} {r : Value × World} (hn : prim.call 91 #[i0] w = none) (h : f91 (R prim) i0 w = some r) : R prim 91 #[i0] w = some r := run_body Tryz.func91 (by kernel_rfl) hn (by rw [show anns 91 = f91.ann from rfl, f91.eq]; exact h)
theorem f92.run {prim : Prim} {s0 : Value} {w : World} {r : Value × World} (hn : prim.call 92 #[s0] w = none) (h : f92 (R prim) s0 w = some r) : R prim 92 #[s0] w = some r := run_body Tryz.func92 (by kernel_rfl) hn (by rw [show anns 92 = f92.ann from rfl, f92.eq]; exact h)
theorem f95.run {prim : Prim} {bufLen0 : Value} {w : World} {r : Value × World} (hn : prim.call 95 #[bufLen0] w = none) (h : f95 (R prim) bufLen0 w = some r) : R prim 95 #[bufLen0] w = some r := run_body Tryz.func95 (by kernel_rfl) hn (by rw [show anns 95 = f95.ann from rfl, f95.eq]; exact h)
theorem f96.run {prim : Prim} {chars0 : Value} {w : World} {r : Value × World} (hn : prim.call 96 #[chars0] w = none) (h : f96 (R prim) chars0 w = some r) : R prim 96 #[chars0] w = some r := run_body Tryz.func96 (by kernel_rfl) hn (by rw [show anns 96 = f96.ann from rfl, f96.eq]; exact h)
theorem f97.run {prim : Prim} {as0 c1 : Value} {w : World} {r : Value × World} (hn : prim.call 97 #[as0, c1] w = none) (h : f97 (R prim) as0 c1 w = some r) : R prim 97 #[as0, c1] w = some r := run_body Tryz.func97 (by kernel_rfl) hn (by rw [show anns 97 = f97.ann from rfl, f97.eq]; exact h)
theorem f98.run {prim : Prim} {s0 : Value} {w : World} {r : Value × World} (hn : prim.call 98 #[s0] w = none) (h : f98 (R prim) s0 w = some r) : R prim 98 #[s0] w = some r := run_body Tryz.func98 (by kernel_rfl) hn (by rw [show anns 98 = f98.ann from rfl, f98.eq]; exact h)
theorem f99.run {prim : Prim} {fn0 s1 base2 bitSize3 err4 : Value} {w : World} {r : Value × World} (hn : prim.call 99 #[fn0, s1, base2, bitSize3, err4] w = none) (h : f99 (R prim) fn0 s1 base2 bitSize3 err4 w = some r) : R prim 99 #[fn0, s1, base2, bitSize3, err4] w = some r := run_body Tryz.func99 (by kernel_rfl) hn (by rw [show anns 99 = f99.ann from rfl, f99.eq]; exact h)
theorem f100.run {prim : Prim} {r0 s1 : Value} {w : World} {r : Value × World} (hn : prim.call 100 #[r0, s1] w = none) (h : f100 (R prim) r0 s1 w = some r) : R prim 100 #[r0, s1] w = some r := run_body Tryz.func100 (by kernel_rfl) hn (by rw [show anns 100 = f100.ann from rfl, f100.eq]; exact h)
theorem f101.run {prim : Prim} {s0 : Value} {w : World} {r : Value × World} (hn : prim.call 101 #[s0] w = none) (h : f101 (R prim) s0 w = some r) : R prim 101 #[s0] w = some r := run_body Tryz.func101 (by kernel_rfl) hn (by rw [show anns 101 = f101.ann from rfl, f101.eq]; exact h)
theorem f102.run {prim : Prim} {s0 : Value} {w : World} {r : Value × World} (hn : prim.call 102 #[s0] w = none) (h : f102 (R prim) s0 w = some r) : R prim 102 #[s0] w = some r := run_body Tryz.func102 (by kernel_rfl) hn (by rw [show anns 102 = f102.ann from rfl, f102.eq]; exact h)
theorem f103.run {prim : Prim} {r0 s1 : Value} {w : World} {r : Value × World} (hn : prim.call 103 #[r0, s1] w = none) (h : f103 (R prim) r0 s1 w = some r) : R prim 103 #[r0, s1] w = some r := run_body Tryz.func103 (by kernel_rfl) hn (by rw [show anns 103 = f103.ann from rfl, f103.eq]; exact h)
theorem f106.run {prim : Prim} {x0 : Value} {w : World} {r : Value × World} (hn : prim.call 106 #[x0] w = none) (h : f106 (R prim) x0 w = some r) : R prim 106 #[x0] w = some r := run_body Tryz.func106 (by kernel_rfl) hn (by rw [show anns 106 = f106.ann from rfl, f106.eq]; exact h)
theorem f107.run {prim : Prim} {r0 : Value} {w : World} {r : Value × World} (hn : prim.call 107 #[r0] w = none) (h : f107 (R prim) r0 w = some r) : R prim 107 #[r0] w = some r := run_body Tryz.func107 (by kernel_rfl) hn (by rw [show anns 107 = f107.ann from rfl, f107.eq]; exact h)
theorem f108.run {prim : Prim} {r0 minute1 : Value} {w : World} {r : Value × World} (hn : prim.call 108 #[r0, minute1] w = none) (h : f108 (R prim) r0 minute1 w = some r) : R prim 108 #[r0, minute1] w = some r := run_body Tryz.func108 (by kernel_rfl) hn (by rw [show anns 108 = f108.ann from rfl, f108.eq]; exact h)
theorem f109.run {prim : Prim} {p0 r1 : Value} {w : World} {r : Value × World} (hn : prim.call 109 #[p0, r1] w = none) (h : f109 (R prim) p0 r1 w = some r) : R prim 109 #[p0, r1] w = some r := run_body Tryz.func109 (by kernel_rfl) hn (by rw [show anns 109 = f109.ann from rfl, f109.eq]; exact h)
theorem f110.run {prim : Prim} {r0 n1 : Value} {w : World} {r : Value × World} (hn : prim.call 110 #[r0, n1] w = none) (h : f110 (R prim) r0 n1 w = some r) : R prim 110 #[r0, n1] w = some r := run_body Tryz.func110 (by kernel_rfl) hn (by rw [show anns 110 = f110.ann from rfl, f110.eq]; exact h)
theorem f111.run {prim : Prim} {x0 n1 : Value} {w : World} {r : Value × World} (hn : prim.call 111 #[x0, n1] w = none) (h : f111 (R prim) x0 n1 w = some r) : R prim 111 #[x0, n1] w = some r := run_body Tryz.func111 (by kernel_rfl) hn (by rw [show anns 111 = f111.ann from rfl, f111.eq]; exact h)
theorem f112.run {prim : Prim} {b0 n1 : Value} {w : World} {r : Value × World} (hn : prim.call 112 #[b0, n1] w = none) (h : f112 (R prim) b0 n1 w = some r) : R prim 112 #[b0, n1] w = some r := run_body Tryz.func112 (by kernel_rfl) hn (by rw [show anns 112 = f112.ann from rfl, f112.eq]; exact h)
theorem f113.run {prim : Prim} {x0 : Value} {w : World} {r : Value × World} (hn : prim.call 113 #[x0] w = none) (h : f113 (R prim) x0 w = some r) : R prim 113 #[x0] w = some r := run_body Tryz.func113 (by kernel_rfl) hn (by rw [show anns 113 = f113.ann from rfl, f113.eq]; exact h)
theorem f114.run {prim : Prim} {i0 : Value} {w : World} {r : Value × World} (hn : prim.call 114 #[i0] w = none) (h : f114 (R prim) i0 w = some r) : R prim 114 #[i0] w = some r := run_body Tryz.func114 (by kernel_rfl) hn (by rw [show anns 114 = f114.ann from rfl, f114.eq]; exact h)
theorem f115.run {prim : Prim} {r0 : Value} {w : World} {r : Value × World} (hn : prim.call 115 #[r0] w = none) (h : f115 (R prim) r0 w = some r) : R prim 115 #[r0] w = some r := run_body Tryz.func115 (by kernel_rfl) hn (by rw [show anns 115 = f115.ann from rfl, f115.eq]; exact h)
theorem f118.run {prim : Prim} {s0 base1 bitSize2 : Value} {w : World} {r : Value × World} (hn : prim.call 118 #[s0, base1, bitSize2] w = none) (h : f118 (R prim) s0 base1 bitSize2 w = some r) : R prim 118 #[s0, base1, bitSize2] w = some r := run_body Tryz.func118 (by kernel_rfl) hn (by rw [show anns 118 = f118.ann from rfl, f118.eq]; exact h)
theorem f119.run {prim : Prim} {fn0 str1 : Value} {w : World} {r : Value × World} (hn : prim.call 119 #[fn0, str1] w = none) (h : f119 (R prim) fn0 str1 w = some r) : R prim 119 #[fn0, str1] w = some r := run_body Tryz.func119 (by kernel_rfl) hn (by rw [show anns 119 = f119.ann from rfl, f119.eq]; exact h)
theorem f120.run {prim : Prim} {fn0 str1 : Value} {w : World} {r : Value × World} (hn : prim.call 120 #[fn0, str1] w = none) (h : f120 (R prim) fn0 str1 w = some r) : R prim 120 #[fn0, str1] w = some r := run_body Tryz.func120 (by kernel_rfl) hn (by rw [show anns 120 = f120.ann from rfl, f120.eq]; exact h)
theorem f121.run {prim : Prim} {fn0 str1 base2 : Value} {w : World} {r : Value × World} (hn : prim.call 121 #[fn0, str1, base2] w = none) (h : f121 (R prim) fn0 str1 base2 w = some r) : R prim 121 #[fn0, str1, base2] w = some r := run_body Tryz.func121 (by kernel_rfl) hn (by rw [show anns 121 = f121.ann from rfl, f121.eq]; exact h)
theorem f122.run {prim : Prim} {fn0 str1 bitSize2 : Value} {w : World} {r : Value × World} (hn : prim.call 122 #[fn0, str1, bitSize2] w = none) (h : f122 (R prim) fn0 str1 bitSize2 w = some r) : R prim 122 #[fn0, str1, bitSize2] w = some r := run_body Tryz.func122 (by kernel_rfl) hn (by rw [show anns 122 = f122.ann from rfl, f122.eq]; exact h)
theorem f123.run {prim : Prim} {x0 s1 : Value} {w : World} {r : Value × World} (hn : prim.call 123 #[x0, s1] w = none) (h : f123 (R prim) x0 s1 w = some r) : R prim 123 #[x0, s1] w = some r := run_body Tryz.func123 (by kernel_rfl) hn (by rw [show anns 123 = f123.ann from rfl, f123.eq]; exact h)
theorem f124.run {prim : Prim} {r0 : Value} {w : World} {r : Value × World} (hn : prim.call 124 #[r0] w = none) (h : f124 (R prim) r0 w = some r) : R prim 124 #[r0] w = some r := run_body Tryz.func124 (by kernel_rfl) hn (by rw [show anns 124 = f124.ann from rfl, f124.eq]; exact h)
theorem f125.run {prim : Prim} {r0 s1 : Value} {w : World} {r : Value × World} (hn : prim.call 125 #[r0, s1] w = none) (h : f125 (R prim) r0 s1 w = some r) : R prim 125 #[r0, s1] w = some r := run_body Tryz.func125 (by kernel_rfl) hn (by rw [show anns 125 = f125.ann from rfl, f125.eq]; exact h)
theorem f126.run {prim : Prim} {s0 at1 : Value} {w : World} {r : Value × World} (hn : prim.call 126 #[s0, at1] w = none) (h : f126 (R prim) s0 at1 w = some r) : R prim 126 #[s0, at1] w = some r := run_body Tryz.func126 (by kernel_rfl) hn (by rw [show anns 126 = f126.ann from rfl, f126.eq]; exact h)
theorem f127.run {prim : Prim} {x0 : Value} {w : World} {r : Value × World} (hn : prim.call 127 #[x0] w = none) (h : f127 (R prim) x0 w = some r) : R prim 127 #[x0] w = some r := run_body Tryz.func127 (by kernel_rfl) hn (by rw [show anns 127 = f127.ann from rfl, f127.eq]; exact h)
theorem f128.run {prim : Prim} {i0 base1 : Value} {w : World} {r : Value × World} (hn : prim.call 128 #[i0, base1] w = none) (h : f128 (R prim) i0 base1 w = some r) : R prim 128 #[i0, base1] w = some r := run_body Tryz.func128 (by kernel_rfl) hn (by rw [show anns 128 = f128.ann from rfl, f128.eq]; exact h)
theorem f129.run {prim : Prim} {t0 o1 A2 : Value} {w : World} {r : Value × World} (hn : prim.call 129 #[t0, o1, A2] w = none) (h : f129 (R prim) t0 o1 A2 w = some r) : R prim 129 #[t0, o1, A2] w = some r := run_body Tryz.func129 (by kernel_rfl) hn (by rw [show anns 129 = f129.ann from rfl, f129.eq]; exact h)
theorem f132.run {prim : Prim} {x0 s1 : Value} {w : World} {r : Value × World} (hn : prim.call 132 #[x0, s1] w = none) (h : f132 (R prim) x0 s1 w = some r) : R prim 132 #[x0, s1] w = some r := run_body Tryz.func132 (by kernel_rfl) hn (by rw [show anns 132 = f132.ann from rfl, f132.eq]; exact h)
theorem f133.run {prim : Prim} {at0 v1 : Value} {w : World} {r : Value × World} (hn : prim.call 133 #[at0, v1] w = none) (h : f133 (R prim) at0 v1 w = some r) : R prim 133 #[at0, v1] w = some r := run_body Tryz.func133 (by kernel_rfl) hn (by rw [show anns 133 = f133.ann from rfl, f133.eq]; exact h)
theorem f134.run {prim : Prim} {i0 : Value} {w : World} {r : Value × World} (hn : prim.call 134 #[i0] w = none) (h : f134 (R prim) i0 w = some r) : R prim 134 #[i0] w = some r := run_body Tryz.func134 (by kernel_rfl) hn (by rw [show anns 134 = f134.ann from rfl, f134.eq]; exact h)
theorem f135.run {prim : Prim} {d0 : Value} {w : World} {r : Value × World} (hn : prim.call 135 #[d0] w = none) (h : f135 (R prim) d0 w = some r) : R prim 135 #[d0] w = some r := run_body Tryz.func135 (by kernel_rfl) hn (by rw [show anns 135 = f135.ann from rfl, f135.eq]; exact h)
theorem f136.run {prim : Prim} {t0 o1 : Value} {w : World} {r : Value × World} (hn : prim.call 136 #[t0, o1] w = none) (h : f136 (R prim) t0 o1 w = some r) : R prim 136 #[t0, o1] w = some r := run_body Tryz.func136 (by kernel_rfl) hn (by rw [show anns 136 = f136.ann from rfl, f136.eq]; exact h)
theorem f164.run {prim : Prim} {e0 : Value} {w : World} {r : Value × World} (hn : prim.call 164 #[e0] w = none) (h : f164 (R prim) e0 w = some r) : R prim 164 #[e0] w = some r := run_body Tryz.func164 (by kernel_rfl) hn (by rw [show anns 164 = f164.ann from rfl, f164.eq]; exact h)
theorem f165.run {prim : Prim} {f0 : Value} {w : World} {r : Value × World} (hn : prim.call 165 #[f0] w = none) (h : f165 (R prim) f0 w = some r) : R prim 165 #[f0] w = some r := run_body Tryz.func165 (by kernel_rfl) hn (by rw [show anns 165 = f165.ann from rfl, f165.eq]; exact h)
theorem f166.run {prim : Prim} {f0 : Value} {w : World} {r : Value × World} (hn : prim.call 166 #[f0] w = none) (h : f166 (R prim) f0 w = some r) : R prim 166 #[f0] w = some r := run_body Tryz.func166 (by kernel_rfl) hn (by rw [show anns 166 = f166.ann from rfl, f166.eq]; exact h)
theorem f167.run {prim : Prim} {e0 : Value} {w : World} {r : Value × World} (hn : prim.call 167 #[e0] w = none) (h : f167 (R prim) e0 w = some r) : R prim 167 #[e0] w = some r := run_body Tryz.func167 (by kernel_rfl) hn (by rw [show anns 167 = f167.ann from rfl, f167.eq]; exact h)

/-! ### facts of the types -/
noncomputable def inf (t : Nat) : TypeInfo := (Tryz.prog.info? t).getD default
@[simp] theorem len9 (ty : TypeId) (s : ByteArray) : prun Tryz.prog (Builtin.len_ #[9] ty #[.string s]) = some (.int .i64 s.size) := len_string Tryz.underlying9 ty s
@[simp] theorem len28 (ty : TypeId) (a : Option Addr) (n c : Nat) : prun Tryz.prog (Builtin.len_ #[28] ty #[.slice a n c]) = some (.int .i64 n) := len_slice Tryz.underlying28 ty a n c
@[simp] theorem len42 (ty : TypeId) (a : Option Addr) (n c : Nat) : prun Tryz.prog (Builtin.len_ #[42] ty #[.slice a n c]) = some (.int .i64 n) := len_slice Tryz.underlying42 ty a n c
@[simp] theorem len45 (ty : TypeId) (a : Option Addr) (n c : Nat) : prun Tryz.prog (Builtin.len_ #[45] ty #[.slice a n c]) = some (.int .i64 n) := len_slice Tryz.underlying45 ty a n c
@[simp] theorem len62 (ty : TypeId) (a : Option Addr) (n c : Nat) : prun Tryz.prog (Builtin.len_ #[62] ty #[.slice a n c]) = some (.int .i64 n) := len_slice Tryz.underlying62 ty a n c
@[simp] theorem len70 (ty : TypeId) (a : Option Addr) (n c : Nat) : prun Tryz.prog (Builtin.len_ #[70] ty #[.slice a n c]) = some (.int .i64 n) := len_slice Tryz.underlying70 ty a n c
@[simp] theorem len91 (ty : TypeId) (a : Option Addr) (n c : Nat) : prun Tryz.prog (Builtin.len_ #[91] ty #[.slice a n c]) = some (.int .i64 n) := len_slice Tryz.underlying91 ty a n c
@[simp] theorem len160 (ty : TypeId) (a : Option Addr) (n c : Nat) : prun Tryz.prog (Builtin.len_ #[160] ty #[.slice a n c]) = some (.int .i64 n) := len_slice Tryz.underlying160 ty a n c
@[simp] theorem len170 (ty : TypeId) (a : Option Addr) (n c : Nat) : prun Tryz.prog (Builtin.len_ #[170] ty #[.slice a n c]) = some (.int .i64 n) := len_slice Tryz.underlying170 ty a n c
@[simp] theorem ld3 (a : Addr) (w : World) : rrun Tryz.prog (Instr.loadAt 3 (.pointer (some a))) w = w.cell? a := load_one Tryz.underlying3 (by kernel_rfl) a w
@[simp] theorem ld4 (a : Addr) (w : World) : rrun Tryz.prog (Instr.loadAt 4 (.pointer (some a))) w = w.cell? a := load_one Tryz.underlying4 (by kernel_rfl) a w
@[simp] theorem ld5 (a : Addr) (w : World) : rrun Tryz.prog (Instr.loadAt 5 (.pointer (some a))) w = w.cell? a := load_one Tryz.underlying5 (by kernel_rfl) a w
@[simp] theorem ld9 (a : Addr) (w : World) : rrun Tryz.prog (Instr.loadAt 9 (.pointer (some a))) w = w.cell? a := load_one Tryz.underlying9 (by kernel_rfl) a w
@[simp] theorem ld27 (a : Addr) (w : World) : rrun Tryz.prog (Instr.loadAt 27 (.pointer (some a))) w = w.cell? a := load_one Tryz.underlying27 (by kernel_rfl) a w
@[simp] theorem ld28 (a : Addr) (w : World) : rrun Tryz.prog (Instr.loadAt 28 (.pointer (some a))) w = w.cell? a := load_one Tryz.underlying28 (by kernel_rfl) a w
theorem inf30 : Tryz.prog.info? 30 = some (inf 30) := by kernel_rfl
theorem size30 : (inf 30).size = 3 := by kernel_rfl
theorem ld30 {a : Addr} {w : World} {v0 v1 v2 : Value} (h0 : w.cell? (a.add 0) = some v0) (h1 : w.cell? (a.add 1) = some v1) (h2 : w.cell? (a.add 2) = some v2) : rrun Tryz.prog (Instr.loadAt 30 (.pointer (some a))) w = some (.agg #[v0, v1, v2]) := load_agg (vs := [v0, v1, v2]) inf30 (by kernel_rfl) (by rw [size30]; rfl) ⟨h0, h1, h2, trivial⟩
@[simp] theorem ld32 (a : Addr) (w : World) : rrun Tryz.prog (Instr.loadAt 32 (.pointer (some a))) w = w.cell? a := load_one Tryz.underlying32 (by kernel_rfl) a w
@[simp] theorem ld35 (a : Addr) (w : World) : rrun Tryz.prog (Instr.loadAt 35 (.pointer (some a))) w = w.cell? a := load_one Tryz.underlying35 (by kernel_rfl) a w
theorem inf51 : Tryz.prog.info? 51 = some (inf 51) := by kernel_rfl
theorem size51 : (inf 51).size = 5 := by kernel_rfl
theorem ld51 {a : Addr} {w : World} {v0 v1 v2 v3 v4 : Value} (h0 : w.cell? (a.add 0) = some v0) (h1 : w.cell? (a.add 1) = some v1) (h2 : w.cell? (a.add 2) = some v2) (h3 : w.cell? (a.add 3) = some v3) (h4 : w.cell? (a.add 4) = some v4) : rrun Tryz.prog (Instr.loadAt 51 (.pointer (some a))) w = some (.agg #[v0, v1, v2, v3, v4]) := load_agg (vs := [v0, v1, v2, v3, v4]) inf51 (by kernel_rfl) (by rw [size51]; rfl) ⟨h0, h1, h2, h3, h4, trivial⟩
@[simp] theorem ld62 (a : Addr) (w : World) : rrun Tryz.prog (Instr.loadAt 62 (.pointer (some a))) w = w.cell? a := load_one Tryz.underlying62 (by kernel_rfl) a w
theorem inf74 : Tryz.prog.info? 74 = some (inf 74) := by kernel_rfl
theorem size74 : (inf 74).size = 4 := by kernel_rfl
theorem ld74 {a : Addr} {w : World} {v0 v1 v2 v3 : Value} (h0 : w.cell? (a.add 0) = some v0) (h1 : w.cell? (a.add 1) = some v1) (h2 : w.cell? (a.add 2) = some v2) (h3 : w.cell? (a.add 3) = some v3) : rrun Tryz.prog (Instr.loadAt 74 (.pointer (some a))) w = some (.agg #[v0, v1, v2, v3]) := load_agg (vs := [v0, v1, v2, v3]) inf74 (by kernel_rfl) (by rw [size74]; rfl) ⟨h0, h1, h2, h3, trivial⟩
theorem inf76 : Tryz.prog.info? 76 = some (inf 76) := by kernel_rfl
theorem size76 : (inf 76).size = 2 := by kernel_rfl
theorem ld76 {a : Addr} {w : World} {v0 v1 : Value} (h0 : w.cell? (a.add 0) = some v0) (h1 : w.cell? (a.add 1) = some v1) : rrun Tryz.prog (Instr.loadAt 76 (.pointer (some a))) w = some (.agg #[v0, v1]) := load_agg (vs := [v0, v1]) inf76 (by kernel_rfl) (by rw [size76]; rfl) ⟨h0, h1, trivial⟩
@[simp] theorem ld82 (a : Addr) (w : World) : rrun Tryz.prog (Instr.loadAt 82 (.pointer (some a))) w = w.cell? a := load_one Tryz.underlying82 (by kernel_rfl) a w
@[simp] theorem ld91 (a : Addr) (w : World) : rrun Tryz.prog (Instr.loadAt 91 (.pointer (some a))) w = w.cell? a := load_one Tryz.underlying91 (by kernel_rfl) a w
@[simp] theorem ld99 (a : Addr) (w : World) : rrun Tryz.prog (Instr.loadAt 99 (.pointer (some a))) w = w.cell? a := load_one Tryz.underlying99 (by kernel_rfl) a w
@[simp] theorem ld108 (a : Addr) (w : World) : rrun Tryz.prog (Instr.loadAt 108 (.pointer (some a))) w = w.cell? a := load_one Tryz.underlying108 (by kernel_rfl) a w
theorem inf114 : Tryz.prog.info? 114 = some (inf 114) := by kernel_rfl
theorem size114 : (inf 114).size = 4 := by kernel_rfl
theorem ld114 {a : Addr} {w : World} {v0 v1 v2 v3 : Value} (h0 : w.cell? (a.add 0) = some v0) (h1 : w.cell? (a.add 1) = some v1) (h2 : w.cell? (a.add 2) = some v2) (h3 : w.cell? (a.add 3) = some v3) : rrun Tryz.prog (Instr.loadAt 114 (.pointer (some a))) w = some (.agg #[v0, v1, v2, v3]) := load_agg (vs := [v0, v1, v2, v3]) inf114 (by kernel_rfl) (by rw [size114]; rfl) ⟨h0, h1, h2, h3, trivial⟩
theorem inf137 : Tryz.prog.info? 137 = some (inf 137) := by kernel_rfl
theorem size137 : (inf 137).size = 3 := by kernel_rfl
theorem ld137 {a : Addr} {w : World} {v0 v1 v2 : Value} (h0 : w.cell? (a.add 0) = some v0) (h1 : w.cell? (a.add 1) = some v1) (h2 : w.cell? (a.add 2) = some v2) : rrun Tryz.prog (Instr.loadAt 137 (.pointer (some a))) w = some (.agg #[v0, v1, v2]) := load_agg (vs := [v0, v1, v2]) inf137 (by kernel_rfl) (by rw [size137]; rfl) ⟨h0, h1, h2, trivial⟩
theorem inf145 : Tryz.prog.info? 145 = some (inf 145) := by kernel_rfl
theorem size145 : (inf 145).size = 4 := by kernel_rfl
theorem ld145 {a : Addr} {w : World} {v0 v1 v2 v3 : Value} (h0 : w.cell? (a.add 0) = some v0) (h1 : w.cell? (a.add 1) = some v1) (h2 : w.cell? (a.add 2) = some v2) (h3 : w.cell? (a.add 3) = some v3) : rrun Tryz.prog (Instr.loadAt 145 (.pointer (some a))) w = some (.agg #[v0, v1, v2, v3]) := load_agg (vs := [v0, v1, v2, v3]) inf145 (by kernel_rfl) (by rw [size145]; rfl) ⟨h0, h1, h2, h3, trivial⟩
theorem inf152 : Tryz.prog.info? 152 = some (inf 152) := by kernel_rfl
theorem size152 : (inf 152).size = 2 := by kernel_rfl
theorem ld152 {a : Addr} {w : World} {v0 v1 : Value} (h0 : w.cell? (a.add 0) = some v0) (h1 : w.cell? (a.add 1) = some v1) : rrun Tryz.prog (Instr.loadAt 152 (.pointer (some a))) w = some (.agg #[v0, v1]) := load_agg (vs := [v0, v1]) inf152 (by kernel_rfl) (by rw [size152]; rfl) ⟨h0, h1, trivial⟩
@[simp] theorem ld159 (a : Addr) (w : World) : rrun Tryz.prog (Instr.loadAt 159 (.pointer (some a))) w = w.cell? a := load_one Tryz.underlying159 (by kernel_rfl) a w
theorem inf175 : Tryz.prog.info? 175 = some (inf 175) := by kernel_rfl
theorem size175 : (inf 175).size = 256 := by kernel_rfl
theorem inf3 : Tryz.prog.info? 3 = some (inf 3) := by kernel_rfl
theorem size3 : (inf 3).size = 1 := by kernel_rfl
theorem st3 {a : Addr} {w : World} {v u : Value} (hv : v.cells = #[v]) (ho : v.oneCell' = true) (hc : w.cell? a = some u) (hf : w.frozen? a = false) : erun Tryz.prog (Instr.storeAt 3 (.pointer (some a)) v) w = some ((), w.setCell a v) := store_one inf3 size3 hv ho hc hf
theorem inf4 : Tryz.prog.info? 4 = some (inf 4) := by kernel_rfl
theorem size4 : (inf 4).size = 1 := by kernel_rfl
theorem st4 {a : Addr} {w : World} {v u : Value} (hv : v.cells = #[v]) (ho : v.oneCell' = true) (hc : w.cell? a = some u) (hf : w.frozen? a = false) : erun Tryz.prog (Instr.storeAt 4 (.pointer (some a)) v) w = some ((), w.setCell a v) := store_one inf4 size4 hv ho hc hf
theorem inf5 : Tryz.prog.info? 5 = some (inf 5) := by kernel_rfl
theorem size5 : (inf 5).size = 1 := by kernel_rfl
theorem st5 {a : Addr} {w : World} {v u : Value} (hv : v.cells = #[v]) (ho : v.oneCell' = true) (hc : w.cell? a = some u) (hf : w.frozen? a = false) : erun Tryz.prog (Instr.storeAt 5 (.pointer (some a)) v) w = some ((), w.setCell a v) := store_one inf5 size5 hv ho hc hf
theorem inf9 : Tryz.prog.info? 9 = some (inf 9) := by kernel_rfl
theorem size9 : (inf 9).size = 1 := by kernel_rfl
theorem st9 {a : Addr} {w : World} {v u : Value} (hv : v.cells = #[v]) (ho : v.oneCell' = true) (hc : w.cell? a = some u) (hf : w.frozen? a = false) : erun Tryz.prog (Instr.storeAt 9 (.pointer (some a)) v) w = some ((), w.setCell a v) := store_one inf9 size9 hv ho hc hf
theorem inf28 : Tryz.prog.info? 28 = some (inf 28) := by kernel_rfl
theorem size28 : (inf 28).size = 1 := by kernel_rfl
theorem st28 {a : Addr} {w : World} {v u : Value} (hv : v.cells = #[v]) (ho : v.oneCell' = true) (hc : w.cell? a = some u) (hf : w.frozen? a = false) : erun Tryz.prog (Instr.storeAt 28 (.pointer (some a)) v) w = some ((), w.setCell a v) := store_one inf28 size28 hv ho hc hf
theorem inf62 : Tryz.prog.info? 62 = some (inf 62) := by kernel_rfl
theorem size62 : (inf 62).size = 1 := by kernel_rfl
theorem st62 {a : Addr} {w : World} {v u : Value} (hv : v.cells = #[v]) (ho : v.oneCell' = true) (hc : w.cell? a = some u) (hf : w.frozen? a = false) : erun Tryz.prog (Instr.storeAt 62 (.pointer (some a)) v) w = some ((), w.setCell a v) := store_one inf62 size62 hv ho hc hf
theorem inf82 : Tryz.prog.info? 82 = some (inf 82) := by kernel_rfl
theorem size82 : (inf 82).size = 1 := by kernel_rfl
theorem st82 {a : Addr} {w : World} {v u : Value} (hv : v.cells = #[v]) (ho : v.oneCell' = true) (hc : w.cell? a = some u) (hf : w.frozen? a = false) : erun Tryz.prog (Instr.storeAt 82 (.pointer (some a)) v) w = some ((), w.setCell a v) := store_one inf82 size82 hv ho hc hf
theorem inf99 : Tryz.prog.info? 99 = some (inf 99) := by kernel_rfl
theorem size99 : (inf 99).size = 1 := by kernel_rfl
theorem st99 {a : Addr} {w : World} {v u : Value} (hv : v.cells = #[v]) (ho : v.oneCell' = true) (hc : w.cell? a = some u) (hf : w.frozen? a = false) : erun Tryz.prog (Instr.storeAt 99 (.pointer (some a)) v) w = some ((), w.setCell a v) := store_one inf99 size99 hv ho hc hf
@[simp] theorem fa30_0 (a : Addr) : prun Tryz.prog (Instr.fieldAt 30 (.pointer (some a)) 0) = some (.pointer (some (a.add 0))) := id (by kernel_rfl)
@[simp] theorem fa30_1 (a : Addr) : prun Tryz.prog (Instr.fieldAt 30 (.pointer (some a)) 1) = some (.pointer (some (a.add 1))) := id (by kernel_rfl)
@[simp] theorem fa30_2 (a : Addr) : prun Tryz.prog (Instr.fieldAt 30 (.pointer (some a)) 2) = some (.pointer (some (a.add 2))) := id (by kernel_rfl)
@[simp] theorem fa51_0 (a : Addr) : prun Tryz.prog (Instr.fieldAt 51 (.pointer (some a)) 0) = some (.pointer (some (a.add 0))) := id (by kernel_rfl)
@[simp] theorem fa51_1 (a : Addr) : prun Tryz.prog (Instr.fieldAt 51 (.pointer (some a)) 1) = some (.pointer (some (a.add 1))) := id (by kernel_rfl)
@[simp] theorem fa51_2 (a : Addr) : prun Tryz.prog (Instr.fieldAt 51 (.pointer (some a)) 2) = some (.pointer (some (a.add 2))) := id (by kernel_rfl)
@[simp] theorem fa51_3 (a : Addr) : prun Tryz.prog (Instr.fieldAt 51 (.pointer (some a)) 3) = some (.pointer (some (a.add 3))) := id (by kernel_rfl)
@[simp] theorem fa51_4 (a : Addr) : prun Tryz.prog (Instr.fieldAt 51 (.pointer (some a)) 4) = some (.pointer (some (a.add 4))) := id (by kernel_rfl)
@[simp] theorem fa64_0 (a : Addr) : prun Tryz.prog (Instr.fieldAt 64 (.pointer (some a)) 0) = some (.pointer (some (a.add 0))) := id (by kernel_rfl)
@[simp] theorem fa64_1 (a : Addr) : prun Tryz.prog (Instr.fieldAt 64 (.pointer (some a)) 1) = some (.pointer (some (a.add 1))) := id (by kernel_rfl)
@[simp] theorem fa74_0 (a : Addr) : prun Tryz.prog (Instr.fieldAt 74 (.pointer (some a)) 0) = some (.pointer (some (a.add 0))) := id (by kernel_rfl)
@[simp] theorem fa74_1 (a : Addr) : prun Tryz.prog (Instr.fieldAt 74 (.pointer (some a)) 1) = some (.pointer (some (a.add 1))) := id (by kernel_rfl)
@[simp] theorem fa74_2 (a : Addr) : prun Tryz.prog (Instr.fieldAt 74 (.pointer (some a)) 2) = some (.pointer (some (a.add 2))) := id (by kernel_rfl)
@[simp] theorem fa74_3 (a : Addr) : prun Tryz.prog (Instr.fieldAt 74 (.pointer (some a)) 3) = some (.pointer (some (a.add 3))) := id (by kernel_rfl)
@[simp] theorem fa83_0 (a : Addr) : prun Tryz.prog (Instr.fieldAt 83 (.pointer (some a)) 0) = some (.pointer (some (a.add 0))) := id (by kernel_rfl)
@[simp] theorem fa83_1 (a : Addr) : prun Tryz.prog (Instr.fieldAt 83 (.pointer (some a)) 1) = some (.pointer (some (a.add 1))) := id (by kernel_rfl)
@[simp] theorem fa101_0 (a : Addr) : prun Tryz.prog (Instr.fieldAt 101 (.pointer (some a)) 0) = some (.pointer (some (a.add 0))) := id (by kernel_rfl)
@[simp] theorem fa101_1 (a : Addr) : prun Tryz.prog (Instr.fieldAt 101 (.pointer (some a)) 1) = some (.pointer (some (a.add 1))) := id (by kernel_rfl)
@[simp] theorem fa114_0 (a : Addr) : prun Tryz.prog (Instr.fieldAt 114 (.pointer (some a)) 0) = some (.pointer (some (a.add 0))) := id (by kernel_rfl)
@[simp] theorem fa114_1 (a : Addr) : prun Tryz.prog (Instr.fieldAt 114 (.pointer (some a)) 1) = some (.pointer (some (a.add 1))) := id (by kernel_rfl)
@[simp] theorem fa114_2 (a : Addr) : prun Tryz.prog (Instr.fieldAt 114 (.pointer (some a)) 2) = some (.pointer (some (a.add 2))) := id (by kernel_rfl)
@[simp] theorem fa114_3 (a : Addr) : prun Tryz.prog (Instr.fieldAt 114 (.pointer (some a)) 3) = some (.pointer (some (a.add 3))) := id (by kernel_rfl)
@[simp] theorem fa145_0 (a : Addr) : prun Tryz.prog (Instr.fieldAt 145 (.pointer (some a)) 0) = some (.pointer (some (a.add 0))) := id (by kernel_rfl)
@[simp] theorem fa145_3 (a : Addr) : prun Tryz.prog (Instr.fieldAt 145 (.pointer (some a)) 3) = some (.pointer (some (a.add 3))) := id (by kernel_rfl)
@[simp] theorem fa152_0 (a : Addr) : prun Tryz.prog (Instr.fieldAt 152 (.pointer (some a)) 0) = some (.pointer (some (a.add 0))) := id (by kernel_rfl)
@[simp] theorem fa152_1 (a : Addr) : prun Tryz.prog (Instr.fieldAt 152 (.pointer (some a)) 1) = some (.pointer (some (a.add 1))) := id (by kernel_rfl)
theorem ix28 (a : Addr) (n c : Nat) (k : IntKind) (j : Int) (h0 : 0 ≤ j) (h1 : j < n) : prun Tryz.prog (Instr.indexAt 28 (.slice (some a) n c) (.int k j)) = some (.pointer (some (a.add (j.toNat * 5)))) := by
  have h := index_slice Tryz.underlying28 inf51 a n c k j h0 h1
  rwa [size51] at h
theorem ix42 (a : Addr) (n c : Nat) (k : IntKind) (j : Int) (h0 : 0 ≤ j) (h1 : j < n) : prun Tryz.prog (Instr.indexAt 42 (.slice (some a) n c) (.int k j)) = some (.pointer (some (a.add (j.toNat * 1)))) := by
  have h := index_slice Tryz.underlying42 inf3 a n c k j h0 h1
  rwa [size3] at h
theorem inf91 : Tryz.prog.info? 91 = some (inf 91) := by kernel_rfl
theorem size91 : (inf 91).size = 1 := by kernel_rfl
theorem ix45 (a : Addr) (n c : Nat) (k : IntKind) (j : Int) (h0 : 0 ≤ j) (h1 : j < n) : prun Tryz.prog (Instr.indexAt 45 (.slice (some a) n c) (.int k j)) = some (.pointer (some (a.add (j.toNat * 1)))) := by
  have h := index_slice Tryz.underlying45 inf91 a n c k j h0 h1
  rwa [size91] at h
theorem ix62 (a : Addr) (n c : Nat) (k : IntKind) (j : Int) (h0 : 0 ≤ j) (h1 : j < n) : prun Tryz.prog (Instr.indexAt 62 (.slice (some a) n c) (.int k j)) = some (.pointer (some (a.add (j.toNat * 4)))) := by
  have h := index_slice Tryz.underlying62 inf114 a n c k j h0 h1
  rwa [size114] at h
theorem ix70 (a : Addr) (n c : Nat) (k : IntKind) (j : Int) (h0 : 0 ≤ j) (h1 : j < n) : prun Tryz.prog (Instr.indexAt 70 (.slice (some a) n c) (.int k j)) = some (.pointer (some (a.add (j.toNat * 4)))) := by
  have h := index_slice Tryz.underlying70 inf74 a n c k j h0 h1
  rwa [size74] at h
theorem ix91 (a : Addr) (n c : Nat) (k : IntKind) (j : Int) (h0 : 0 ≤ j) (h1 : j < n) : prun Tryz.prog (Instr.indexAt 91 (.slice (some a) n c) (.int k j)) = some (.pointer (some (a.add (j.toNat * 1)))) := by
  have h := index_slice Tryz.underlying91 inf9 a n c k j h0 h1
  rwa [size9] at h
theorem ix160 (a : Addr) (n c : Nat) (k : IntKind) (j : Int) (h0 : 0 ≤ j) (h1 : j < n) : prun Tryz.prog (Instr.indexAt 160 (.slice (some a) n c) (.int k j)) = some (.pointer (some (a.add (j.toNat * 1)))) := by
  have h := index_slice Tryz.underlying160 inf5 a n c k j h0 h1
  rwa [size5] at h
theorem inf32 : Tryz.prog.info? 32 = some (inf 32) := by kernel_rfl
theorem size32 : (inf 32).size = 1 := by kernel_rfl
theorem ix170 (a : Addr) (n c : Nat) (k : IntKind) (j : Int) (h0 : 0 ≤ j) (h1 : j < n) : prun Tryz.prog (Instr.indexAt 170 (.slice (some a) n c) (.int k j)) = some (.pointer (some (a.add (j.toNat * 1)))) := by
  have h := index_slice Tryz.underlying170 inf32 a n c k j h0 h1
  rwa [size32] at h
theorem sl28 (a : Option Addr) (n c : Nat) (lo hi mx : Option Value) (l h m : Nat) (hb : prun Tryz.prog (Instr.sliceBounds true n c lo hi mx) = some (l, h, m)) : prun Tryz.prog (Instr.sliceAt 28 (.slice a n c) lo hi mx) = some (.slice (if m = l then a else a.map (·.add (l * 5))) (h - l) (m - l)) := by
  have h := slice_at Tryz.underlying28 inf51 a n c lo hi mx l h m hb
  rwa [size51] at h
theorem sl62 (a : Option Addr) (n c : Nat) (lo hi mx : Option Value) (l h m : Nat) (hb : prun Tryz.prog (Instr.sliceBounds true n c lo hi mx) = some (l, h, m)) : prun Tryz.prog (Instr.sliceAt 62 (.slice a n c) lo hi mx) = some (.slice (if m = l then a else a.map (·.add (l * 4))) (h - l) (m - l)) := by
  have h := slice_at Tryz.underlying62 inf114 a n c lo hi mx l h m hb
  rwa [size114] at h
theorem zero51 : (inf 51).zero = some (.agg #[(.string ⟨#[]⟩), (.int .i64 0), (.int .i64 0), (.int .i64 0), (.string ⟨#[]⟩)]) := by kernel_rfl
theorem bytes51 : (inf 51).bytes = 56 := id (by kernel_rfl)
theorem ap28 {w : World} {base : Nat} {ty : TypeId} {v : Value} {n : Nat} {xs : List Value} (hown : w.ownsRow base 51 5 v n xs) {A : Option Addr} {m c : Nat} {news : List Value} (hl : news.length = m * 5) (hr : Rd w A news) (hnil : A = none → c = 0) (h1 : ∀ u ∈ news, u.oneCell' = true) (h63 : n + m ≤ maxLen) (hbytes : (n + m) * 56 ≤ 140737488355328) (hbase : base ≤ w.heap.size) :
    ∃ v' w', erun Tryz.prog (Builtin.append_ #[28, 28] ty #[v, .slice A m c]) w = some (v', w') ∧ w'.ownsRow base 51 5 v' (n + m) (xs ++ news) ∧ w.grownBy w' v.ownBlock := e_append Tryz.underlying28 inf51 zero51 size51 bytes51 rfl (by decide) hown hl hr hnil h1 h63 hbytes hbase
theorem zero91 : (inf 91).zero = some (.slice none 0 0) := by kernel_rfl
theorem bytes91 : (inf 91).bytes = 24 := id (by kernel_rfl)
theorem ap45 {w : World} {base : Nat} {ty : TypeId} {v : Value} {n : Nat} {xs : List Value} (hown : w.ownsRow base 91 1 v n xs) {A : Option Addr} {m c : Nat} {news : List Value} (hl : news.length = m * 1) (hr : Rd w A news) (hnil : A = none → c = 0) (h1 : ∀ u ∈ news, u.oneCell' = true) (h63 : n + m ≤ maxLen) (hbytes : (n + m) * 24 ≤ 140737488355328) (hbase : base ≤ w.heap.size) :
    ∃ v' w', erun Tryz.prog (Builtin.append_ #[45, 45] ty #[v, .slice A m c]) w = some (v', w') ∧ w'.ownsRow base 91 1 v' (n + m) (xs ++ news) ∧ w.grownBy w' v.ownBlock := e_append Tryz.underlying45 inf91 zero91 size91 bytes91 rfl (by decide) hown hl hr hnil h1 h63 hbytes hbase
theorem zero114 : (inf 114).zero = some (.agg #[(.int .i64 0), (.string ⟨#[]⟩), (.bool false), (.bool false)]) := by kernel_rfl
theorem bytes114 : (inf 114).bytes = 32 := id (by kernel_rfl)
theorem ap62 {w : World} {base : Nat} {ty : TypeId} {v : Value} {n : Nat} {xs : List Value} (hown : w.ownsRow base 114 4 v n xs) {A : Option Addr} {m c : Nat} {news : List Value} (hl : news.length = m * 4) (hr : Rd w A news) (hnil : A = none → c = 0) (h1 : ∀ u ∈ news, u.oneCell' = true) (h63 : n + m ≤ maxLen) (hbytes : (n + m) * 32 ≤ 140737488355328) (hbase : base ≤ w.heap.size) :
    ∃ v' w', erun Tryz.prog (Builtin.append_ #[62, 62] ty #[v, .slice A m c]) w = some (v', w') ∧ w'.ownsRow base 114 4 v' (n + m) (xs ++ news) ∧ w.grownBy w' v.ownBlock := e_append Tryz.underlying62 inf114 zero114 size114 bytes114 rfl (by decide) hown hl hr hnil h1 h63 hbytes hbase
theorem zero74 : (inf 74).zero = some (.agg #[(.int .i64 0), (.bool false), (.string ⟨#[]⟩), (.bool false)]) := by kernel_rfl
theorem bytes74 : (inf 74).bytes = 40 := id (by kernel_rfl)
theorem ap70 {w : World} {base : Nat} {ty : TypeId} {v : Value} {n : Nat} {xs : List Value} (hown : w.ownsRow base 74 4 v n xs) {A : Option Addr} {m c : Nat} {news : List Value} (hl : news.length = m * 4) (hr : Rd w A news) (hnil : A = none → c = 0) (h1 : ∀ u ∈ news, u.oneCell' = true) (h63 : n + m ≤ maxLen) (hbytes : (n + m) * 40 ≤ 140737488355328) (hbase : base ≤ w.heap.size) :
    ∃ v' w', erun Tryz.prog (Builtin.append_ #[70, 70] ty #[v, .slice A m c]) w = some (v', w') ∧ w'.ownsRow base 74 4 v' (n + m) (xs ++ news) ∧ w.grownBy w' v.ownBlock := e_append Tryz.underlying70 inf74 zero74 size74 bytes74 rfl (by decide) hown hl hr hnil h1 h63 hbytes hbase
theorem zero9 : (inf 9).zero = some (.string ⟨#[]⟩) := by kernel_rfl
theorem bytes9 : (inf 9).bytes = 16 := id (by kernel_rfl)
theorem ap91 {w : World} {base : Nat} {ty : TypeId} {v : Value} {n : Nat} {xs : List Value} (hown : w.ownsRow base 9 1 v n xs) {A : Option Addr} {m c : Nat} {news : List Value} (hl : news.length = m * 1) (hr : Rd w A news) (hnil : A = none → c = 0) (h1 : ∀ u ∈ news, u.oneCell' = true) (h63 : n + m ≤ maxLen) (hbytes : (n + m) * 16 ≤ 140737488355328) (hbase : base ≤ w.heap.size) :
    ∃ v' w', erun Tryz.prog (Builtin.append_ #[91, 91] ty #[v, .slice A m c]) w = some (v', w') ∧ w'.ownsRow base 9 1 v' (n + m) (xs ++ news) ∧ w.grownBy w' v.ownBlock := e_append Tryz.underlying91 inf9 zero9 size9 bytes9 rfl (by decide) hown hl hr hnil h1 h63 hbytes hbase
theorem zero5 : (inf 5).zero = some (.int .u8 0) := by kernel_rfl
theorem bytes5 : (inf 5).bytes = 1 := id (by kernel_rfl)
theorem ap160 {w : World} {base : Nat} {ty : TypeId} {v : Value} {n : Nat} {xs : List Value} (hown : w.ownsRow base 5 1 v n xs) {A : Option Addr} {m c : Nat} {news : List Value} (hl : news.length = m * 1) (hr : Rd w A news) (hnil : A = none → c = 0) (h1 : ∀ u ∈ news, u.oneCell' = true) (h63 : n + m ≤ maxLen) (hbytes : (n + m) * 1 ≤ 140737488355328) (hbase : base ≤ w.heap.size) :
    ∃ v' w', erun Tryz.prog (Builtin.append_ #[160, 160] ty #[v, .slice A m c]) w = some (v', w') ∧ w'.ownsRow base 5 1 v' (n + m) (xs ++ news) ∧ w.grownBy w' v.ownBlock := e_append Tryz.underlying160 inf5 zero5 size5 bytes5 rfl (by decide) hown hl hr hnil h1 h63 hbytes hbase
@[simp] theorem bs28_0 (w : World) : erun Tryz.prog (Instr.buildSlice 28 0 #[]) w = some (.slice (some ⟨w.heap.size, 0, none⟩) 0 0, w.alloc (.cells #[] 51)) := id (by kernel_rfl)
@[simp] theorem bs45_0 (w : World) : erun Tryz.prog (Instr.buildSlice 45 0 #[]) w = some (.slice (some ⟨w.heap.size, 0, none⟩) 0 0, w.alloc (.cells #[] 91)) := id (by kernel_rfl)
@[simp] theorem bs62_0 (w : World) : erun Tryz.prog (Instr.buildSlice 62 0 #[]) w = some (.slice (some ⟨w.heap.size, 0, none⟩) 0 0, w.alloc (.cells #[] 114)) := id (by kernel_rfl)
@[simp] theorem bs70_0 (w : World) : erun Tryz.prog (Instr.buildSlice 70 0 #[]) w = some (.slice (some ⟨w.heap.size, 0, none⟩) 0 0, w.alloc (.cells #[] 74)) := id (by kernel_rfl)
@[simp] theorem bs91_0 (w : World) : erun Tryz.prog (Instr.buildSlice 91 0 #[]) w = some (.slice (some ⟨w.heap.size, 0, none⟩) 0 0, w.alloc (.cells #[] 9)) := id (by kernel_rfl)
@[simp] theorem bs160_0 (w : World) : erun Tryz.prog (Instr.buildSlice 160 0 #[]) w = some (.slice (some ⟨w.heap.size, 0, none⟩) 0 0, w.alloc (.cells #[] 5)) := id (by kernel_rfl)
theorem tx160_9 {w : World} {A : Option Addr} {c : Nat} {l : List UInt8} {n : Nat} (hn : l.length = n) (hr : Rd w A (bv l)) : rrun Tryz.prog (convert 160 9 (.slice A n c)) w = some (.string ⟨l.toArray⟩) := e_text Tryz.underlying160 Tryz.underlying5 Tryz.underlying9 hn hr
@[simp] theorem eql9_s (x y : Operand) (a b : ByteArray) : prun Tryz.prog (do eqGuard .eql 9 x y (.string a) (.string b); binOp .eql 9 (.string a) (.string b)) = some (.bool (a.toList == b.toList)) := id (by kernel_rfl)
@[simp] theorem eql20_some (x y : Operand) (u : TypeId) (v : Value) (w : World) : rrun Tryz.prog (do eqGuard .eql 20 x y (.iface u v) .nilIface; binOp .eql 20 (.iface u v) .nilIface) w = some (.bool false) := id (by kernel_rfl)
@[simp] theorem eql20_none (x : Operand) (c : Value) (w : World) : rrun Tryz.prog (do eqGuard .eql 20 x (.const c) .nilIface .nilIface; binOp .eql 20 .nilIface .nilIface) w = some (.bool true) := id (by cases x <;> kernel_rfl)
theorem eqf51 (a0 b0 : ByteArray) (a1 b1 : Int) (a2 b2 : Int) (a3 b3 : Int) (a4 b4 : ByteArray) (w : World) : rrun Tryz.prog (Op.eqFields 9999 #[(.string a0), (.int .i64 a1), (.int .i64 a2), (.int .i64 a3), (.string a4)] #[(.string b0), (.int .i64 b1), (.int .i64 b2), (.int .i64 b3), (.string b4)] (Tryz.prog.fieldsOf 51).toList) w = some ((a0.toList == b0.toList) && (a1 == b1 && (a2 == b2 && (a3 == b3 && ((a4.toList == b4.toList) && true))))) := by
  simp only [Program.fieldsOf, Tryz.underlying51]
  exact (rr_eqFields_cons w 9999 _ _ _ _ _ _ _ _ (by decide) (by kernel_rfl) (by kernel_rfl) (rr_equalIn_string w 9998 9 a0 b0 Tryz.underlying9) (rr_eqFields_cons w 9999 _ _ _ _ _ _ _ _ (by decide) (by kernel_rfl) (by kernel_rfl) (rr_equalIn_int w 9998 3 .i64 .i64 a1 b1 Tryz.underlying3) (rr_eqFields_cons w 9999 _ _ _ _ _ _ _ _ (by decide) (by kernel_rfl) (by kernel_rfl) (rr_equalIn_int w 9998 3 .i64 .i64 a2 b2 Tryz.underlying3) (rr_eqFields_cons w 9999 _ _ _ _ _ _ _ _ (by decide) (by kernel_rfl) (by kernel_rfl) (rr_equalIn_int w 9998 3 .i64 .i64 a3 b3 Tryz.underlying3) (rr_eqFields_cons w 9999 _ _ _ _ _ _ _ _ (by decide) (by kernel_rfl) (by kernel_rfl) (rr_equalIn_string w 9998 9 a4 b4 Tryz.underlying9) (rr_eqFields_nil w 9999 _ _))))))
@[simp] theorem eql51_st (x y : Operand) (a0 b0 : ByteArray) (a1 b1 : Int) (a2 b2 : Int) (a3 b3 : Int) (a4 b4 : ByteArray) (w : World) : rrun Tryz.prog (do eqGuard .eql 51 x y (.agg #[(.string a0), (.int .i64 a1), (.int .i64 a2), (.int .i64 a3), (.string a4)]) (.agg #[(.string b0), (.int .i64 b1), (.int .i64 b2), (.int .i64 b3), (.string b4)]); binOp .eql 51 (.agg #[(.string a0), (.int .i64 a1), (.int .i64 a2), (.int .i64 a3), (.string a4)]) (.agg #[(.string b0), (.int .i64 b1), (.int .i64 b2), (.int .i64 b3), (.string b4)])) w = some (.bool (((a0.toList == b0.toList) && a1 == b1 && a2 == b2 && a3 == b3 && (a4.toList == b4.toList)))) := by
  have h := rr_eql (P := Tryz.prog) w 51 x y #[(.string a0), (.int .i64 a1), (.int .i64 a2), (.int .i64 a3), (.string a4)] #[(.string b0), (.int .i64 b1), (.int .i64 b2), (.int .i64 b3), (.string b4)] _ (by kernel_rfl) (by kernel_rfl) (by kernel_rfl) (eqf51 a0 b0 a1 b1 a2 b2 a3 b3 a4 b4 w)
  simpa only [Bool.and_true, Bool.and_assoc] using h
@[simp] theorem eql82_some (x y : Operand) (a : Addr) (w : World) : rrun Tryz.prog (do eqGuard .eql 82 x y (.pointer (some a)) (.pointer none); binOp .eql 82 (.pointer (some a)) (.pointer none)) w = some (.bool false) := id (by kernel_rfl)
@[simp] theorem eql82_none (x y : Operand) (w : World) : rrun Tryz.prog (do eqGuard .eql 82 x y (.pointer none) (.pointer none); binOp .eql 82 (.pointer none) (.pointer none)) w = some (.bool true) := id (by kernel_rfl)
@[simp] theorem eql99_some (x y : Operand) (a : Addr) (w : World) : rrun Tryz.prog (do eqGuard .eql 99 x y (.pointer (some a)) (.pointer none); binOp .eql 99 (.pointer (some a)) (.pointer none)) w = some (.bool false) := id (by kernel_rfl)
@[simp] theorem eql99_none (x y : Operand) (w : World) : rrun Tryz.prog (do eqGuard .eql 99 x y (.pointer none) (.pointer none); binOp .eql 99 (.pointer none) (.pointer none)) w = some (.bool true) := id (by kernel_rfl)
@[simp] theorem neq4_b (x y : Operand) (a b : Bool) : prun Tryz.prog (do eqGuard .neq 4 x y (.bool a) (.bool b); binOp .neq 4 (.bool a) (.bool b)) = some (.bool (!(a == b))) := id (by kernel_rfl)
@[simp] theorem neq9_s (x y : Operand) (a b : ByteArray) : prun Tryz.prog (do eqGuard .neq 9 x y (.string a) (.string b); binOp .neq 9 (.string a) (.string b)) = some (.bool !(a.toList == b.toList)) := id (by kernel_rfl)
@[simp] theorem neq51_st (x y : Operand) (a0 b0 : ByteArray) (a1 b1 : Int) (a2 b2 : Int) (a3 b3 : Int) (a4 b4 : ByteArray) (w : World) : rrun Tryz.prog (do eqGuard .neq 51 x y (.agg #[(.string a0), (.int .i64 a1), (.int .i64 a2), (.int .i64 a3), (.string a4)]) (.agg #[(.string b0), (.int .i64 b1), (.int .i64 b2), (.int .i64 b3), (.string b4)]); binOp .neq 51 (.agg #[(.string a0), (.int .i64 a1), (.int .i64 a2), (.int .i64 a3), (.string a4)]) (.agg #[(.string b0), (.int .i64 b1), (.int .i64 b2), (.int .i64 b3), (.string b4)])) w = some (.bool (!((a0.toList == b0.toList) && a1 == b1 && a2 == b2 && a3 == b3 && (a4.toList == b4.toList)))) := by
  have h := rr_neq (P := Tryz.prog) w 51 x y #[(.string a0), (.int .i64 a1), (.int .i64 a2), (.int .i64 a3), (.string a4)] #[(.string b0), (.int .i64 b1), (.int .i64 b2), (.int .i64 b3), (.string b4)] _ (by kernel_rfl) (by kernel_rfl) (by kernel_rfl) (eqf51 a0 b0 a1 b1 a2 b2 a3 b3 a4 b4 w)
  simpa only [Bool.and_true, Bool.and_assoc] using h
@[simp] theorem mi9 (x : Value) : prun Tryz.prog (Instr.makeInterface 9 x) = some (.iface 9 x) := id (by kernel_rfl)
@[simp] theorem mi35 (x : Value) : prun Tryz.prog (Instr.makeInterface 35 x) = some (.iface 35 x) := id (by kernel_rfl)
@[simp] theorem mi82 (x : Value) : prun Tryz.prog (Instr.makeInterface 82 x) = some (.iface 82 x) := id (by kernel_rfl)
@[simp] theorem mi85 (x : Value) : prun Tryz.prog (Instr.makeInterface 85 x) = some (.iface 85 x) := id (by kernel_rfl)
@[simp] theorem mi99 (x : Value) : prun Tryz.prog (Instr.makeInterface 99 x) = some (.iface 99 x) := id (by kernel_rfl)
@[simp] theorem mi102 (x : Value) : prun Tryz.prog (Instr.makeInterface 102 x) = some (.iface 102 x) := id (by kernel_rfl)
@[simp] theorem mi198 (x : Value) : prun Tryz.prog (Instr.makeInterface 198 x) = some (.iface 198 x) := id (by kernel_rfl)
@[simp] theorem mi201 (x : Value) : prun Tryz.prog (Instr.makeInterface 201 x) = some (.iface 201 x) := id (by kernel_rfl)
end Go.Sh.YtkghbcadnbojgaaGreatDoor

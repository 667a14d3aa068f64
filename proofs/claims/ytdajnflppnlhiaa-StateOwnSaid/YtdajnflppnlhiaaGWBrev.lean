import Derived.Test.YtdajnflppnlhiaaGWRen
set_option linter.unusedVariables false
namespace GW
open Go Go.RowKit
theorem bindX {α β:Type}{x:Option α}{f:α→Option β}{r:β}{P:Prop}(h:x.bind f=some r)(k:∀ t,x=some t→f t=some r→P):P:=by
 obtain ⟨t,h1,h2⟩:=Option.bind_eq_some_iff.1 h
 exact k t h1 h2
abbrev _root_.Prod.e3 {A1 A2 A3 A4:Type}(x:A1×A2×A3×A4):A3:=x.2.2.1
abbrev _root_.Prod.t2 {A1 A2 A3:Type}(x:A1×A2×A3):A3:=x.2.2
abbrev _root_.Prod.e4 {A1 A2 A3 A4 A5:Type}(x:A1×A2×A3×A4×A5):A4:=x.2.2.2.1
abbrev _root_.Prod.t3 {A1 A2 A3 A4:Type}(x:A1×A2×A3×A4):A4:=x.2.2.2
abbrev _root_.Prod.e5 {A1 A2 A3 A4 A5 A6:Type}(x:A1×A2×A3×A4×A5×A6):A5:=x.2.2.2.2.1
abbrev _root_.Prod.t4 {A1 A2 A3 A4 A5:Type}(x:A1×A2×A3×A4×A5):A5:=x.2.2.2.2
abbrev _root_.Prod.e6 {A1 A2 A3 A4 A5 A6 A7:Type}(x:A1×A2×A3×A4×A5×A6×A7):A6:=x.2.2.2.2.2.1
abbrev _root_.Prod.t5 {A1 A2 A3 A4 A5 A6:Type}(x:A1×A2×A3×A4×A5×A6):A6:=x.2.2.2.2.2
abbrev _root_.Prod.e7 {A1 A2 A3 A4 A5 A6 A7 A8:Type}(x:A1×A2×A3×A4×A5×A6×A7×A8):A7:=x.2.2.2.2.2.2.1
abbrev _root_.Prod.t6 {A1 A2 A3 A4 A5 A6 A7:Type}(x:A1×A2×A3×A4×A5×A6×A7):A7:=x.2.2.2.2.2.2
abbrev _root_.Prod.e8 {A1 A2 A3 A4 A5 A6 A7 A8 A9:Type}(x:A1×A2×A3×A4×A5×A6×A7×A8×A9):A8:=x.2.2.2.2.2.2.2.1
abbrev _root_.Prod.t7 {A1 A2 A3 A4 A5 A6 A7 A8:Type}(x:A1×A2×A3×A4×A5×A6×A7×A8):A8:=x.2.2.2.2.2.2.2
abbrev _root_.Prod.e9 {A1 A2 A3 A4 A5 A6 A7 A8 A9 A10:Type}(x:A1×A2×A3×A4×A5×A6×A7×A8×A9×A10):A9:=x.2.2.2.2.2.2.2.2.1
abbrev _root_.Prod.t8 {A1 A2 A3 A4 A5 A6 A7 A8 A9:Type}(x:A1×A2×A3×A4×A5×A6×A7×A8×A9):A9:=x.2.2.2.2.2.2.2.2
abbrev _root_.Prod.e10 {A1 A2 A3 A4 A5 A6 A7 A8 A9 A10 A11:Type}(x:A1×A2×A3×A4×A5×A6×A7×A8×A9×A10×A11):A10:=x.2.2.2.2.2.2.2.2.2.1
abbrev _root_.Prod.t9 {A1 A2 A3 A4 A5 A6 A7 A8 A9 A10:Type}(x:A1×A2×A3×A4×A5×A6×A7×A8×A9×A10):A10:=x.2.2.2.2.2.2.2.2.2
abbrev _root_.Prod.e11 {A1 A2 A3 A4 A5 A6 A7 A8 A9 A10 A11 A12:Type}(x:A1×A2×A3×A4×A5×A6×A7×A8×A9×A10×A11×A12):A11:=x.2.2.2.2.2.2.2.2.2.2.1
abbrev _root_.Prod.t10 {A1 A2 A3 A4 A5 A6 A7 A8 A9 A10 A11:Type}(x:A1×A2×A3×A4×A5×A6×A7×A8×A9×A10×A11):A11:=x.2.2.2.2.2.2.2.2.2.2
abbrev _root_.Prod.e12 {A1 A2 A3 A4 A5 A6 A7 A8 A9 A10 A11 A12 A13:Type}(x:A1×A2×A3×A4×A5×A6×A7×A8×A9×A10×A11×A12×A13):A12:=x.2.2.2.2.2.2.2.2.2.2.2.1
abbrev _root_.Prod.t11 {A1 A2 A3 A4 A5 A6 A7 A8 A9 A10 A11 A12:Type}(x:A1×A2×A3×A4×A5×A6×A7×A8×A9×A10×A11×A12):A12:=x.2.2.2.2.2.2.2.2.2.2.2
abbrev _root_.Prod.e13 {A1 A2 A3 A4 A5 A6 A7 A8 A9 A10 A11 A12 A13 A14:Type}(x:A1×A2×A3×A4×A5×A6×A7×A8×A9×A10×A11×A12×A13×A14):A13:=x.2.2.2.2.2.2.2.2.2.2.2.2.1
abbrev _root_.Prod.t12 {A1 A2 A3 A4 A5 A6 A7 A8 A9 A10 A11 A12 A13:Type}(x:A1×A2×A3×A4×A5×A6×A7×A8×A9×A10×A11×A12×A13):A13:=x.2.2.2.2.2.2.2.2.2.2.2.2
abbrev _root_.Prod.e14 {A1 A2 A3 A4 A5 A6 A7 A8 A9 A10 A11 A12 A13 A14 A15:Type}(x:A1×A2×A3×A4×A5×A6×A7×A8×A9×A10×A11×A12×A13×A14×A15):A14:=x.2.2.2.2.2.2.2.2.2.2.2.2.2.1
abbrev _root_.Prod.t13 {A1 A2 A3 A4 A5 A6 A7 A8 A9 A10 A11 A12 A13 A14:Type}(x:A1×A2×A3×A4×A5×A6×A7×A8×A9×A10×A11×A12×A13×A14):A14:=x.2.2.2.2.2.2.2.2.2.2.2.2.2
abbrev _root_.Prod.e15 {A1 A2 A3 A4 A5 A6 A7 A8 A9 A10 A11 A12 A13 A14 A15 A16:Type}(x:A1×A2×A3×A4×A5×A6×A7×A8×A9×A10×A11×A12×A13×A14×A15×A16):A15:=x.2.2.2.2.2.2.2.2.2.2.2.2.2.2.1
abbrev _root_.Prod.t14 {A1 A2 A3 A4 A5 A6 A7 A8 A9 A10 A11 A12 A13 A14 A15:Type}(x:A1×A2×A3×A4×A5×A6×A7×A8×A9×A10×A11×A12×A13×A14×A15):A15:=x.2.2.2.2.2.2.2.2.2.2.2.2.2.2
abbrev _root_.Prod.t15 {A1 A2 A3 A4 A5 A6 A7 A8 A9 A10 A11 A12 A13 A14 A15 A16:Type}(x:A1×A2×A3×A4×A5×A6×A7×A8×A9×A10×A11×A12×A13×A14×A15×A16):A16:=x.2.2.2.2.2.2.2.2.2.2.2.2.2.2.2
abbrev _root_.Prod.t18 {A1 A2 A3 A4 A5 A6 A7 A8 A9 A10 A11 A12 A13 A14 A15 A16 A17 A18 A19:Type}(x:A1×A2×A3×A4×A5×A6×A7×A8×A9×A10×A11×A12×A13×A14×A15×A16×A17×A18×A19):A19:=x.2.2.2.2.2.2.2.2.2.2.2.2.2.2.2.2.2.2
abbrev _root_.Prod.t19 {A1 A2 A3 A4 A5 A6 A7 A8 A9 A10 A11 A12 A13 A14 A15 A16 A17 A18 A19 A20:Type}(x:A1×A2×A3×A4×A5×A6×A7×A8×A9×A10×A11×A12×A13×A14×A15×A16×A17×A18×A19×A20):A20:=x.2.2.2.2.2.2.2.2.2.2.2.2.2.2.2.2.2.2.2
abbrev ad (g:Nat):Option Addr:=some ⟨g,0,none⟩
abbrev D.p (g:Nat):D:= .v (.pointer (some ⟨g,0,none⟩))
abbrev D.o (g i:Nat):D:= .v (.pointer (some ⟨g,i,none⟩))
abbrev D.i (x:Int):D:= .v (.int .i64 x)
abbrev D.w (x:Int):D:= .v (.int .u64 x)
abbrev D.b (x:Bool):D:= .v (.bool x)
abbrev D.s (A:Option Addr)(n c:Nat):D:= .v (.slice A n c)
abbrev D.q {α:Type}(t:Ty α)(A:Option Addr)(c:Nat)(xs:List α):D:= .sl A xs.length c (RdS t A xs)
abbrev Seg.i (x:Int):Seg:= .one (.int .i64 x)
abbrev Seg.w (x:Int):Seg:= .one (.int .u64 x)
abbrev Seg.b (x:Bool):Seg:= .one (.bool x)
abbrev Seg.s (A:Option Addr)(n c:Nat):Seg:= .one (.slice A n c)
abbrev Seg.q {α:Type}(t:Ty α)(A:Option Addr)(c:Nat)(xs:List α):Seg:= .sl A xs.length c (RdS t A xs)
abbrev Seg.w4 (x:List Int):Seg:= .ints .u64 x 4
abbrev Seg.b20 (x:List Int):Seg:= .ints .u8 x 20
abbrev D.a4 (x:List Int):D:= .agg [.ints .u64 x 4]
abbrev z20:List Int:=[0,0,0,0,0,0,0,0,0,0,0,0,0,0,0,0,0,0,0,0]
abbrev z32:List Int:=[0,0,0,0,0,0,0,0,0,0,0,0,0,0,0,0,0,0,0,0,0,0,0,0,0,0,0,0,0,0,0,0]
abbrev yi:Ty Int:= .int .i64
abbrev yb:Ty Int:= .int .u8
theorem Pull.h {T:List Res}{r:Res}:Pull (r::T) r T:= .here
theorem Pull.h1 {T:List Res}{r x1:Res}:Pull (x1::r::T) r (x1::T):= .there .h
theorem Pull.h2 {T:List Res}{r x1 x2:Res}:Pull (x1::x2::r::T) r (x1::x2::T):= .there .h1
theorem Pull.h3 {T:List Res}{r x1 x2 x3:Res}:Pull (x1::x2::x3::r::T) r (x1::x2::x3::T):= .there .h2
theorem Pull.h4 {T:List Res}{r x1 x2 x3 x4:Res}:Pull (x1::x2::x3::x4::r::T) r (x1::x2::x3::x4::T):= .there .h3
theorem Pull.h5 {T:List Res}{r x1 x2 x3 x4 x5:Res}:Pull (x1::x2::x3::x4::x5::r::T) r (x1::x2::x3::x4::x5::T):= .there .h4
theorem Pull.h6 {T:List Res}{r x1 x2 x3 x4 x5 x6:Res}:Pull (x1::x2::x3::x4::x5::x6::r::T) r (x1::x2::x3::x4::x5::x6::T):= .there .h5
theorem Pull.h7 {T:List Res}{r x1 x2 x3 x4 x5 x6 x7:Res}:Pull (x1::x2::x3::x4::x5::x6::x7::r::T) r (x1::x2::x3::x4::x5::x6::x7::T):= .there .h6
theorem Pull.h8 {T:List Res}{r x1 x2 x3 x4 x5 x6 x7 x8:Res}:Pull (x1::x2::x3::x4::x5::x6::x7::x8::r::T) r (x1::x2::x3::x4::x5::x6::x7::x8::T):= .there .h7
theorem Pull.h9 {T:List Res}{r x1 x2 x3 x4 x5 x6 x7 x8 x9:Res}:Pull (x1::x2::x3::x4::x5::x6::x7::x8::x9::r::T) r (x1::x2::x3::x4::x5::x6::x7::x8::x9::T):= .there .h8
theorem Pull.h10 {T:List Res}{r x1 x2 x3 x4 x5 x6 x7 x8 x9 x10:Res}:Pull (x1::x2::x3::x4::x5::x6::x7::x8::x9::x10::r::T) r (x1::x2::x3::x4::x5::x6::x7::x8::x9::x10::T):= .there .h9
theorem Pull.h11 {T:List Res}{r x1 x2 x3 x4 x5 x6 x7 x8 x9 x10 x11:Res}:Pull (x1::x2::x3::x4::x5::x6::x7::x8::x9::x10::x11::r::T) r (x1::x2::x3::x4::x5::x6::x7::x8::x9::x10::x11::T):= .there .h10
theorem Pull.h12 {T:List Res}{r x1 x2 x3 x4 x5 x6 x7 x8 x9 x10 x11 x12:Res}:Pull (x1::x2::x3::x4::x5::x6::x7::x8::x9::x10::x11::x12::r::T) r (x1::x2::x3::x4::x5::x6::x7::x8::x9::x10::x11::x12::T):= .there .h11
theorem Pull.h13 {T:List Res}{r x1 x2 x3 x4 x5 x6 x7 x8 x9 x10 x11 x12 x13:Res}:Pull (x1::x2::x3::x4::x5::x6::x7::x8::x9::x10::x11::x12::x13::r::T) r (x1::x2::x3::x4::x5::x6::x7::x8::x9::x10::x11::x12::x13::T):= .there .h12
theorem Pull.h14 {T:List Res}{r x1 x2 x3 x4 x5 x6 x7 x8 x9 x10 x11 x12 x13 x14:Res}:Pull (x1::x2::x3::x4::x5::x6::x7::x8::x9::x10::x11::x12::x13::x14::r::T) r (x1::x2::x3::x4::x5::x6::x7::x8::x9::x10::x11::x12::x13::x14::T):= .there .h13
theorem Pull.h15 {T:List Res}{r x1 x2 x3 x4 x5 x6 x7 x8 x9 x10 x11 x12 x13 x14 x15:Res}:Pull (x1::x2::x3::x4::x5::x6::x7::x8::x9::x10::x11::x12::x13::x14::x15::r::T) r (x1::x2::x3::x4::x5::x6::x7::x8::x9::x10::x11::x12::x13::x14::x15::T):= .there .h14
theorem Pull.h16 {T:List Res}{r x1 x2 x3 x4 x5 x6 x7 x8 x9 x10 x11 x12 x13 x14 x15 x16:Res}:Pull (x1::x2::x3::x4::x5::x6::x7::x8::x9::x10::x11::x12::x13::x14::x15::x16::r::T) r (x1::x2::x3::x4::x5::x6::x7::x8::x9::x10::x11::x12::x13::x14::x15::x16::T):= .there .h15
theorem Pull.h17 {T:List Res}{r x1 x2 x3 x4 x5 x6 x7 x8 x9 x10 x11 x12 x13 x14 x15 x16 x17:Res}:Pull (x1::x2::x3::x4::x5::x6::x7::x8::x9::x10::x11::x12::x13::x14::x15::x16::x17::r::T) r (x1::x2::x3::x4::x5::x6::x7::x8::x9::x10::x11::x12::x13::x14::x15::x16::x17::T):= .there .h16
theorem Pull.h18 {T:List Res}{r x1 x2 x3 x4 x5 x6 x7 x8 x9 x10 x11 x12 x13 x14 x15 x16 x17 x18:Res}:Pull (x1::x2::x3::x4::x5::x6::x7::x8::x9::x10::x11::x12::x13::x14::x15::x16::x17::x18::r::T) r (x1::x2::x3::x4::x5::x6::x7::x8::x9::x10::x11::x12::x13::x14::x15::x16::x17::x18::T):= .there .h17
theorem Pull.h19 {T:List Res}{r x1 x2 x3 x4 x5 x6 x7 x8 x9 x10 x11 x12 x13 x14 x15 x16 x17 x18 x19:Res}:Pull (x1::x2::x3::x4::x5::x6::x7::x8::x9::x10::x11::x12::x13::x14::x15::x16::x17::x18::x19::r::T) r (x1::x2::x3::x4::x5::x6::x7::x8::x9::x10::x11::x12::x13::x14::x15::x16::x17::x18::x19::T):= .there .h18
theorem Pull.h20 {T:List Res}{r x1 x2 x3 x4 x5 x6 x7 x8 x9 x10 x11 x12 x13 x14 x15 x16 x17 x18 x19 x20:Res}:Pull (x1::x2::x3::x4::x5::x6::x7::x8::x9::x10::x11::x12::x13::x14::x15::x16::x17::x18::x19::x20::r::T) r (x1::x2::x3::x4::x5::x6::x7::x8::x9::x10::x11::x12::x13::x14::x15::x16::x17::x18::x19::x20::T):= .there .h19
theorem Sel.c0 {T H':List Res}{r:Res}(k:Sel (T) H'):Sel (r::T) (r::H'):= .cons .h k
theorem Sel.c1 {T H':List Res}{r x1:Res}(k:Sel (x1::T) H'):Sel (x1::r::T) (r::H'):= .cons .h1 k
theorem Sel.c2 {T H':List Res}{r x1 x2:Res}(k:Sel (x1::x2::T) H'):Sel (x1::x2::r::T) (r::H'):= .cons .h2 k
theorem Sel.c3 {T H':List Res}{r x1 x2 x3:Res}(k:Sel (x1::x2::x3::T) H'):Sel (x1::x2::x3::r::T) (r::H'):= .cons .h3 k
theorem Sel.c4 {T H':List Res}{r x1 x2 x3 x4:Res}(k:Sel (x1::x2::x3::x4::T) H'):Sel (x1::x2::x3::x4::r::T) (r::H'):= .cons .h4 k
theorem Sel.c5 {T H':List Res}{r x1 x2 x3 x4 x5:Res}(k:Sel (x1::x2::x3::x4::x5::T) H'):Sel (x1::x2::x3::x4::x5::r::T) (r::H'):= .cons .h5 k
theorem Sel.c6 {T H':List Res}{r x1 x2 x3 x4 x5 x6:Res}(k:Sel (x1::x2::x3::x4::x5::x6::T) H'):Sel (x1::x2::x3::x4::x5::x6::r::T) (r::H'):= .cons .h6 k
theorem Sel.c7 {T H':List Res}{r x1 x2 x3 x4 x5 x6 x7:Res}(k:Sel (x1::x2::x3::x4::x5::x6::x7::T) H'):Sel (x1::x2::x3::x4::x5::x6::x7::r::T) (r::H'):= .cons .h7 k
theorem Sel.c8 {T H':List Res}{r x1 x2 x3 x4 x5 x6 x7 x8:Res}(k:Sel (x1::x2::x3::x4::x5::x6::x7::x8::T) H'):Sel (x1::x2::x3::x4::x5::x6::x7::x8::r::T) (r::H'):= .cons .h8 k
theorem Sel.c9 {T H':List Res}{r x1 x2 x3 x4 x5 x6 x7 x8 x9:Res}(k:Sel (x1::x2::x3::x4::x5::x6::x7::x8::x9::T) H'):Sel (x1::x2::x3::x4::x5::x6::x7::x8::x9::r::T) (r::H'):= .cons .h9 k
theorem Sel.c10 {T H':List Res}{r x1 x2 x3 x4 x5 x6 x7 x8 x9 x10:Res}(k:Sel (x1::x2::x3::x4::x5::x6::x7::x8::x9::x10::T) H'):Sel (x1::x2::x3::x4::x5::x6::x7::x8::x9::x10::r::T) (r::H'):= .cons .h10 k
theorem Sel.c11 {T H':List Res}{r x1 x2 x3 x4 x5 x6 x7 x8 x9 x10 x11:Res}(k:Sel (x1::x2::x3::x4::x5::x6::x7::x8::x9::x10::x11::T) H'):Sel (x1::x2::x3::x4::x5::x6::x7::x8::x9::x10::x11::r::T) (r::H'):= .cons .h11 k
theorem Sel.c12 {T H':List Res}{r x1 x2 x3 x4 x5 x6 x7 x8 x9 x10 x11 x12:Res}(k:Sel (x1::x2::x3::x4::x5::x6::x7::x8::x9::x10::x11::x12::T) H'):Sel (x1::x2::x3::x4::x5::x6::x7::x8::x9::x10::x11::x12::r::T) (r::H'):= .cons .h12 k
theorem Sel.c13 {T H':List Res}{r x1 x2 x3 x4 x5 x6 x7 x8 x9 x10 x11 x12 x13:Res}(k:Sel (x1::x2::x3::x4::x5::x6::x7::x8::x9::x10::x11::x12::x13::T) H'):Sel (x1::x2::x3::x4::x5::x6::x7::x8::x9::x10::x11::x12::x13::r::T) (r::H'):= .cons .h13 k
theorem Sel.c14 {T H':List Res}{r x1 x2 x3 x4 x5 x6 x7 x8 x9 x10 x11 x12 x13 x14:Res}(k:Sel (x1::x2::x3::x4::x5::x6::x7::x8::x9::x10::x11::x12::x13::x14::T) H'):Sel (x1::x2::x3::x4::x5::x6::x7::x8::x9::x10::x11::x12::x13::x14::r::T) (r::H'):= .cons .h14 k
theorem Sel.c15 {T H':List Res}{r x1 x2 x3 x4 x5 x6 x7 x8 x9 x10 x11 x12 x13 x14 x15:Res}(k:Sel (x1::x2::x3::x4::x5::x6::x7::x8::x9::x10::x11::x12::x13::x14::x15::T) H'):Sel (x1::x2::x3::x4::x5::x6::x7::x8::x9::x10::x11::x12::x13::x14::x15::r::T) (r::H'):= .cons .h15 k
theorem Sel.c16 {T H':List Res}{r x1 x2 x3 x4 x5 x6 x7 x8 x9 x10 x11 x12 x13 x14 x15 x16:Res}(k:Sel (x1::x2::x3::x4::x5::x6::x7::x8::x9::x10::x11::x12::x13::x14::x15::x16::T) H'):Sel (x1::x2::x3::x4::x5::x6::x7::x8::x9::x10::x11::x12::x13::x14::x15::x16::r::T) (r::H'):= .cons .h16 k
theorem Sel.c17 {T H':List Res}{r x1 x2 x3 x4 x5 x6 x7 x8 x9 x10 x11 x12 x13 x14 x15 x16 x17:Res}(k:Sel (x1::x2::x3::x4::x5::x6::x7::x8::x9::x10::x11::x12::x13::x14::x15::x16::x17::T) H'):Sel (x1::x2::x3::x4::x5::x6::x7::x8::x9::x10::x11::x12::x13::x14::x15::x16::x17::r::T) (r::H'):= .cons .h17 k
theorem Sel.c18 {T H':List Res}{r x1 x2 x3 x4 x5 x6 x7 x8 x9 x10 x11 x12 x13 x14 x15 x16 x17 x18:Res}(k:Sel (x1::x2::x3::x4::x5::x6::x7::x8::x9::x10::x11::x12::x13::x14::x15::x16::x17::x18::T) H'):Sel (x1::x2::x3::x4::x5::x6::x7::x8::x9::x10::x11::x12::x13::x14::x15::x16::x17::x18::r::T) (r::H'):= .cons .h18 k
theorem Sel.c19 {T H':List Res}{r x1 x2 x3 x4 x5 x6 x7 x8 x9 x10 x11 x12 x13 x14 x15 x16 x17 x18 x19:Res}(k:Sel (x1::x2::x3::x4::x5::x6::x7::x8::x9::x10::x11::x12::x13::x14::x15::x16::x17::x18::x19::T) H'):Sel (x1::x2::x3::x4::x5::x6::x7::x8::x9::x10::x11::x12::x13::x14::x15::x16::x17::x18::x19::r::T) (r::H'):= .cons .h19 k
theorem Sel.c20 {T H':List Res}{r x1 x2 x3 x4 x5 x6 x7 x8 x9 x10 x11 x12 x13 x14 x15 x16 x17 x18 x19 x20:Res}(k:Sel (x1::x2::x3::x4::x5::x6::x7::x8::x9::x10::x11::x12::x13::x14::x15::x16::x17::x18::x19::x20::T) H'):Sel (x1::x2::x3::x4::x5::x6::x7::x8::x9::x10::x11::x12::x13::x14::x15::x16::x17::x18::x19::x20::r::T) (r::H'):= .cons .h20 k
theorem Int_.h {k:IntKind}{xs ys:List Int}{n:Nat}{T:List Seg}:Int_ (.ints k xs n::T) 0 k xs n ys (.ints k ys n::T):= .here
theorem Foc.h {T:List Res}{r r':Res}:Foc (r::T) r r' (r'::T):= .here
theorem Foc.h1 {T:List Res}{r r' x1:Res}:Foc (x1::r::T) r r' (x1::r'::T):= .there .h
theorem Foc.h2 {T:List Res}{r r' x1 x2:Res}:Foc (x1::x2::r::T) r r' (x1::x2::r'::T):= .there .h1
theorem Foc.h3 {T:List Res}{r r' x1 x2 x3:Res}:Foc (x1::x2::x3::r::T) r r' (x1::x2::x3::r'::T):= .there .h2
theorem Foc.h4 {T:List Res}{r r' x1 x2 x3 x4:Res}:Foc (x1::x2::x3::x4::r::T) r r' (x1::x2::x3::x4::r'::T):= .there .h3
theorem Foc.h5 {T:List Res}{r r' x1 x2 x3 x4 x5:Res}:Foc (x1::x2::x3::x4::x5::r::T) r r' (x1::x2::x3::x4::x5::r'::T):= .there .h4
theorem Foc.h6 {T:List Res}{r r' x1 x2 x3 x4 x5 x6:Res}:Foc (x1::x2::x3::x4::x5::x6::r::T) r r' (x1::x2::x3::x4::x5::x6::r'::T):= .there .h5
theorem Foc.h7 {T:List Res}{r r' x1 x2 x3 x4 x5 x6 x7:Res}:Foc (x1::x2::x3::x4::x5::x6::x7::r::T) r r' (x1::x2::x3::x4::x5::x6::x7::r'::T):= .there .h6
theorem Foc.h8 {T:List Res}{r r' x1 x2 x3 x4 x5 x6 x7 x8:Res}:Foc (x1::x2::x3::x4::x5::x6::x7::x8::r::T) r r' (x1::x2::x3::x4::x5::x6::x7::x8::r'::T):= .there .h7
theorem Foc.h9 {T:List Res}{r r' x1 x2 x3 x4 x5 x6 x7 x8 x9:Res}:Foc (x1::x2::x3::x4::x5::x6::x7::x8::x9::r::T) r r' (x1::x2::x3::x4::x5::x6::x7::x8::x9::r'::T):= .there .h8
theorem Foc.h10 {T:List Res}{r r' x1 x2 x3 x4 x5 x6 x7 x8 x9 x10:Res}:Foc (x1::x2::x3::x4::x5::x6::x7::x8::x9::x10::r::T) r r' (x1::x2::x3::x4::x5::x6::x7::x8::x9::x10::r'::T):= .there .h9
theorem Foc.h11 {T:List Res}{r r' x1 x2 x3 x4 x5 x6 x7 x8 x9 x10 x11:Res}:Foc (x1::x2::x3::x4::x5::x6::x7::x8::x9::x10::x11::r::T) r r' (x1::x2::x3::x4::x5::x6::x7::x8::x9::x10::x11::r'::T):= .there .h10
theorem Foc.h12 {T:List Res}{r r' x1 x2 x3 x4 x5 x6 x7 x8 x9 x10 x11 x12:Res}:Foc (x1::x2::x3::x4::x5::x6::x7::x8::x9::x10::x11::x12::r::T) r r' (x1::x2::x3::x4::x5::x6::x7::x8::x9::x10::x11::x12::r'::T):= .there .h11
theorem Foc.h13 {T:List Res}{r r' x1 x2 x3 x4 x5 x6 x7 x8 x9 x10 x11 x12 x13:Res}:Foc (x1::x2::x3::x4::x5::x6::x7::x8::x9::x10::x11::x12::x13::r::T) r r' (x1::x2::x3::x4::x5::x6::x7::x8::x9::x10::x11::x12::x13::r'::T):= .there .h12
theorem Foc.h14 {T:List Res}{r r' x1 x2 x3 x4 x5 x6 x7 x8 x9 x10 x11 x12 x13 x14:Res}:Foc (x1::x2::x3::x4::x5::x6::x7::x8::x9::x10::x11::x12::x13::x14::r::T) r r' (x1::x2::x3::x4::x5::x6::x7::x8::x9::x10::x11::x12::x13::x14::r'::T):= .there .h13
theorem Foc.h15 {T:List Res}{r r' x1 x2 x3 x4 x5 x6 x7 x8 x9 x10 x11 x12 x13 x14 x15:Res}:Foc (x1::x2::x3::x4::x5::x6::x7::x8::x9::x10::x11::x12::x13::x14::x15::r::T) r r' (x1::x2::x3::x4::x5::x6::x7::x8::x9::x10::x11::x12::x13::x14::x15::r'::T):= .there .h14
theorem Foc.h16 {T:List Res}{r r' x1 x2 x3 x4 x5 x6 x7 x8 x9 x10 x11 x12 x13 x14 x15 x16:Res}:Foc (x1::x2::x3::x4::x5::x6::x7::x8::x9::x10::x11::x12::x13::x14::x15::x16::r::T) r r' (x1::x2::x3::x4::x5::x6::x7::x8::x9::x10::x11::x12::x13::x14::x15::x16::r'::T):= .there .h15
theorem Foc.h17 {T:List Res}{r r' x1 x2 x3 x4 x5 x6 x7 x8 x9 x10 x11 x12 x13 x14 x15 x16 x17:Res}:Foc (x1::x2::x3::x4::x5::x6::x7::x8::x9::x10::x11::x12::x13::x14::x15::x16::x17::r::T) r r' (x1::x2::x3::x4::x5::x6::x7::x8::x9::x10::x11::x12::x13::x14::x15::x16::x17::r'::T):= .there .h16
theorem Foc.h18 {T:List Res}{r r' x1 x2 x3 x4 x5 x6 x7 x8 x9 x10 x11 x12 x13 x14 x15 x16 x17 x18:Res}:Foc (x1::x2::x3::x4::x5::x6::x7::x8::x9::x10::x11::x12::x13::x14::x15::x16::x17::x18::r::T) r r' (x1::x2::x3::x4::x5::x6::x7::x8::x9::x10::x11::x12::x13::x14::x15::x16::x17::x18::r'::T):= .there .h17
theorem Foc.h19 {T:List Res}{r r' x1 x2 x3 x4 x5 x6 x7 x8 x9 x10 x11 x12 x13 x14 x15 x16 x17 x18 x19:Res}:Foc (x1::x2::x3::x4::x5::x6::x7::x8::x9::x10::x11::x12::x13::x14::x15::x16::x17::x18::x19::r::T) r r' (x1::x2::x3::x4::x5::x6::x7::x8::x9::x10::x11::x12::x13::x14::x15::x16::x17::x18::x19::r'::T):= .there .h18
theorem Foc.h20 {T:List Res}{r r' x1 x2 x3 x4 x5 x6 x7 x8 x9 x10 x11 x12 x13 x14 x15 x16 x17 x18 x19 x20:Res}:Foc (x1::x2::x3::x4::x5::x6::x7::x8::x9::x10::x11::x12::x13::x14::x15::x16::x17::x18::x19::x20::r::T) r r' (x1::x2::x3::x4::x5::x6::x7::x8::x9::x10::x11::x12::x13::x14::x15::x16::x17::x18::x19::x20::r'::T):= .there .h19
theorem Pulls.n {H:List Res}:Pulls [] H H:= .nil
theorem Pulls.c0 {L T Hr:List Res}{r:Res}(k:Pulls L (T) Hr):Pulls (r::L) (r::T) Hr:= .cons .h k
theorem Pulls.c1 {L T Hr:List Res}{r x1:Res}(k:Pulls L (x1::T) Hr):Pulls (r::L) (x1::r::T) Hr:= .cons .h1 k
theorem Pulls.c2 {L T Hr:List Res}{r x1 x2:Res}(k:Pulls L (x1::x2::T) Hr):Pulls (r::L) (x1::x2::r::T) Hr:= .cons .h2 k
theorem Pulls.c3 {L T Hr:List Res}{r x1 x2 x3:Res}(k:Pulls L (x1::x2::x3::T) Hr):Pulls (r::L) (x1::x2::x3::r::T) Hr:= .cons .h3 k
theorem Pulls.c4 {L T Hr:List Res}{r x1 x2 x3 x4:Res}(k:Pulls L (x1::x2::x3::x4::T) Hr):Pulls (r::L) (x1::x2::x3::x4::r::T) Hr:= .cons .h4 k
theorem Pulls.c5 {L T Hr:List Res}{r x1 x2 x3 x4 x5:Res}(k:Pulls L (x1::x2::x3::x4::x5::T) Hr):Pulls (r::L) (x1::x2::x3::x4::x5::r::T) Hr:= .cons .h5 k
theorem Pulls.c6 {L T Hr:List Res}{r x1 x2 x3 x4 x5 x6:Res}(k:Pulls L (x1::x2::x3::x4::x5::x6::T) Hr):Pulls (r::L) (x1::x2::x3::x4::x5::x6::r::T) Hr:= .cons .h6 k
theorem Pulls.c7 {L T Hr:List Res}{r x1 x2 x3 x4 x5 x6 x7:Res}(k:Pulls L (x1::x2::x3::x4::x5::x6::x7::T) Hr):Pulls (r::L) (x1::x2::x3::x4::x5::x6::x7::r::T) Hr:= .cons .h7 k
theorem Pulls.c8 {L T Hr:List Res}{r x1 x2 x3 x4 x5 x6 x7 x8:Res}(k:Pulls L (x1::x2::x3::x4::x5::x6::x7::x8::T) Hr):Pulls (r::L) (x1::x2::x3::x4::x5::x6::x7::x8::r::T) Hr:= .cons .h8 k
theorem Pulls.c9 {L T Hr:List Res}{r x1 x2 x3 x4 x5 x6 x7 x8 x9:Res}(k:Pulls L (x1::x2::x3::x4::x5::x6::x7::x8::x9::T) Hr):Pulls (r::L) (x1::x2::x3::x4::x5::x6::x7::x8::x9::r::T) Hr:= .cons .h9 k
theorem Pulls.c10 {L T Hr:List Res}{r x1 x2 x3 x4 x5 x6 x7 x8 x9 x10:Res}(k:Pulls L (x1::x2::x3::x4::x5::x6::x7::x8::x9::x10::T) Hr):Pulls (r::L) (x1::x2::x3::x4::x5::x6::x7::x8::x9::x10::r::T) Hr:= .cons .h10 k
theorem Pulls.c11 {L T Hr:List Res}{r x1 x2 x3 x4 x5 x6 x7 x8 x9 x10 x11:Res}(k:Pulls L (x1::x2::x3::x4::x5::x6::x7::x8::x9::x10::x11::T) Hr):Pulls (r::L) (x1::x2::x3::x4::x5::x6::x7::x8::x9::x10::x11::r::T) Hr:= .cons .h11 k
theorem Pulls.c12 {L T Hr:List Res}{r x1 x2 x3 x4 x5 x6 x7 x8 x9 x10 x11 x12:Res}(k:Pulls L (x1::x2::x3::x4::x5::x6::x7::x8::x9::x10::x11::x12::T) Hr):Pulls (r::L) (x1::x2::x3::x4::x5::x6::x7::x8::x9::x10::x11::x12::r::T) Hr:= .cons .h12 k
theorem Pulls.c13 {L T Hr:List Res}{r x1 x2 x3 x4 x5 x6 x7 x8 x9 x10 x11 x12 x13:Res}(k:Pulls L (x1::x2::x3::x4::x5::x6::x7::x8::x9::x10::x11::x12::x13::T) Hr):Pulls (r::L) (x1::x2::x3::x4::x5::x6::x7::x8::x9::x10::x11::x12::x13::r::T) Hr:= .cons .h13 k
theorem Pulls.c14 {L T Hr:List Res}{r x1 x2 x3 x4 x5 x6 x7 x8 x9 x10 x11 x12 x13 x14:Res}(k:Pulls L (x1::x2::x3::x4::x5::x6::x7::x8::x9::x10::x11::x12::x13::x14::T) Hr):Pulls (r::L) (x1::x2::x3::x4::x5::x6::x7::x8::x9::x10::x11::x12::x13::x14::r::T) Hr:= .cons .h14 k
theorem Pulls.c15 {L T Hr:List Res}{r x1 x2 x3 x4 x5 x6 x7 x8 x9 x10 x11 x12 x13 x14 x15:Res}(k:Pulls L (x1::x2::x3::x4::x5::x6::x7::x8::x9::x10::x11::x12::x13::x14::x15::T) Hr):Pulls (r::L) (x1::x2::x3::x4::x5::x6::x7::x8::x9::x10::x11::x12::x13::x14::x15::r::T) Hr:= .cons .h15 k
theorem Pulls.c16 {L T Hr:List Res}{r x1 x2 x3 x4 x5 x6 x7 x8 x9 x10 x11 x12 x13 x14 x15 x16:Res}(k:Pulls L (x1::x2::x3::x4::x5::x6::x7::x8::x9::x10::x11::x12::x13::x14::x15::x16::T) Hr):Pulls (r::L) (x1::x2::x3::x4::x5::x6::x7::x8::x9::x10::x11::x12::x13::x14::x15::x16::r::T) Hr:= .cons .h16 k
theorem Pulls.c17 {L T Hr:List Res}{r x1 x2 x3 x4 x5 x6 x7 x8 x9 x10 x11 x12 x13 x14 x15 x16 x17:Res}(k:Pulls L (x1::x2::x3::x4::x5::x6::x7::x8::x9::x10::x11::x12::x13::x14::x15::x16::x17::T) Hr):Pulls (r::L) (x1::x2::x3::x4::x5::x6::x7::x8::x9::x10::x11::x12::x13::x14::x15::x16::x17::r::T) Hr:= .cons .h17 k
theorem Pulls.c18 {L T Hr:List Res}{r x1 x2 x3 x4 x5 x6 x7 x8 x9 x10 x11 x12 x13 x14 x15 x16 x17 x18:Res}(k:Pulls L (x1::x2::x3::x4::x5::x6::x7::x8::x9::x10::x11::x12::x13::x14::x15::x16::x17::x18::T) Hr):Pulls (r::L) (x1::x2::x3::x4::x5::x6::x7::x8::x9::x10::x11::x12::x13::x14::x15::x16::x17::x18::r::T) Hr:= .cons .h18 k
theorem Pulls.c19 {L T Hr:List Res}{r x1 x2 x3 x4 x5 x6 x7 x8 x9 x10 x11 x12 x13 x14 x15 x16 x17 x18 x19:Res}(k:Pulls L (x1::x2::x3::x4::x5::x6::x7::x8::x9::x10::x11::x12::x13::x14::x15::x16::x17::x18::x19::T) Hr):Pulls (r::L) (x1::x2::x3::x4::x5::x6::x7::x8::x9::x10::x11::x12::x13::x14::x15::x16::x17::x18::x19::r::T) Hr:= .cons .h19 k
theorem Pulls.c20 {L T Hr:List Res}{r x1 x2 x3 x4 x5 x6 x7 x8 x9 x10 x11 x12 x13 x14 x15 x16 x17 x18 x19 x20:Res}(k:Pulls L (x1::x2::x3::x4::x5::x6::x7::x8::x9::x10::x11::x12::x13::x14::x15::x16::x17::x18::x19::x20::T) Hr):Pulls (r::L) (x1::x2::x3::x4::x5::x6::x7::x8::x9::x10::x11::x12::x13::x14::x15::x16::x17::x18::x19::x20::r::T) Hr:= .cons .h20 k
theorem Sel.n {H:List Res}:Sel H []:= .nil
section
variable {P:Program} {n:Nat} {m:Mem} {w0:Base} {l:List (Nat×D)} {H:List Res} {a:Act} {w:World}
theorem c_enterZ {f:FuncId}{fn:Func}{c:Code}{R:Ending→World→Prop}{ds:List D}{m0:Mem}{w1:World}(hok:okL m0 ds)(hm:Pre m0 H w1)(hf:P.funcs[f]?=some fn)(hb:fn.body=some c)(hn:fn.ntmps=n)(hle:Nat.ble ds.length n=true)
  (K:∀ b0,BX m0 w1 H=b0→∀ a,St n m0 b0 (numF 0 ds) H a w1→c.wp P (bodyPost P fn R) a w1):Calls P f (ds.map D.val).toArray w1 R :=
 c_enterX ds hf hb hn hle rfl hok hm K
theorem St.rt (S:St n m w0 l H a w){m0:Mem}{w1:World}{H0:List Res}(hb:BX m0 w1 H0=w0){d:D}(ok:d.ok m):RetX m0 H0 (fun _:Unit=>d) (fun _:Unit=>[]) w1 (.returned d.val) w :=
 S.retX (Hx:=[]) hb (fun _:Unit=>d) (fun _:Unit=>[]) () .nil ok
theorem St.sb (S:St n m w0 l H a w){l':List (Nat×D)}{H':List Res}(h:l'.map (fun p=>fnd l p.1)=l'.map (fun p=>some p.2))(hH:Sel H H'):St n m w0 l' H' a w:=S.sub (subR h) hH
end
theorem Cls.bk {P:Program}{n:Nat}{m m':Mem}{w0:Base}{l lq:List (Nat×D)}{H HS:List Res}{a:Act}{w w1:World}{Q:Exit→Act→World→Prop}(C:Cls m w0 lq HS)(hc:WP_ m w0 HS w1)(S:St n m' w0 l H a w)(hs:Sel H HS)(hle:LeM m m'){c:Bool}{R:Act→World→Prop}(h:WP_ m w0 HS w→R a w):wpList P #[] (toQ (fun a' w'=>(c=true→WP_ m w0 HS w')∧R a' w') (NoPanic Q)) [] a w :=
 h_back ⟨fun _=>C.again hc S hs hle,h (C.again hc S hs hle)⟩
section
variable {P:Program} {n:Nat} {m m':Mem} {w0:Base} {l lq:List (Nat×D)} {H HS:List Res} {a:Act} {w:World}
variable {ops:Array Oper} {Q:Exit→Act→World→Prop} {rest:List Oper} {ty:TypeId} {ps:String} {af:Array Edge}
def Sch.tk:Nat→Nat→Sch→Sch
 | _,0,r=>r
 | i,q+1,r=> .take i (Sch.tk (i+1) q r)
theorem c_hS {id:Nat}{lo:List Oper}(S:St n m w0 l H a w)(s:Sch)(T:Nat)(hs:Sel H HS)(hst:StayL HS)(lq:List (Nat×D))(hl:lq.map (fun p=>fnd l p.1)=lq.map (fun p=>some p.2))
  (hB:(P.follows .mixedOrders&&(Region.noSelect lo.toArray&&(s.top&&s.ok lo.toArray T lo.length (Array.replicate lo.length false))))=true)
  (h:∀ w,St n m w0 l H a w→Cls m w0 lq HS→WP_ m w0 HS w→LeM m m→wpH P lo.toArray (NoPanic Q) (WP_ m w0 HS) s a w):(Code.region id lo.toArray true).wp P Q a w:=by
 rw [Bool.and_eq_true] at hB
 exact c_heldS S s T HS hs hst lq (subR hl) hB.1 hB.2 h
theorem s_mv1 (S:St n m w0 l H a w){t1:Nat}{ty1:TypeId}{ps1:String}{af1:Array Edge}{x1:Operand}{d1:D}(h:(evo l x1,Nat.blt t1 n)=(some d1,true))(K:∀ a',St n m w0 ((t1,d1)::l) H a' w→wpList P ops Q rest a' w):wpList P ops Q (⟨some t1, .move x1,ty1,ps1,af1,none⟩::rest) a w:=by
 simp only [Prod.mk.injEq] at h
 obtain ⟨u1,v1⟩:=h
 exact s_move S u1 v1 fun a S=>K _ S
theorem s_mv2 (S:St n m w0 l H a w){t1:Nat}{ty1:TypeId}{ps1:String}{af1:Array Edge}{t2:Nat}{ty2:TypeId}{ps2:String}{af2:Array Edge}{x1 x2:Operand}{d1 d2:D}(h:(evo l x1,Nat.blt t1 n,evo ((t1,d1)::l) x2,Nat.blt t2 n)=(some d1,true,some d2,true))(K:∀ a',St n m w0 ((t2,d2)::(t1,d1)::l) H a' w→wpList P ops Q rest a' w):wpList P ops Q (⟨some t1, .move x1,ty1,ps1,af1,none⟩::⟨some t2, .move x2,ty2,ps2,af2,none⟩::rest) a w:=by
 simp only [Prod.mk.injEq] at h
 obtain ⟨u1,v1,u2,v2⟩:=h
 exact s_move S u1 v1 fun a S=>s_move S u2 v2 fun a S=>K _ S
theorem s_mv3 (S:St n m w0 l H a w){t1:Nat}{ty1:TypeId}{ps1:String}{af1:Array Edge}{t2:Nat}{ty2:TypeId}{ps2:String}{af2:Array Edge}{t3:Nat}{ty3:TypeId}{ps3:String}{af3:Array Edge}{x1 x2 x3:Operand}{d1 d2 d3:D}(h:(evo l x1,Nat.blt t1 n,evo ((t1,d1)::l) x2,Nat.blt t2 n,evo ((t2,d2)::(t1,d1)::l) x3,Nat.blt t3 n)=(some d1,true,some d2,true,some d3,true))(K:∀ a',St n m w0 ((t3,d3)::(t2,d2)::(t1,d1)::l) H a' w→wpList P ops Q rest a' w):wpList P ops Q (⟨some t1, .move x1,ty1,ps1,af1,none⟩::⟨some t2, .move x2,ty2,ps2,af2,none⟩::⟨some t3, .move x3,ty3,ps3,af3,none⟩::rest) a w:=by
 simp only [Prod.mk.injEq] at h
 obtain ⟨u1,v1,u2,v2,u3,v3⟩:=h
 exact s_move S u1 v1 fun a S=>s_move S u2 v2 fun a S=>s_move S u3 v3 fun a S=>K _ S
theorem s_mv4 (S:St n m w0 l H a w){t1:Nat}{ty1:TypeId}{ps1:String}{af1:Array Edge}{t2:Nat}{ty2:TypeId}{ps2:String}{af2:Array Edge}{t3:Nat}{ty3:TypeId}{ps3:String}{af3:Array Edge}{t4:Nat}{ty4:TypeId}{ps4:String}{af4:Array Edge}{x1 x2 x3 x4:Operand}{d1 d2 d3 d4:D}(h:(evo l x1,Nat.blt t1 n,evo ((t1,d1)::l) x2,Nat.blt t2 n,evo ((t2,d2)::(t1,d1)::l) x3,Nat.blt t3 n,evo ((t3,d3)::(t2,d2)::(t1,d1)::l) x4,Nat.blt t4 n)=(some d1,true,some d2,true,some d3,true,some d4,true))(K:∀ a',St n m w0 ((t4,d4)::(t3,d3)::(t2,d2)::(t1,d1)::l) H a' w→wpList P ops Q rest a' w):wpList P ops Q (⟨some t1, .move x1,ty1,ps1,af1,none⟩::⟨some t2, .move x2,ty2,ps2,af2,none⟩::⟨some t3, .move x3,ty3,ps3,af3,none⟩::⟨some t4, .move x4,ty4,ps4,af4,none⟩::rest) a w:=by
 simp only [Prod.mk.injEq] at h
 obtain ⟨u1,v1,u2,v2,u3,v3,u4,v4⟩:=h
 exact s_move S u1 v1 fun a S=>s_move S u2 v2 fun a S=>s_move S u3 v3 fun a S=>s_move S u4 v4 fun a S=>K _ S
theorem s_mv5 (S:St n m w0 l H a w){t1:Nat}{ty1:TypeId}{ps1:String}{af1:Array Edge}{t2:Nat}{ty2:TypeId}{ps2:String}{af2:Array Edge}{t3:Nat}{ty3:TypeId}{ps3:String}{af3:Array Edge}{t4:Nat}{ty4:TypeId}{ps4:String}{af4:Array Edge}{t5:Nat}{ty5:TypeId}{ps5:String}{af5:Array Edge}{x1 x2 x3 x4 x5:Operand}{d1 d2 d3 d4 d5:D}(h:(evo l x1,Nat.blt t1 n,evo ((t1,d1)::l) x2,Nat.blt t2 n,evo ((t2,d2)::(t1,d1)::l) x3,Nat.blt t3 n,evo ((t3,d3)::(t2,d2)::(t1,d1)::l) x4,Nat.blt t4 n,evo ((t4,d4)::(t3,d3)::(t2,d2)::(t1,d1)::l) x5,Nat.blt t5 n)=(some d1,true,some d2,true,some d3,true,some d4,true,some d5,true))(K:∀ a',St n m w0 ((t5,d5)::(t4,d4)::(t3,d3)::(t2,d2)::(t1,d1)::l) H a' w→wpList P ops Q rest a' w):wpList P ops Q (⟨some t1, .move x1,ty1,ps1,af1,none⟩::⟨some t2, .move x2,ty2,ps2,af2,none⟩::⟨some t3, .move x3,ty3,ps3,af3,none⟩::⟨some t4, .move x4,ty4,ps4,af4,none⟩::⟨some t5, .move x5,ty5,ps5,af5,none⟩::rest) a w:=by
 simp only [Prod.mk.injEq] at h
 obtain ⟨u1,v1,u2,v2,u3,v3,u4,v4,u5,v5⟩:=h
 exact s_move S u1 v1 fun a S=>s_move S u2 v2 fun a S=>s_move S u3 v3 fun a S=>s_move S u4 v4 fun a S=>s_move S u5 v5 fun a S=>K _ S
theorem s_as1 (S:St n m w0 l H a w){t1:Nat}{ty1:TypeId}{ps1:String}{af1:Array Edge}{x1:Operand}{d1:D}(h:(evo l x1,Nat.blt t1 n)=(some d1,true))(K:∀ a',St n m w0 ((t1,d1)::l) H a' w→wpList P ops Q rest a' w):wpList P ops Q (⟨some t1, .assign x1,ty1,ps1,af1,none⟩::rest) a w:=by
 simp only [Prod.mk.injEq] at h
 obtain ⟨u1,v1⟩:=h
 exact s_assign S u1 v1 fun a S=>K _ S
theorem s_as2 (S:St n m w0 l H a w){t1:Nat}{ty1:TypeId}{ps1:String}{af1:Array Edge}{t2:Nat}{ty2:TypeId}{ps2:String}{af2:Array Edge}{x1 x2:Operand}{d1 d2:D}(h:(evo l x1,Nat.blt t1 n,evo ((t1,d1)::l) x2,Nat.blt t2 n)=(some d1,true,some d2,true))(K:∀ a',St n m w0 ((t2,d2)::(t1,d1)::l) H a' w→wpList P ops Q rest a' w):wpList P ops Q (⟨some t1, .assign x1,ty1,ps1,af1,none⟩::⟨some t2, .assign x2,ty2,ps2,af2,none⟩::rest) a w:=by
 simp only [Prod.mk.injEq] at h
 obtain ⟨u1,v1,u2,v2⟩:=h
 exact s_assign S u1 v1 fun a S=>s_assign S u2 v2 fun a S=>K _ S
theorem s_bi (S:St n m w0 l H a w){t:Nat}{bo:BinOp}{xt yt:TypeId}{x y:Operand}{k:IntKind}{p q:Int}{v:Value}(h:(evo l x,evo l y,binI bo k p q,Nat.blt t n)=(some (.v (.int k p)),some (.v (.int k q)),some v,true))(K:∀ a',St n m w0 ((t, .v v)::l) H a' w→wpList P ops Q rest a' w):wpList P ops Q (⟨some t, .binOp bo xt x y yt,ty,ps,af,none⟩::rest) a w:=by
 simp only [Prod.mk.injEq] at h
 exact s_bin S h.1 h.2.1 h.2.2.1 h.2.2.2 K
theorem h_sk1 (S:St n m' w0 l H a w)(C:Cls m w0 lq HS){lo:List Oper}{r:Sch}{j:Nat}{want:Bool}{tj:Tmp}{d:D}{i1:Nat}{t1:Nat}{ty1:TypeId}{ps1:String}{af1:Array Edge}{op1:Op}(h:(lo[i1]?,(lo[j]?).bind (·.dst),fnd l tj,Nat.blt t1 n)=(some ⟨some t1,op1,ty1,ps1,af1,some (j,want)⟩,some tj,some d,true))(hb:d.val ≠ .bool want)(K:∀ a',St n m' w0 ((t1, .u)::l) H a' w→Cls m w0 ((t1, .u)::lq) HS→wpH P lo.toArray (NoPanic Q) (WP_ m w0 HS) r a' w):wpH P lo.toArray (NoPanic Q) (WP_ m w0 HS) (.take i1 r) a w:=by
 simp only [Prod.mk.injEq] at h
 obtain ⟨e1,hj,f1,b1⟩:=h
 exact h_skip S C e1 hj f1 hb b1 fun a S C=>K _ S C
theorem h_sk2 (S:St n m' w0 l H a w)(C:Cls m w0 lq HS){lo:List Oper}{r:Sch}{j:Nat}{want:Bool}{tj:Tmp}{d:D}{i1 i2:Nat}{t1:Nat}{ty1:TypeId}{ps1:String}{af1:Array Edge}{t2:Nat}{ty2:TypeId}{ps2:String}{af2:Array Edge}{op1 op2:Op}(h:(lo[i1]?,(lo[j]?).bind (·.dst),fnd l tj,Nat.blt t1 n,lo[i2]?,fnd ((t1, .u)::l) tj,Nat.blt t2 n)=(some ⟨some t1,op1,ty1,ps1,af1,some (j,want)⟩,some tj,some d,true,some ⟨some t2,op2,ty2,ps2,af2,some (j,want)⟩,some d,true))(hb:d.val ≠ .bool want)(K:∀ a',St n m' w0 ((t2, .u)::(t1, .u)::l) H a' w→Cls m w0 ((t2, .u)::(t1, .u)::lq) HS→wpH P lo.toArray (NoPanic Q) (WP_ m w0 HS) r a' w):wpH P lo.toArray (NoPanic Q) (WP_ m w0 HS) (.take i1 (.take i2 r)) a w:=by
 simp only [Prod.mk.injEq] at h
 obtain ⟨e1,hj,f1,b1,e2,f2,b2⟩:=h
 exact h_skip S C e1 hj f1 hb b1 fun a S C=>h_skip S C e2 hj f2 hb b2 fun a S C=>K _ S C
theorem h_sk4 (S:St n m' w0 l H a w)(C:Cls m w0 lq HS){lo:List Oper}{r:Sch}{j:Nat}{want:Bool}{tj:Tmp}{d:D}{i1 i2 i3 i4:Nat}{t1:Nat}{ty1:TypeId}{ps1:String}{af1:Array Edge}{t2:Nat}{ty2:TypeId}{ps2:String}{af2:Array Edge}{t3:Nat}{ty3:TypeId}{ps3:String}{af3:Array Edge}{t4:Nat}{ty4:TypeId}{ps4:String}{af4:Array Edge}{op1 op2 op3 op4:Op}(h:(lo[i1]?,(lo[j]?).bind (·.dst),fnd l tj,Nat.blt t1 n,lo[i2]?,fnd ((t1, .u)::l) tj,Nat.blt t2 n,lo[i3]?,fnd ((t2, .u)::(t1, .u)::l) tj,Nat.blt t3 n,lo[i4]?,fnd ((t3, .u)::(t2, .u)::(t1, .u)::l) tj,Nat.blt t4 n)=(some ⟨some t1,op1,ty1,ps1,af1,some (j,want)⟩,some tj,some d,true,some ⟨some t2,op2,ty2,ps2,af2,some (j,want)⟩,some d,true,some ⟨some t3,op3,ty3,ps3,af3,some (j,want)⟩,some d,true,some ⟨some t4,op4,ty4,ps4,af4,some (j,want)⟩,some d,true))(hb:d.val ≠ .bool want)(K:∀ a',St n m' w0 ((t4, .u)::(t3, .u)::(t2, .u)::(t1, .u)::l) H a' w→Cls m w0 ((t4, .u)::(t3, .u)::(t2, .u)::(t1, .u)::lq) HS→wpH P lo.toArray (NoPanic Q) (WP_ m w0 HS) r a' w):wpH P lo.toArray (NoPanic Q) (WP_ m w0 HS) (.take i1 (.take i2 (.take i3 (.take i4 r)))) a w:=by
 simp only [Prod.mk.injEq] at h
 obtain ⟨e1,hj,f1,b1,e2,f2,b2,e3,f3,b3,e4,f4,b4⟩:=h
 exact h_skip S C e1 hj f1 hb b1 fun a S C=>h_skip S C e2 hj f2 hb b2 fun a S C=>h_skip S C e3 hj f3 hb b3 fun a S C=>h_skip S C e4 hj f4 hb b4 fun a S C=>K _ S C
theorem h_sk8 (S:St n m' w0 l H a w)(C:Cls m w0 lq HS){lo:List Oper}{r:Sch}{j:Nat}{want:Bool}{tj:Tmp}{d:D}{i1 i2 i3 i4 i5 i6 i7 i8:Nat}{t1:Nat}{ty1:TypeId}{ps1:String}{af1:Array Edge}{t2:Nat}{ty2:TypeId}{ps2:String}{af2:Array Edge}{t3:Nat}{ty3:TypeId}{ps3:String}{af3:Array Edge}{t4:Nat}{ty4:TypeId}{ps4:String}{af4:Array Edge}{t5:Nat}{ty5:TypeId}{ps5:String}{af5:Array Edge}{t6:Nat}{ty6:TypeId}{ps6:String}{af6:Array Edge}{t7:Nat}{ty7:TypeId}{ps7:String}{af7:Array Edge}{t8:Nat}{ty8:TypeId}{ps8:String}{af8:Array Edge}{op1 op2 op3 op4 op5 op6 op7 op8:Op}(h:(lo[i1]?,(lo[j]?).bind (·.dst),fnd l tj,Nat.blt t1 n,lo[i2]?,fnd ((t1, .u)::l) tj,Nat.blt t2 n,lo[i3]?,fnd ((t2, .u)::(t1, .u)::l) tj,Nat.blt t3 n,lo[i4]?,fnd ((t3, .u)::(t2, .u)::(t1, .u)::l) tj,Nat.blt t4 n,lo[i5]?,fnd ((t4, .u)::(t3, .u)::(t2, .u)::(t1, .u)::l) tj,Nat.blt t5 n,lo[i6]?,fnd ((t5, .u)::(t4, .u)::(t3, .u)::(t2, .u)::(t1, .u)::l) tj,Nat.blt t6 n,lo[i7]?,fnd ((t6, .u)::(t5, .u)::(t4, .u)::(t3, .u)::(t2, .u)::(t1, .u)::l) tj,Nat.blt t7 n,lo[i8]?,fnd ((t7, .u)::(t6, .u)::(t5, .u)::(t4, .u)::(t3, .u)::(t2, .u)::(t1, .u)::l) tj,Nat.blt t8 n)=(some ⟨some t1,op1,ty1,ps1,af1,some (j,want)⟩,some tj,some d,true,some ⟨some t2,op2,ty2,ps2,af2,some (j,want)⟩,some d,true,some ⟨some t3,op3,ty3,ps3,af3,some (j,want)⟩,some d,true,some ⟨some t4,op4,ty4,ps4,af4,some (j,want)⟩,some d,true,some ⟨some t5,op5,ty5,ps5,af5,some (j,want)⟩,some d,true,some ⟨some t6,op6,ty6,ps6,af6,some (j,want)⟩,some d,true,some ⟨some t7,op7,ty7,ps7,af7,some (j,want)⟩,some d,true,some ⟨some t8,op8,ty8,ps8,af8,some (j,want)⟩,some d,true))(hb:d.val ≠ .bool want)(K:∀ a',St n m' w0 ((t8, .u)::(t7, .u)::(t6, .u)::(t5, .u)::(t4, .u)::(t3, .u)::(t2, .u)::(t1, .u)::l) H a' w→Cls m w0 ((t8, .u)::(t7, .u)::(t6, .u)::(t5, .u)::(t4, .u)::(t3, .u)::(t2, .u)::(t1, .u)::lq) HS→wpH P lo.toArray (NoPanic Q) (WP_ m w0 HS) r a' w):wpH P lo.toArray (NoPanic Q) (WP_ m w0 HS) (.take i1 (.take i2 (.take i3 (.take i4 (.take i5 (.take i6 (.take i7 (.take i8 r)))))))) a w:=by
 simp only [Prod.mk.injEq] at h
 obtain ⟨e1,hj,f1,b1,e2,f2,b2,e3,f3,b3,e4,f4,b4,e5,f5,b5,e6,f6,b6,e7,f7,b7,e8,f8,b8⟩:=h
 exact h_skip S C e1 hj f1 hb b1 fun a S C=>h_skip S C e2 hj f2 hb b2 fun a S C=>h_skip S C e3 hj f3 hb b3 fun a S C=>h_skip S C e4 hj f4 hb b4 fun a S C=>h_skip S C e5 hj f5 hb b5 fun a S C=>h_skip S C e6 hj f6 hb b6 fun a S C=>h_skip S C e7 hj f7 hb b7 fun a S C=>h_skip S C e8 hj f8 hb b8 fun a S C=>K _ S C
theorem h_mv1 (S:St n m' w0 l H a w)(C:Cls m w0 lq HS)(hw:WP_ m w0 HS w)(le:LeM m m'){lo:List Oper}{r:Sch}{i1:Nat}{t1:Nat}{ty1:TypeId}{ps1:String}{af1:Array Edge}{g1:Option (Nat×Bool)}{x1:Operand}{d1:D}(h:(lo[i1]?,evo lq x1,Nat.blt t1 n,lq.map (fun p=>fnd l p.1))=(some ⟨some t1, .move x1,ty1,ps1,af1,g1⟩,some d1,true,lq.map (fun p=>some p.2)))(hg1:GdOK lo l g1)(K:∀ a',St n m' w0 ((t1,d1)::l) H a' w→Cls m w0 ((t1,d1)::lq) HS→wpH P lo.toArray (NoPanic Q) (WP_ m w0 HS) r a' w):wpH P lo.toArray (NoPanic Q) (WP_ m w0 HS) (.take i1 r) a w:=by
 simp only [Prod.mk.injEq] at h
 obtain ⟨e1,f1,b1,s1⟩:=h
 exact h_move S C hw le (subR s1) f1 b1 e1 hg1 fun a S C=>K _ S C
theorem h_mv2 (S:St n m' w0 l H a w)(C:Cls m w0 lq HS)(hw:WP_ m w0 HS w)(le:LeM m m'){lo:List Oper}{r:Sch}{i1 i2:Nat}{t1:Nat}{ty1:TypeId}{ps1:String}{af1:Array Edge}{t2:Nat}{ty2:TypeId}{ps2:String}{af2:Array Edge}{g1 g2:Option (Nat×Bool)}{x1 x2:Operand}{d1 d2:D}(h:(lo[i1]?,evo lq x1,Nat.blt t1 n,lq.map (fun p=>fnd l p.1),lo[i2]?,evo ((t1,d1)::lq) x2,Nat.blt t2 n,((t1,d1)::lq).map (fun p=>fnd ((t1,d1)::l) p.1))=(some ⟨some t1, .move x1,ty1,ps1,af1,g1⟩,some d1,true,lq.map (fun p=>some p.2),some ⟨some t2, .move x2,ty2,ps2,af2,g2⟩,some d2,true,((t1,d1)::lq).map (fun p=>some p.2)))(hg1:GdOK lo l g1)(hg2:GdOK lo ((t1,d1)::l) g2)(K:∀ a',St n m' w0 ((t2,d2)::(t1,d1)::l) H a' w→Cls m w0 ((t2,d2)::(t1,d1)::lq) HS→wpH P lo.toArray (NoPanic Q) (WP_ m w0 HS) r a' w):wpH P lo.toArray (NoPanic Q) (WP_ m w0 HS) (.take i1 (.take i2 r)) a w:=by
 simp only [Prod.mk.injEq] at h
 obtain ⟨e1,f1,b1,s1,e2,f2,b2,s2⟩:=h
 exact h_move S C hw le (subR s1) f1 b1 e1 hg1 fun a S C=>h_move S C hw le (subR s2) f2 b2 e2 hg2 fun a S C=>K _ S C
theorem h_mv3 (S:St n m' w0 l H a w)(C:Cls m w0 lq HS)(hw:WP_ m w0 HS w)(le:LeM m m'){lo:List Oper}{r:Sch}{i1 i2 i3:Nat}{t1:Nat}{ty1:TypeId}{ps1:String}{af1:Array Edge}{t2:Nat}{ty2:TypeId}{ps2:String}{af2:Array Edge}{t3:Nat}{ty3:TypeId}{ps3:String}{af3:Array Edge}{g1 g2 g3:Option (Nat×Bool)}{x1 x2 x3:Operand}{d1 d2 d3:D}(h:(lo[i1]?,evo lq x1,Nat.blt t1 n,lq.map (fun p=>fnd l p.1),lo[i2]?,evo ((t1,d1)::lq) x2,Nat.blt t2 n,((t1,d1)::lq).map (fun p=>fnd ((t1,d1)::l) p.1),lo[i3]?,evo ((t2,d2)::(t1,d1)::lq) x3,Nat.blt t3 n,((t2,d2)::(t1,d1)::lq).map (fun p=>fnd ((t2,d2)::(t1,d1)::l) p.1))=(some ⟨some t1, .move x1,ty1,ps1,af1,g1⟩,some d1,true,lq.map (fun p=>some p.2),some ⟨some t2, .move x2,ty2,ps2,af2,g2⟩,some d2,true,((t1,d1)::lq).map (fun p=>some p.2),some ⟨some t3, .move x3,ty3,ps3,af3,g3⟩,some d3,true,((t2,d2)::(t1,d1)::lq).map (fun p=>some p.2)))(hg1:GdOK lo l g1)(hg2:GdOK lo ((t1,d1)::l) g2)(hg3:GdOK lo ((t2,d2)::(t1,d1)::l) g3)(K:∀ a',St n m' w0 ((t3,d3)::(t2,d2)::(t1,d1)::l) H a' w→Cls m w0 ((t3,d3)::(t2,d2)::(t1,d1)::lq) HS→wpH P lo.toArray (NoPanic Q) (WP_ m w0 HS) r a' w):wpH P lo.toArray (NoPanic Q) (WP_ m w0 HS) (.take i1 (.take i2 (.take i3 r))) a w:=by
 simp only [Prod.mk.injEq] at h
 obtain ⟨e1,f1,b1,s1,e2,f2,b2,s2,e3,f3,b3,s3⟩:=h
 exact h_move S C hw le (subR s1) f1 b1 e1 hg1 fun a S C=>h_move S C hw le (subR s2) f2 b2 e2 hg2 fun a S C=>h_move S C hw le (subR s3) f3 b3 e3 hg3 fun a S C=>K _ S C
theorem h_mv4 (S:St n m' w0 l H a w)(C:Cls m w0 lq HS)(hw:WP_ m w0 HS w)(le:LeM m m'){lo:List Oper}{r:Sch}{i1 i2 i3 i4:Nat}{t1:Nat}{ty1:TypeId}{ps1:String}{af1:Array Edge}{t2:Nat}{ty2:TypeId}{ps2:String}{af2:Array Edge}{t3:Nat}{ty3:TypeId}{ps3:String}{af3:Array Edge}{t4:Nat}{ty4:TypeId}{ps4:String}{af4:Array Edge}{g1 g2 g3 g4:Option (Nat×Bool)}{x1 x2 x3 x4:Operand}{d1 d2 d3 d4:D}(h:(lo[i1]?,evo lq x1,Nat.blt t1 n,lq.map (fun p=>fnd l p.1),lo[i2]?,evo ((t1,d1)::lq) x2,Nat.blt t2 n,((t1,d1)::lq).map (fun p=>fnd ((t1,d1)::l) p.1),lo[i3]?,evo ((t2,d2)::(t1,d1)::lq) x3,Nat.blt t3 n,((t2,d2)::(t1,d1)::lq).map (fun p=>fnd ((t2,d2)::(t1,d1)::l) p.1),lo[i4]?,evo ((t3,d3)::(t2,d2)::(t1,d1)::lq) x4,Nat.blt t4 n,((t3,d3)::(t2,d2)::(t1,d1)::lq).map (fun p=>fnd ((t3,d3)::(t2,d2)::(t1,d1)::l) p.1))=(some ⟨some t1, .move x1,ty1,ps1,af1,g1⟩,some d1,true,lq.map (fun p=>some p.2),some ⟨some t2, .move x2,ty2,ps2,af2,g2⟩,some d2,true,((t1,d1)::lq).map (fun p=>some p.2),some ⟨some t3, .move x3,ty3,ps3,af3,g3⟩,some d3,true,((t2,d2)::(t1,d1)::lq).map (fun p=>some p.2),some ⟨some t4, .move x4,ty4,ps4,af4,g4⟩,some d4,true,((t3,d3)::(t2,d2)::(t1,d1)::lq).map (fun p=>some p.2)))(hg1:GdOK lo l g1)(hg2:GdOK lo ((t1,d1)::l) g2)(hg3:GdOK lo ((t2,d2)::(t1,d1)::l) g3)(hg4:GdOK lo ((t3,d3)::(t2,d2)::(t1,d1)::l) g4)(K:∀ a',St n m' w0 ((t4,d4)::(t3,d3)::(t2,d2)::(t1,d1)::l) H a' w→Cls m w0 ((t4,d4)::(t3,d3)::(t2,d2)::(t1,d1)::lq) HS→wpH P lo.toArray (NoPanic Q) (WP_ m w0 HS) r a' w):wpH P lo.toArray (NoPanic Q) (WP_ m w0 HS) (.take i1 (.take i2 (.take i3 (.take i4 r)))) a w:=by
 simp only [Prod.mk.injEq] at h
 obtain ⟨e1,f1,b1,s1,e2,f2,b2,s2,e3,f3,b3,s3,e4,f4,b4,s4⟩:=h
 exact h_move S C hw le (subR s1) f1 b1 e1 hg1 fun a S C=>h_move S C hw le (subR s2) f2 b2 e2 hg2 fun a S C=>h_move S C hw le (subR s3) f3 b3 e3 hg3 fun a S C=>h_move S C hw le (subR s4) f4 b4 e4 hg4 fun a S C=>K _ S C
end
end GW

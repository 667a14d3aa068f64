import Derived.Test.YtdajnflppnlhiaaGreatProg
import Derived.Test.YtdajnflppnlhiaaGreatGWBrev
set_option linter.unusedVariables false
set_option linter.unusedSimpArgs false
set_option maxRecDepth 10000
set_option maxHeartbeats 4000000
namespace GW
open Go Go.RowKit Go.Proofs Go.Proofs.Tryz
noncomputable section
abbrev L71:Type:=(List Int)×Int×(List Int)×(List Int)×(List ((List Int)×(List Int)))
abbrev Y83:Ty ((List Int)×(List Int)):=(Ty.prod (Ty.arr .u64 4) (Ty.arr .u64 4))
abbrev Y71:Ty L71:=(Ty.prod (Ty.arr .u8 20) (Ty.prod (Ty.int .u64) (Ty.prod (Ty.arr .u64 4) (Ty.prod (Ty.slice (Ty.int .u8)) (Ty.slice Y83)))))
abbrev L46:Type:=Int×(List Int)×(List Int)×(List Int)×Int×(List Int)
abbrev Y46:Ty L46:=(Ty.prod (Ty.int .i64) (Ty.prod (Ty.arr .u8 20) (Ty.prod (Ty.arr .u64 4) (Ty.prod (Ty.arr .u64 4) (Ty.prod (Ty.int .u64) (Ty.slice (Ty.int .u8)))))))
theorem T71:tyI Tryz.prog 71=some (true,27):=by kernel_rfl
theorem I71_3:fieldI Tryz.prog 71 3=some (25,44):=by kernel_rfl
theorem T44:tyI Tryz.prog 44=some (false,1):=by kernel_rfl
theorem I71_4:fieldI Tryz.prog 71 4=some (26,69):=by kernel_rfl
theorem T69:tyI Tryz.prog 69=some (false,1):=by kernel_rfl
theorem N30:Fn_ Tryz.prog 30:=⟨_,func30,rfl,by decide⟩
theorem Z71:zeroI Tryz.prog 71=some (D.val (.agg [.b20 z20, .w 0, .w4 [0,0,0,0], .s none 0 0, .s none 0 0])):=by kernel_rfl
theorem T83:tyI Tryz.prog 83=some (true,8):=by kernel_rfl
theorem I83_1:fieldI Tryz.prog 83 1=some (4,43):=by kernel_rfl
theorem T43:tyI Tryz.prog 43=some (true,4):=by kernel_rfl
theorem T41:tyI Tryz.prog 41=some (false,1):=by kernel_rfl
theorem Q43:Tryz.prog.eqGuardType Tryz.prog.depth 43=false:=by kernel_rfl
theorem I83_0:fieldI Tryz.prog 83 0=some (0,43):=by kernel_rfl
theorem Z129:zeroI Tryz.prog 129=some (D.val (.agg [.ints .i64 z32 32])):=by kernel_rfl
theorem T129:tyI Tryz.prog 129=some (true,32):=by kernel_rfl
theorem T3:tyI Tryz.prog 3=some (false,1):=by kernel_rfl
theorem N79:Fn_ Tryz.prog 79:=⟨_,func79,rfl,by decide⟩
theorem N78:Fn_ Tryz.prog 78:=⟨_,func78,rfl,by decide⟩
theorem N71:Fn_ Tryz.prog 71:=⟨_,func71,rfl,by decide⟩
abbrev W1:Type:=L71
theorem N31:Fn_ Tryz.prog 31:=⟨_,func31,rfl,by decide⟩
theorem N7:Fn_ Tryz.prog 7:=⟨_,func7,rfl,by decide⟩
theorem P75:∀ w:World,((match Tryz.prog.underlying 75 with | some (.struct fs)=>fs | _=>(#[]:Array Field)).mapM fun (f:Field)=>(do pure (f.offset, ← Go.sizeOf f.type):Sem (Nat×Nat))).run Tryz.prog w = .ok #[(0,1)] w:=fun _=>by kernel_rfl
theorem Z75:zeroI Tryz.prog 75=some (D.val (.agg [.s none 0 0])):=by kernel_rfl
abbrev L110:Type:=L71×L71×Bool×Nat×Bool×Bool×Nat
abbrev YE110 (M1 M2:List Nat):Ty (L110):=(Ty.prod Y71 (Ty.prod Y71 (Ty.prod Ty.bool (Ty.prod (Ty.mid M1) (Ty.prod Ty.bool (Ty.prod Ty.bool (Ty.mid M2)))))))
theorem YS110_0 (M1 M2:List Nat)(g:Nat):SubT (YE110 M1 M2) (YE110 (M1++[g]) M2):=(subT_prod (SubT.refl _) (subT_prod (SubT.refl _) (subT_prod (SubT.refl _) (subT_prod (subT_mid M1 g) (subT_prod (SubT.refl _) (subT_prod (SubT.refl _) (SubT.refl _)))))))
theorem YS110_1 (M1 M2:List Nat)(g:Nat):SubT (YE110 M1 M2) (YE110 M1 (M2++[g])):=(subT_prod (SubT.refl _) (subT_prod (SubT.refl _) (subT_prod (SubT.refl _) (subT_prod (SubT.refl _) (subT_prod (SubT.refl _) (subT_prod (SubT.refl _) (subT_mid M2 g)))))))
abbrev L100:Type:=(List Int)×(List (List Int))×(List Int)
abbrev Y100:Ty L100:=(Ty.prod (Ty.arr .u8 20) (Ty.prod (Ty.slice (Ty.arr .u64 4)) (Ty.slice (Ty.int .u8))))
inductive Clo where
  | nil
  | c69 (x0:Option Nat)
  | c70 (x0:Option Nat) (x1:List Int)
  | c72 (x0:Bool) (x1:List Int) (x2:Nat) (x3:List Int)
  | c73 (x0:Int) (x1:Option Nat)
  | c75 (x0:List Int) (x1:Option Nat)
  | c76 (x0:List Int) (x1:Option Nat)
  | c77 (x0:Bool) (x1:Nat) (x2:Option Nat)
  | c83 (x0:Int) (x1:Unit)
  | c84 (x0:Unit) (x1:Int)
  | c85 (x0:Bool) (x1:Option Nat)
instance:Inhabited Clo:=⟨.nil⟩
def cA (c:List Addr)(i:Nat):Addr:=c.getD i ⟨0,0,none⟩
def cloV:Clo→List Addr→Value
  | .nil,_=> .nilFunc
  | .c69 _,c=> .func (.func 69) #[] #[.pointer (some (cA c 0))]
  | .c70 _ _,c=> .func (.func 70) #[] #[.pointer (some (cA c 0)), .pointer (some (cA c 1))]
  | .c72 _ _ _ _,c=> .func (.func 72) #[] #[.pointer (some (cA c 0)), .pointer (some (cA c 1)), .pointer (some (cA c 2)), .pointer (some (cA c 3))]
  | .c73 _ _,c=> .func (.func 73) #[] #[.pointer (some (cA c 0)), .pointer (some (cA c 1))]
  | .c75 _ _,c=> .func (.func 75) #[] #[.pointer (some (cA c 0)), .pointer (some (cA c 1))]
  | .c76 _ _,c=> .func (.func 76) #[] #[.pointer (some (cA c 0)), .pointer (some (cA c 1))]
  | .c77 _ _ _,c=> .func (.func 77) #[] #[.pointer (some (cA c 0)), .pointer (some (cA c 1)), .pointer (some (cA c 2))]
  | .c83 _ _,c=> .func (.func 83) #[] #[.pointer (some (cA c 0)), .pointer (some (cA c 1))]
  | .c84 _ _,c=> .func (.func 84) #[] #[.pointer (some (cA c 0)), .pointer (some (cA c 1))]
  | .c85 _ _,c=> .func (.func 85) #[] #[.pointer (some (cA c 0)), .pointer (some (cA c 1))]
def cloR (gs:Nat)(G M1 M2:List Nat):Clo→List Addr→Mem→Prop
  | .nil,_=>fun _=>True
  | .c69 x0,c=>fun m=>At (Ty.pid G) (cA c 0) x0 m∧True
  | .c70 x0 x1,c=>fun m=>At (Ty.pid G) (cA c 0) x0 m∧At (Ty.arr .u64 4) (cA c 1) x1 m∧True
  | .c72 x0 x1 x2 x3,c=>fun m=>At Ty.bool (cA c 0) x0 m∧At (Ty.arr .u64 4) (cA c 1) x1 m∧At (Ty.mid M1) (cA c 2) x2 m∧At (Ty.arr .u64 4) (cA c 3) x3 m∧True
  | .c73 x0 x1,c=>fun m=>At (Ty.int .u64) (cA c 0) x0 m∧At (Ty.pid G) (cA c 1) x1 m∧True
  | .c75 x0 x1,c=>fun m=>At (Ty.arr .u64 4) (cA c 0) x0 m∧At (Ty.pid G) (cA c 1) x1 m∧True
  | .c76 x0 x1,c=>fun m=>At (Ty.slice yb) (cA c 0) x0 m∧At (Ty.pid G) (cA c 1) x1 m∧True
  | .c77 x0 x1 x2,c=>fun m=>At Ty.bool (cA c 0) x0 m∧At (Ty.mid M1) (cA c 1) x1 m∧At (Ty.pid G) (cA c 2) x2 m∧True
  | .c83 x0 x1,c=>fun m=>At yi (cA c 0) x0 m∧At (Ty.own gs) (cA c 1) x1 m∧True
  | .c84 x0 x1,c=>fun m=>At (Ty.own gs) (cA c 0) x0 m∧At yi (cA c 1) x1 m∧True
  | .c85 x0 x1,c=>fun m=>At Ty.bool (cA c 0) x0 m∧At (Ty.pid G) (cA c 1) x1 m∧True
theorem cloM (gs:Nat)(G M1 M2:List Nat):∀ (x:Clo) (c:List Addr),Mono (cloR gs G M1 M2 x c)
  | .nil,_=>fun _ _ _ _=>trivial
  | .c69 _,c=>fun m m' hm h=>⟨At.mono _ _ _ m m' hm h.1,tv⟩
  | .c70 _ _,c=>fun m m' hm h=>⟨At.mono _ _ _ m m' hm h.1,At.mono _ _ _ m m' hm h.2.1,tv⟩
  | .c72 _ _ _ _,c=>fun m m' hm h=>⟨At.mono _ _ _ m m' hm h.1,At.mono _ _ _ m m' hm h.2.1,At.mono _ _ _ m m' hm h.2.2.1,At.mono _ _ _ m m' hm h.2.2.2.1,tv⟩
  | .c73 _ _,c=>fun m m' hm h=>⟨At.mono _ _ _ m m' hm h.1,At.mono _ _ _ m m' hm h.2.1,tv⟩
  | .c75 _ _,c=>fun m m' hm h=>⟨At.mono _ _ _ m m' hm h.1,At.mono _ _ _ m m' hm h.2.1,tv⟩
  | .c76 _ _,c=>fun m m' hm h=>⟨At.mono _ _ _ m m' hm h.1,At.mono _ _ _ m m' hm h.2.1,tv⟩
  | .c77 _ _ _,c=>fun m m' hm h=>⟨At.mono _ _ _ m m' hm h.1,At.mono _ _ _ m m' hm h.2.1,At.mono _ _ _ m m' hm h.2.2.1,tv⟩
  | .c83 _ _,c=>fun m m' hm h=>⟨At.mono _ _ _ m m' hm h.1,At.mono _ _ _ m m' hm h.2.1,tv⟩
  | .c84 _ _,c=>fun m m' hm h=>⟨At.mono _ _ _ m m' hm h.1,At.mono _ _ _ m m' hm h.2.1,tv⟩
  | .c85 _ _,c=>fun m m' hm h=>⟨At.mono _ _ _ m m' hm h.1,At.mono _ _ _ m m' hm h.2.1,tv⟩
abbrev YC (gs:Nat)(G M1 M2:List Nat):Ty Clo:=Ty.fnc cloV (cloR gs G M1 M2)
theorem cloS_0 (gs:Nat)(G M1 M2:List Nat)(g:Nat):∀ (x:Clo) (c:List Addr) (m:Mem),cloR gs G M1 M2 x c m→cloR gs (G++[g]) M1 M2 x c m
  | .nil,_,_,_=>trivial
  | .c69 _,c,m,h=>⟨(at_sub (subT_pid _ g) h.1),tv⟩
  | .c70 _ _,c,m,h=>⟨(at_sub (subT_pid _ g) h.1),h.2.1,tv⟩
  | .c72 _ _ _ _,c,m,h=>⟨h.1,h.2.1,h.2.2.1,h.2.2.2.1,tv⟩
  | .c73 _ _,c,m,h=>⟨h.1,(at_sub (subT_pid _ g) h.2.1),tv⟩
  | .c75 _ _,c,m,h=>⟨h.1,(at_sub (subT_pid _ g) h.2.1),tv⟩
  | .c76 _ _,c,m,h=>⟨h.1,(at_sub (subT_pid _ g) h.2.1),tv⟩
  | .c77 _ _ _,c,m,h=>⟨h.1,h.2.1,(at_sub (subT_pid _ g) h.2.2.1),tv⟩
  | .c83 _ _,c,m,h=>⟨h.1,h.2.1,tv⟩
  | .c84 _ _,c,m,h=>⟨h.1,h.2.1,tv⟩
  | .c85 _ _,c,m,h=>⟨h.1,(at_sub (subT_pid _ g) h.2.1),tv⟩
theorem YCs_0 (gs:Nat)(G M1 M2:List Nat)(g:Nat):SubT (YC gs G M1 M2) (YC gs (G++[g]) M1 M2):=subT_fnc (cloS_0 gs G M1 M2 g) (cloM _ _ _ _)
theorem cloS_1 (gs:Nat)(G M1 M2:List Nat)(g:Nat):∀ (x:Clo) (c:List Addr) (m:Mem),cloR gs G M1 M2 x c m→cloR gs G (M1++[g]) M2 x c m
  | .nil,_,_,_=>trivial
  | .c69 _,c,m,h=>⟨h.1,tv⟩
  | .c70 _ _,c,m,h=>⟨h.1,h.2.1,tv⟩
  | .c72 _ _ _ _,c,m,h=>⟨h.1,h.2.1,(at_sub (subT_mid _ g) h.2.2.1),h.2.2.2.1,tv⟩
  | .c73 _ _,c,m,h=>⟨h.1,h.2.1,tv⟩
  | .c75 _ _,c,m,h=>⟨h.1,h.2.1,tv⟩
  | .c76 _ _,c,m,h=>⟨h.1,h.2.1,tv⟩
  | .c77 _ _ _,c,m,h=>⟨h.1,(at_sub (subT_mid _ g) h.2.1),h.2.2.1,tv⟩
  | .c83 _ _,c,m,h=>⟨h.1,h.2.1,tv⟩
  | .c84 _ _,c,m,h=>⟨h.1,h.2.1,tv⟩
  | .c85 _ _,c,m,h=>⟨h.1,h.2.1,tv⟩
theorem YCs_1 (gs:Nat)(G M1 M2:List Nat)(g:Nat):SubT (YC gs G M1 M2) (YC gs G (M1++[g]) M2):=subT_fnc (cloS_1 gs G M1 M2 g) (cloM _ _ _ _)
theorem cloS_2 (gs:Nat)(G M1 M2:List Nat)(g:Nat):∀ (x:Clo) (c:List Addr) (m:Mem),cloR gs G M1 M2 x c m→cloR gs G M1 (M2++[g]) x c m
  | .nil,_,_,_=>trivial
  | .c69 _,c,m,h=>⟨h.1,tv⟩
  | .c70 _ _,c,m,h=>⟨h.1,h.2.1,tv⟩
  | .c72 _ _ _ _,c,m,h=>⟨h.1,h.2.1,h.2.2.1,h.2.2.2.1,tv⟩
  | .c73 _ _,c,m,h=>⟨h.1,h.2.1,tv⟩
  | .c75 _ _,c,m,h=>⟨h.1,h.2.1,tv⟩
  | .c76 _ _,c,m,h=>⟨h.1,h.2.1,tv⟩
  | .c77 _ _ _,c,m,h=>⟨h.1,h.2.1,h.2.2.1,tv⟩
  | .c83 _ _,c,m,h=>⟨h.1,h.2.1,tv⟩
  | .c84 _ _,c,m,h=>⟨h.1,h.2.1,tv⟩
  | .c85 _ _,c,m,h=>⟨h.1,h.2.1,tv⟩
theorem YCs_2 (gs:Nat)(G M1 M2:List Nat)(g:Nat):SubT (YC gs G M1 M2) (YC gs G M1 (M2++[g])):=subT_fnc (cloS_2 gs G M1 M2 g) (cloM _ _ _ _)
theorem P79:∀ w:World,((match Tryz.prog.underlying 79 with | some (.struct fs)=>fs | _=>(#[]:Array Field)).mapM fun (f:Field)=>(do pure (f.offset, ← Go.sizeOf f.type):Sem (Nat×Nat))).run Tryz.prog w = .ok #[(0,1),(1,1),(2,1),(3,1),(4,1),(5,1)] w:=fun _=>by kernel_rfl
theorem Z79:zeroI Tryz.prog 79=some (D.val (.agg [.one .nilIface, .one (.map none), .i 0, .s none 0 0, .s none 0 0, .s none 0 0])):=by kernel_rfl
abbrev W2:Type:=((List L71))×((List ((List Int)×Option Nat))×(List L110)×(List (List ((List Int)×(List Int))))×(List (List ((List Int)×Bool))))×Int×(List L100)×(List Clo)×(List (List Int))
abbrev W3:Type:=Nat×(Option Addr)×Nat×Nat×(List Nat)×(List Nat)×(List Nat)×(Option Addr)×Nat×Nat×(Option Addr)×Nat×Nat×(Option Addr)×Nat×Nat
abbrev MS1 (x:W2)(c:W3):List Res:=[Res.cells c.1 79 [.rf (.iface 75 (.agg (cellsOf [.sl c.2.1 (x.1).length c.2.2.1 (RdS Y71 c.2.1 x.1)]).toArray)) (IfR [.sl c.2.1 (x.1).length c.2.2.1 (RdS Y71 c.2.1 x.1)]), .one (.map (some c.2.2.2.1)), .one (.int .i64 x.2.2.1), .one (.slice c.2.2.2.2.2.2.2.1 c.2.2.2.2.2.2.2.2.1 c.2.2.2.2.2.2.2.2.2.1), .one (.slice c.2.2.2.2.2.2.2.2.2.2.1 c.2.2.2.2.2.2.2.2.2.2.2.1 c.2.2.2.2.2.2.2.2.2.2.2.2.1), .one (.slice c.2.2.2.2.2.2.2.2.2.2.2.2.2.1 c.2.2.2.2.2.2.2.2.2.2.2.2.2.2.1 c.2.2.2.2.2.2.2.2.2.2.2.2.2.2.2)],Res.map true (Ty.arr .u8 20) false (Ty.pid c.2.2.2.2.1) c.2.2.2.1 x.2.1.1,Res.fam (Res.struct (YE110 c.2.2.2.2.2.1 c.2.2.2.2.2.2.1) 110) (one_struct _ _) c.2.2.2.2.1 [] x.2.1.2.1,Res.fam (fun g_ kvs_=>Res.map true (Ty.arr .u64 4) true (Ty.arr .u64 4) g_ kvs_) (one_map true (Ty.arr .u64 4) true (Ty.arr .u64 4)) c.2.2.2.2.2.1 [] x.2.1.2.2.1,Res.fam (fun g_ kvs_=>Res.map true (Ty.arr .u64 4) false Ty.bool g_ kvs_) (one_map true (Ty.arr .u64 4) false Ty.bool) c.2.2.2.2.2.2.1 [] x.2.1.2.2.2,Res.row Y100 100 c.2.2.2.2.2.2.2.1 c.2.2.2.2.2.2.2.2.1 c.2.2.2.2.2.2.2.2.2.1 x.2.2.2.1,Res.row (YC c.1 c.2.2.2.2.1 c.2.2.2.2.2.1 c.2.2.2.2.2.2.1) 1 c.2.2.2.2.2.2.2.2.2.2.1 c.2.2.2.2.2.2.2.2.2.2.2.1 c.2.2.2.2.2.2.2.2.2.2.2.2.1 x.2.2.2.2.1,Res.row (Ty.arr .u8 20) 40 c.2.2.2.2.2.2.2.2.2.2.2.2.2.1 c.2.2.2.2.2.2.2.2.2.2.2.2.2.2.1 c.2.2.2.2.2.2.2.2.2.2.2.2.2.2.2 x.2.2.2.2.2]
theorem N9:Fn_ Tryz.prog 9:=⟨_,func9,rfl,by decide⟩
theorem T40:tyI Tryz.prog 40=some (true,20):=by kernel_rfl
theorem I79_1:fieldI Tryz.prog 79 1=some (1,76):=by kernel_rfl
theorem T76:tyI Tryz.prog 76=some (false,1):=by kernel_rfl
theorem T5:tyI Tryz.prog 5=some (false,1):=by kernel_rfl
theorem KT40:KeyT Tryz.prog 40 true (Ty.arr .u8 20):=keyT_arr underlying40 underlying5 T5 T40
theorem Z111:zeroI Tryz.prog 111=some (D.val (.v (.pointer none))):=by kernel_rfl
theorem I79_0:fieldI Tryz.prog 79 0=some (0,29):=by kernel_rfl
theorem T29:tyI Tryz.prog 29=some (false,1):=by kernel_rfl
theorem I75_0:fieldI Tryz.prog 75 0=some (0,22):=by kernel_rfl
theorem T22:tyI Tryz.prog 22=some (false,1):=by kernel_rfl
theorem I71_0:fieldI Tryz.prog 71 0=some (0,40):=by kernel_rfl
theorem Q40:Tryz.prog.eqGuardType Tryz.prog.depth 40=false:=by kernel_rfl
theorem P71:∀ w:World,((match Tryz.prog.underlying 71 with | some (.struct fs)=>fs | _=>(#[]:Array Field)).mapM fun (f:Field)=>(do pure (f.offset, ← Go.sizeOf f.type):Sem (Nat×Nat))).run Tryz.prog w = .ok #[(0,20),(20,1),(21,4),(25,1),(26,1)] w:=fun _=>by kernel_rfl
abbrev W4:Type:=(L71)×Bool
abbrev W5:Type:=(Option Addr)×Nat×(Option Addr)×Nat
theorem M75_Account:methI Tryz.prog 75 "Account" = some 146:=by kernel_rfl
theorem N146:Fn_ Tryz.prog 146:=⟨_,func146,rfl,by decide⟩
theorem I79_5:fieldI Tryz.prog 79 5=some (5,32):=by kernel_rfl
theorem T32:tyI Tryz.prog 32=some (false,1):=by kernel_rfl
theorem J40:appI Tryz.prog 40=some (20,20):=by kernel_rfl
theorem Z40:zeroI Tryz.prog 40=some (D.val (.agg [.b20 z20])):=by kernel_rfl
theorem P110:∀ w:World,((match Tryz.prog.underlying 110 with | some (.struct fs)=>fs | _=>(#[]:Array Field)).mapM fun (f:Field)=>(do pure (f.offset, ← Go.sizeOf f.type):Sem (Nat×Nat))).run Tryz.prog w = .ok #[(0,27),(27,27),(54,1),(55,1),(56,1),(57,1),(58,1)] w:=fun _=>by kernel_rfl
theorem Z110:zeroI Tryz.prog 110=some (D.val (.agg [.b20 z20, .w 0, .w4 [0,0,0,0], .s none 0 0, .s none 0 0, .b20 z20, .w 0, .w4 [0,0,0,0], .s none 0 0, .s none 0 0, .b false, .one (.map none), .b false, .b false, .one (.map none)])):=by kernel_rfl
abbrev W6:Type:=(Option Nat)×(Unit×((List ((List Int)×Option Nat))×(List L110)×(List (List ((List Int)×(List Int))))×(List (List ((List Int)×Bool))))×Unit×(List L100)×(List Clo)×(List (List Int)))
abbrev W7:Type:=Nat×(List Nat)×(List Nat)×(List Nat)×(Option Addr)×Nat×Nat×(Option Addr)×Nat×Nat×(Option Addr)×Nat×Nat
theorem N56:Fn_ Tryz.prog 56:=⟨_,func56,rfl,by decide⟩
theorem I110_3:fieldI Tryz.prog 110 3=some (55,107):=by kernel_rfl
theorem T107:tyI Tryz.prog 107=some (false,1):=by kernel_rfl
theorem Z107:zeroI Tryz.prog 107=some (D.val (.v (.map none))):=by kernel_rfl
theorem KT43:KeyT Tryz.prog 43 true (Ty.arr .u64 4):=keyT_arr underlying43 underlying41 T41 T43
theorem Z43:zeroI Tryz.prog 43=some (D.val (.a4 [0,0,0,0])):=by kernel_rfl
theorem Z4:zeroI Tryz.prog 4=some (D.val (.b false)):=by kernel_rfl
theorem T4:tyI Tryz.prog 4=some (false,1):=by kernel_rfl
theorem I79_4:fieldI Tryz.prog 79 4=some (4,77):=by kernel_rfl
theorem T77:tyI Tryz.prog 77=some (false,1):=by kernel_rfl
theorem J1:appI Tryz.prog 1=some (1,8):=by kernel_rfl
theorem Z1:zeroI Tryz.prog 1=some (D.val (.v .nilFunc)):=by kernel_rfl
abbrev W8:Type:=Unit×Unit×Unit×Unit×(List Clo)×Unit
theorem N68:Fn_ Tryz.prog 68:=⟨_,func68,rfl,by decide⟩
abbrev W9:Type:=Unit×((List ((List Int)×Option Nat))×(List L110)×(List (List ((List Int)×(List Int))))×(List (List ((List Int)×Bool))))×Unit×(List L100)×(List Clo)×(List (List Int))
theorem N32:Fn_ Tryz.prog 32:=⟨_,func32,rfl,by decide⟩
theorem N13:Fn_ Tryz.prog 13:=⟨_,func13,rfl,by decide⟩
theorem T1:tyI Tryz.prog 1=some (false,1):=by kernel_rfl
theorem T111:tyI Tryz.prog 111=some (false,1):=by kernel_rfl
theorem I110_5:fieldI Tryz.prog 110 5=some (57,4):=by kernel_rfl
abbrev W10:Type:=Unit×((List ((List Int)×Option Nat))×(List L110)×(List (List ((List Int)×(List Int))))×(List (List ((List Int)×Bool))))×Unit×Unit×Unit×Unit
abbrev W11:Type:=Nat×(List Nat)×(List Nat)×(List Nat)
theorem I110_6:fieldI Tryz.prog 110 6=some (58,108):=by kernel_rfl
theorem T108:tyI Tryz.prog 108=some (false,1):=by kernel_rfl
theorem I110_1:fieldI Tryz.prog 110 1=some (27,71):=by kernel_rfl
theorem I71_1:fieldI Tryz.prog 71 1=some (20,41):=by kernel_rfl
theorem I71_2:fieldI Tryz.prog 71 2=some (21,43):=by kernel_rfl
theorem I110_2:fieldI Tryz.prog 110 2=some (54,4):=by kernel_rfl
theorem T26:tyI Tryz.prog 26=some (false,1):=by kernel_rfl
theorem T2:tyI Tryz.prog 2=some (false,1):=by kernel_rfl
theorem I79_2:fieldI Tryz.prog 79 2=some (2,2):=by kernel_rfl
abbrev W12:Type:=Unit×Unit×Int×Unit×Unit×Unit
theorem I79_3:fieldI Tryz.prog 79 3=some (3,34):=by kernel_rfl
theorem T34:tyI Tryz.prog 34=some (false,1):=by kernel_rfl
theorem T100:tyI Tryz.prog 100=some (true,22):=by kernel_rfl
abbrev W13:Type:=Unit×Unit×Unit×(List L100)×Unit×Unit
theorem I110_4:fieldI Tryz.prog 110 4=some (56,4):=by kernel_rfl
abbrev W14:Type:=(Option Addr)×Nat×Nat×(List Nat)×(List Nat)×(List Nat)×(Option Addr)×Nat×Nat×(Option Addr)×Nat×Nat×(Option Addr)×Nat×Nat
theorem N69:Fn_ Tryz.prog 69:=⟨_,func69,rfl,by decide⟩
theorem N70:Fn_ Tryz.prog 70:=⟨_,func70,rfl,by decide⟩
theorem N72:Fn_ Tryz.prog 72:=⟨_,func72,rfl,by decide⟩
theorem N73:Fn_ Tryz.prog 73:=⟨_,func73,rfl,by decide⟩
theorem N75:Fn_ Tryz.prog 75:=⟨_,func75,rfl,by decide⟩
theorem N76:Fn_ Tryz.prog 76:=⟨_,func76,rfl,by decide⟩
theorem N77:Fn_ Tryz.prog 77:=⟨_,func77,rfl,by decide⟩
theorem N83:Fn_ Tryz.prog 83:=⟨_,func83,rfl,by decide⟩
theorem N84:Fn_ Tryz.prog 84:=⟨_,func84,rfl,by decide⟩
theorem N85:Fn_ Tryz.prog 85:=⟨_,func85,rfl,by decide⟩
abbrev W15:Type:=List ((List Int)×Option Nat)
abbrev W16:Type:=List (List ((List Int)×(List Int)))
abbrev W17:Type:=List (List ((List Int)×Bool))
theorem N14:Fn_ Tryz.prog 14:=⟨_,func14,rfl,by decide⟩
theorem I110_0:fieldI Tryz.prog 110 0=some (0,71):=by kernel_rfl
theorem N91:Fn_ Tryz.prog 91:=⟨_,func91,rfl,by decide⟩
theorem N90:Fn_ Tryz.prog 90:=⟨_,func90,rfl,by decide⟩
abbrev W18:Type:=List ((List Int)×(List Int))
theorem N89:Fn_ Tryz.prog 89:=⟨_,func89,rfl,by decide⟩
theorem N57:Fn_ Tryz.prog 57:=⟨_,func57,rfl,by decide⟩
abbrev W19:Type:=(List Int)×(Unit×((List ((List Int)×Option Nat))×(List L110)×(List (List ((List Int)×(List Int))))×(List (List ((List Int)×Bool))))×Unit×(List L100)×(List Clo)×(List (List Int)))
theorem N22:Fn_ Tryz.prog 22:=⟨_,func22,rfl,by decide⟩
theorem N21:Fn_ Tryz.prog 21:=⟨_,func21,rfl,by decide⟩
theorem N8:Fn_ Tryz.prog 8:=⟨_,func8,rfl,by decide⟩
theorem J5:appI Tryz.prog 5=some (1,1):=by kernel_rfl
theorem Z5:zeroI Tryz.prog 5=some (D.val (.v (.int .u8 0))):=by kernel_rfl
theorem N33:Fn_ Tryz.prog 33:=⟨_,func33,rfl,by decide⟩
theorem J83:appI Tryz.prog 83=some (8,64):=by kernel_rfl
theorem Z83:zeroI Tryz.prog 83=some (D.val (.agg [.w4 [0,0,0,0], .w4 [0,0,0,0]])):=by kernel_rfl
theorem N34:Fn_ Tryz.prog 34:=⟨_,func34,rfl,by decide⟩
theorem J71:appI Tryz.prog 71=some (27,112):=by kernel_rfl
theorem N10:Fn_ Tryz.prog 10:=⟨_,func10,rfl,by decide⟩
abbrev Y122:Ty (L71×Bool×Bool):=(Ty.prod Y71 (Ty.prod Ty.bool Ty.bool))
abbrev Y133:Ty ((List Int)×(List Int)):=(Ty.prod (Ty.arr .u8 20) (Ty.arr .u64 4))
inductive ST37 where
  | mk (u:(List (L71))×(List ((L71)×Bool×Bool))×(List (List Int))×(List ((List Int)×(List Int)))×Int×(List (L100))×Bool×(List ST37))
def ST37.un:ST37→(List (L71))×(List ((L71)×Bool×Bool))×(List (List Int))×(List ((List Int)×(List Int)))×Int×(List (L100))×Bool×(List ST37)
  | .mk u=>u
instance:Inhabited ST37:=⟨.mk default⟩
abbrev SU37 (T:Ty (List ST37)):Ty ((List (L71))×(List ((L71)×Bool×Bool))×(List (List Int))×(List ((List Int)×(List Int)))×Int×(List (L100))×Bool×(List ST37)):=(Ty.prod (Ty.slice (Ty.prod (Ty.arr .u8 20) (Ty.prod (Ty.int .u64) (Ty.prod (Ty.arr .u64 4) (Ty.prod (Ty.slice (Ty.int .u8)) (Ty.slice (Ty.prod (Ty.arr .u64 4) (Ty.arr .u64 4)))))))) (Ty.prod (Ty.slice (Ty.prod (Ty.prod (Ty.arr .u8 20) (Ty.prod (Ty.int .u64) (Ty.prod (Ty.arr .u64 4) (Ty.prod (Ty.slice (Ty.int .u8)) (Ty.slice (Ty.prod (Ty.arr .u64 4) (Ty.arr .u64 4))))))) (Ty.prod Ty.bool Ty.bool))) (Ty.prod (Ty.slice (Ty.arr .u8 20)) (Ty.prod (Ty.slice (Ty.prod (Ty.arr .u8 20) (Ty.arr .u64 4))) (Ty.prod (Ty.int .i64) (Ty.prod (Ty.slice (Ty.prod (Ty.arr .u8 20) (Ty.prod (Ty.slice (Ty.arr .u64 4)) (Ty.slice (Ty.int .u8))))) (Ty.prod Ty.bool T)))))))
theorem SH37:∀ T T':Ty (List ST37),SubT T T'→SubT (SU37 T) (SU37 T'):=fun _ _ h=>(subT_prod (SubT.refl _) (subT_prod (SubT.refl _) (subT_prod (SubT.refl _) (subT_prod (SubT.refl _) (subT_prod (SubT.refl _) (subT_prod (SubT.refl _) (subT_prod (SubT.refl _) h)))))))
def SR37:Option Addr→List ST37→Mem→Prop:=RS ST37.un SU37
abbrev SY37:Ty ST37:=Ty.iso ST37.un (SU37 (Ty.slR SR37))
theorem SE37 (A:Option Addr)(xs:List ST37):SR37 A xs=RdS SY37 A xs:=congrFun (congrFun (RS.eq SH37) A) xs
theorem SM37 (A:Option Addr)(xs:List ST37):Mono (SR37 A xs):=RS.mono _ _ _ _
theorem SD37 {A:Option Addr}{xs:List ST37}{m:Mem}(h:SR37 A xs m):RdS SY37 A xs m:=(congrFun (SE37 A xs) m).mp h
theorem SN37 {m:Mem}:Seg.ok m (Seg.sl none ([]:List ST37).length 0 (SR37 none ([]:List ST37))):=⟨Nat.le_refl _,Nat.zero_le _,by rw [SE37]; exact RdS.nil _ _ _,SM37 _ _⟩
theorem P37:∀ w:World,((match Tryz.prog.underlying 37 with | some (.struct fs)=>fs | _=>(#[]:Array Field)).mapM fun (f:Field)=>(do pure (f.offset, ← Go.sizeOf f.type):Sem (Nat×Nat))).run Tryz.prog w = .ok #[(0,1),(1,1),(2,1),(3,1),(4,1),(5,1),(6,1),(7,1)] w:=fun _=>by kernel_rfl
theorem Z37:zeroI Tryz.prog 37=some (D.val (.agg [.s none 0 0, .s none 0 0, .s none 0 0, .s none 0 0, .i 0, .s none 0 0, .b false, .s none 0 0])):=by kernel_rfl
theorem T37:tyI Tryz.prog 37=some (true,8):=by kernel_rfl
theorem T46:tyI Tryz.prog 46=some (true,31):=by kernel_rfl
theorem Z46:zeroI Tryz.prog 46=some (D.val (.agg [.i 0, .b20 z20, .w4 [0,0,0,0], .w4 [0,0,0,0], .w 0, .s none 0 0])):=by kernel_rfl
theorem I46_5:fieldI Tryz.prog 46 5=some (30,44):=by kernel_rfl
theorem N11:Fn_ Tryz.prog 11:=⟨_,func11,rfl,by decide⟩
theorem I46_0:fieldI Tryz.prog 46 0=some (0,3):=by kernel_rfl
theorem I46_1:fieldI Tryz.prog 46 1=some (1,40):=by kernel_rfl
theorem I46_4:fieldI Tryz.prog 46 4=some (29,41):=by kernel_rfl
theorem Z41:zeroI Tryz.prog 41=some (D.val (.w 0)):=by kernel_rfl
theorem N35:Fn_ Tryz.prog 35:=⟨_,func35,rfl,by decide⟩
theorem Z122:zeroI Tryz.prog 122=some (D.val (.agg [.b20 z20, .w 0, .w4 [0,0,0,0], .s none 0 0, .s none 0 0, .b false, .b false])):=by kernel_rfl
theorem I37_1:fieldI Tryz.prog 37 1=some (1,31):=by kernel_rfl
theorem T31:tyI Tryz.prog 31=some (false,1):=by kernel_rfl
theorem T122:tyI Tryz.prog 122=some (true,29):=by kernel_rfl
theorem I122_0:fieldI Tryz.prog 122 0=some (0,71):=by kernel_rfl
theorem I37_0:fieldI Tryz.prog 37 0=some (0,22):=by kernel_rfl
theorem N87:Fn_ Tryz.prog 87:=⟨_,func87,rfl,by decide⟩
theorem P122:∀ w:World,((match Tryz.prog.underlying 122 with | some (.struct fs)=>fs | _=>(#[]:Array Field)).mapM fun (f:Field)=>(do pure (f.offset, ← Go.sizeOf f.type):Sem (Nat×Nat))).run Tryz.prog w = .ok #[(0,27),(27,1),(28,1)] w:=fun _=>by kernel_rfl
abbrev W20:Type:=(L71)×Bool×Bool
theorem N64:Fn_ Tryz.prog 64:=⟨_,func64,rfl,by decide⟩
theorem I37_6:fieldI Tryz.prog 37 6=some (6,4):=by kernel_rfl
theorem J37:appI Tryz.prog 37=some (8,160):=by kernel_rfl
theorem I37_7:fieldI Tryz.prog 37 7=some (7,35):=by kernel_rfl
theorem T35:tyI Tryz.prog 35=some (false,1):=by kernel_rfl
abbrev W21:Type:=(Option Addr×Nat)×(Option Addr×Nat)×(Option Addr×Nat)×(Option Addr×Nat)×Unit×(Option Addr×Nat)×Unit×(Option Addr×Nat)
theorem N81:Fn_ Tryz.prog 81:=⟨_,func81,rfl,by decide⟩
theorem J122:appI Tryz.prog 122=some (29,120):=by kernel_rfl
theorem N74:Fn_ Tryz.prog 74:=⟨_,func74,rfl,by decide⟩
theorem N36:Fn_ Tryz.prog 36:=⟨_,func36,rfl,by decide⟩
theorem I46_3:fieldI Tryz.prog 46 3=some (25,43):=by kernel_rfl
theorem N37:Fn_ Tryz.prog 37:=⟨_,func37,rfl,by decide⟩
theorem N38:Fn_ Tryz.prog 38:=⟨_,func38,rfl,by decide⟩
theorem Z44:zeroI Tryz.prog 44=some (D.val (.s none 0 0)):=by kernel_rfl
theorem N39:Fn_ Tryz.prog 39:=⟨_,func39,rfl,by decide⟩
theorem N40:Fn_ Tryz.prog 40:=⟨_,func40,rfl,by decide⟩
theorem N41:Fn_ Tryz.prog 41:=⟨_,func41,rfl,by decide⟩
theorem I122_1:fieldI Tryz.prog 122 1=some (27,4):=by kernel_rfl
theorem N42:Fn_ Tryz.prog 42:=⟨_,func42,rfl,by decide⟩
theorem I46_2:fieldI Tryz.prog 46 2=some (21,43):=by kernel_rfl
theorem P83:∀ w:World,((match Tryz.prog.underlying 83 with | some (.struct fs)=>fs | _=>(#[]:Array Field)).mapM fun (f:Field)=>(do pure (f.offset, ← Go.sizeOf f.type):Sem (Nat×Nat))).run Tryz.prog w = .ok #[(0,4),(4,4)] w:=fun _=>by kernel_rfl
theorem N43:Fn_ Tryz.prog 43:=⟨_,func43,rfl,by decide⟩
theorem I37_2:fieldI Tryz.prog 37 2=some (2,32):=by kernel_rfl
theorem N80:Fn_ Tryz.prog 80:=⟨_,func80,rfl,by decide⟩
theorem N44:Fn_ Tryz.prog 44:=⟨_,func44,rfl,by decide⟩
abbrev W22:Type:=Bool×(Unit×((List ((List Int)×Option Nat))×(List L110)×(List (List ((List Int)×(List Int))))×(List (List ((List Int)×Bool))))×Unit×(List L100)×(List Clo)×(List (List Int)))
theorem N28:Fn_ Tryz.prog 28:=⟨_,func28,rfl,by decide⟩
theorem I37_3:fieldI Tryz.prog 37 3=some (3,33):=by kernel_rfl
theorem T33:tyI Tryz.prog 33=some (false,1):=by kernel_rfl
theorem T133:tyI Tryz.prog 133=some (true,24):=by kernel_rfl
theorem I133_0:fieldI Tryz.prog 133 0=some (0,40):=by kernel_rfl
theorem I133_1:fieldI Tryz.prog 133 1=some (20,43):=by kernel_rfl
theorem N82:Fn_ Tryz.prog 82:=⟨_,func82,rfl,by decide⟩
theorem J133:appI Tryz.prog 133=some (24,56):=by kernel_rfl
theorem Z133:zeroI Tryz.prog 133=some (D.val (.agg [.b20 z20, .w4 [0,0,0,0]])):=by kernel_rfl
theorem P133:∀ w:World,((match Tryz.prog.underlying 133 with | some (.struct fs)=>fs | _=>(#[]:Array Field)).mapM fun (f:Field)=>(do pure (f.offset, ← Go.sizeOf f.type):Sem (Nat×Nat))).run Tryz.prog w = .ok #[(0,20),(20,4)] w:=fun _=>by kernel_rfl
theorem N45:Fn_ Tryz.prog 45:=⟨_,func45,rfl,by decide⟩
theorem N29:Fn_ Tryz.prog 29:=⟨_,func29,rfl,by decide⟩
theorem Z2:zeroI Tryz.prog 2=some (D.val (.i 0)):=by kernel_rfl
abbrev W23:Type:=Unit×Unit×Int×Unit×(List Clo)×Unit
theorem N46:Fn_ Tryz.prog 46:=⟨_,func46,rfl,by decide⟩
theorem I37_4:fieldI Tryz.prog 37 4=some (4,2):=by kernel_rfl
theorem N47:Fn_ Tryz.prog 47:=⟨_,func47,rfl,by decide⟩
theorem J43:appI Tryz.prog 43=some (4,32):=by kernel_rfl
theorem P100:∀ w:World,((match Tryz.prog.underlying 100 with | some (.struct fs)=>fs | _=>(#[]:Array Field)).mapM fun (f:Field)=>(do pure (f.offset, ← Go.sizeOf f.type):Sem (Nat×Nat))).run Tryz.prog w = .ok #[(0,20),(20,1),(21,1)] w:=fun _=>by kernel_rfl
theorem Z100:zeroI Tryz.prog 100=some (D.val (.agg [.b20 z20, .s none 0 0, .s none 0 0])):=by kernel_rfl
theorem Z3:zeroI Tryz.prog 3=some (D.val (.i 0)):=by kernel_rfl
theorem I100_1:fieldI Tryz.prog 100 1=some (20,98):=by kernel_rfl
theorem T98:tyI Tryz.prog 98=some (false,1):=by kernel_rfl
theorem N92:Fn_ Tryz.prog 92:=⟨_,func92,rfl,by decide⟩
theorem I100_2:fieldI Tryz.prog 100 2=some (21,44):=by kernel_rfl
abbrev W24:Type:=L100
abbrev W25:Type:=(Option Addr)×Nat×Nat×(Option Addr)×Nat×Nat
theorem N58:Fn_ Tryz.prog 58:=⟨_,func58,rfl,by decide⟩
theorem J100:appI Tryz.prog 100=some (22,72):=by kernel_rfl
abbrev W26:Type:=Unit×Unit×Unit×(List L100)×(List Clo)×Unit
theorem N48:Fn_ Tryz.prog 48:=⟨_,func48,rfl,by decide⟩
theorem I37_5:fieldI Tryz.prog 37 5=some (5,34):=by kernel_rfl
theorem N49:Fn_ Tryz.prog 49:=⟨_,func49,rfl,by decide⟩
theorem N50:Fn_ Tryz.prog 50:=⟨_,func50,rfl,by decide⟩
theorem I122_2:fieldI Tryz.prog 122 2=some (28,4):=by kernel_rfl
theorem N51:Fn_ Tryz.prog 51:=⟨_,func51,rfl,by decide⟩
theorem J103:appI Tryz.prog 103=some (2,16):=by kernel_rfl
theorem Z103:zeroI Tryz.prog 103=some (D.val (.agg [.ints .i64 [0,0] 2])):=by kernel_rfl
theorem T103:tyI Tryz.prog 103=some (true,2):=by kernel_rfl
theorem N52:Fn_ Tryz.prog 52:=⟨_,func52,rfl,by decide⟩
abbrev W27:Type:=Bool×ST37×(List (List Int))×(((List L71))×((List ((List Int)×Option Nat))×(List L110)×(List (List ((List Int)×(List Int))))×(List (List ((List Int)×Bool))))×Int×(List L100)×(List Clo)×(List (List Int)))
abbrev W28:Type:=((Option Addr×Nat)×(Option Addr×Nat)×(Option Addr×Nat)×(Option Addr×Nat)×Unit×(Option Addr×Nat)×Unit×(Option Addr×Nat))×(Option Addr)×Nat×Nat×(Option Addr)×Nat×Nat×(List Nat)×(List Nat)×(List Nat)×(Option Addr)×Nat×Nat×(Option Addr)×Nat×Nat×(Option Addr)×Nat×Nat
abbrev W29:Type:=Int×(List Int)×(List Int)×(List Int)×Int×(List Int)
theorem N12:Fn_ Tryz.prog 12:=⟨_,func12,rfl,by decide⟩
theorem N23:Fn_ Tryz.prog 23:=⟨_,func23,rfl,by decide⟩
theorem N24:Fn_ Tryz.prog 24:=⟨_,func24,rfl,by decide⟩
theorem I100_0:fieldI Tryz.prog 100 0=some (0,40):=by kernel_rfl
theorem N53:Fn_ Tryz.prog 53:=⟨_,func53,rfl,by decide⟩
def txt0:ByteArray:=ByteArray.mk #[0,1,2,2,3,3,3,3,4,4,4,4,4,4,4,4,5,5,5,5,5,5,5,5,5,5,5,5,5,5,5,5,6,6,6,6,6,6,6,6,6,6,6,6,6,6,6,6,6,6,6,6,6,6,6,6,6,6,6,6,6,6,6,6,7,7,7,7,7,7,7,7,7,7,7,7,7,7,7,7,7,7,7,7,7,7,7,7,7,7,7,7,7,7,7,7,7,7,7,7,7,7,7,7,7,7,7,7,7,7,7,7,7,7,7,7,7,7,7,7,7,7,7,7,7,7,7,7,8,8,8,8,8,8,8,8,8,8,8,8,8,8,8,8,8,8,8,8,8,8,8,8,8,8,8,8,8,8,8,8,8,8,8,8,8,8,8,8,8,8,8,8,8,8,8,8,8,8,8,8,8,8,8,8,8,8,8,8,8,8,8,8,8,8,8,8,8,8,8,8,8,8,8,8,8,8,8,8,8,8,8,8,8,8,8,8,8,8,8,8,8,8,8,8,8,8,8,8,8,8,8,8,8,8,8,8,8,8,8,8,8,8,8,8,8,8,8,8,8,8,8,8,8,8,8,8]
theorem N111:Fn_ Tryz.prog 111:=⟨_,func111,rfl,by decide⟩
theorem N98:Fn_ Tryz.prog 98:=⟨_,func98,rfl,by decide⟩
theorem Z168:zeroI Tryz.prog 168=some (D.val (.w 0)):=by kernel_rfl
theorem T168:tyI Tryz.prog 168=some (false,1):=by kernel_rfl
theorem N122:Fn_ Tryz.prog 122:=⟨_,func122,rfl,by decide⟩
theorem N123:Fn_ Tryz.prog 123:=⟨_,func123,rfl,by decide⟩
theorem N94:Fn_ Tryz.prog 94:=⟨_,func94,rfl,by decide⟩
theorem N93:Fn_ Tryz.prog 93:=⟨_,func93,rfl,by decide⟩
abbrev W30:Type:=(L71)×(L71)×Bool×(List ((List Int)×(List Int)))×Bool×Bool×(List ((List Int)×Bool))
theorem N59:Fn_ Tryz.prog 59:=⟨_,func59,rfl,by decide⟩
theorem N95:Fn_ Tryz.prog 95:=⟨_,func95,rfl,by decide⟩
theorem E43:EqTy Tryz.prog 43 true (Ty.arr .u64 4) 3:=eqTy_arr underlying43 underlying41 T41 T43
theorem E83:EqTy Tryz.prog 83 true Y83 4:=eqTy_struct (fs:=[("Key",0,43),("Value",4,43)]) (by kernel_rfl) (by kernel_rfl) T83 (by kernel_rfl) (eqF_cons (nm := "Key") (E43.mono (by decide:3≤3)) (by decide) noints_agg (fun h=>by cases h) rfl (eqF_one (nm := "Value") (E43.mono (by decide:3≤3)) (by decide) noints_agg (fun h=>by cases h)))
theorem Q83:Tryz.prog.eqGuardType Tryz.prog.depth 83=false:=by kernel_rfl
theorem N96:Fn_ Tryz.prog 96:=⟨_,func96,rfl,by decide⟩
theorem N60:Fn_ Tryz.prog 60:=⟨_,func60,rfl,by decide⟩
abbrev W31:Type:=List ((List Int)×(Option Nat))
theorem X112:isCmp Tryz.prog 112:=⟨_,func112,by kernel_rfl,by kernel_rfl,by kernel_rfl,by kernel_rfl⟩
theorem N99:Fn_ Tryz.prog 99:=⟨_,func99,rfl,by decide⟩
theorem N63:Fn_ Tryz.prog 63:=⟨_,func63,rfl,by decide⟩
theorem N62:Fn_ Tryz.prog 62:=⟨_,func62,rfl,by decide⟩
theorem N61:Fn_ Tryz.prog 61:=⟨_,func61,rfl,by decide⟩
theorem N26:Fn_ Tryz.prog 26:=⟨_,func26,rfl,by decide⟩
theorem N86:Fn_ Tryz.prog 86:=⟨_,func86,rfl,by decide⟩
theorem N88:Fn_ Tryz.prog 88:=⟨_,func88,rfl,by decide⟩
theorem N55:Fn_ Tryz.prog 55:=⟨_,func55,rfl,by decide⟩
theorem N54:Fn_ Tryz.prog 54:=⟨_,func54,rfl,by decide⟩
theorem N15:Fn_ Tryz.prog 15:=⟨_,func15,rfl,by decide⟩
def Gd40:(List Int)→Prop:=fun xs=>xs.length=20∧∀ y∈xs,inK .u8 y
def Gd41:Int→Prop:=fun x=>inK .u64 x
def Gd43:(List Int)→Prop:=fun xs=>xs.length=4∧∀ y∈xs,inK .u64 y
def Gd5:Int→Prop:=fun x=>inK .u8 x
def Gd44:(List Int)→Prop:=fun xs=>(∀ y∈xs,Gd5 y)∧xs.length≤maxLen
def Gd83:((List Int)×(List Int))→Prop:=fun y=>Gd43 y.1∧(Gd43 y.2)
def Gd69:(List ((List Int)×(List Int)))→Prop:=fun xs=>(∀ y∈xs,Gd83 y)∧xs.length≤maxLen
def Gd71:L71→Prop:=fun y=>Gd40 y.1∧(Gd41 y.2.1∧(Gd43 y.2.2.1∧(Gd44 y.2.2.2.1∧(Gd69 y.2.2.2.2))))
def Gd22:(List L71)→Prop:=fun xs=>(∀ y∈xs,Gd71 y)∧xs.length≤maxLen
def Gd3:Int→Prop:=fun x=>inK .i64 x
def Gd46:L46→Prop:=fun y=>Gd3 y.1∧(Gd40 y.2.1∧(Gd43 y.2.2.1∧(Gd43 y.2.2.2.1∧(Gd41 y.2.2.2.2.1∧(Gd44 y.2.2.2.2.2)))))
def Gd23:(List L46)→Prop:=fun xs=>(∀ y∈xs,Gd46 y)∧xs.length≤maxLen
abbrev ff1_.Ty:Type:=(List L71)→Option Bool
def ff1_.Ctr (s:ff1_.Ty):Prop:=∀ {x1:List L71} {ch_0_0:Option Addr} {ch_0_1:Nat} {r:Bool} (h0:s x1=some r) {mi:Mem} {w0:World},CtrB Tryz.prog 30 [(.q Y71 ch_0_0 ch_0_1 x1)] [] (fun (ch:Unit)=>((.b r):D)) (fun (ch:Unit)=>[]) mi w0
def ff1_.j1:Option Bool:=some false
def ff1_.j2 (y1:Int)(rec1:Int→Option Bool)(y2:Bool):Option Bool:=if y2=true then (some true) else (rec1 (wr .i64 (y1+1)))
def ff1_.b1 (x1:List L71)(rec1:Int→Option Bool)(y1:Int):Option Bool:=if (decide (y1<((x1).length:Int)))=true then (if (0:Int)≤y1∧y1<((x1).length:Int) then (if (decide (3000<(((gt x1 y1).2.2.2.1).length:Int)))=true then (ff1_.j2 y1 rec1 true) else (ff1_.j2 y1 rec1 (decide (100<(((gt x1 y1).2.2.2.2).length:Int))))) else none) else ff1_.j1
def ff1_.l1 (x1:List L71):Nat→Int→Option Bool
  | 0,_=>none
  | q+1,y1=>ff1_.b1 x1 (ff1_.l1 x1 q) y1
def ff1_.f (k:Nat)(x1:List L71):Option Bool:=if (decide (50<((x1).length:Int)))=true then (some true) else (ff1_.l1 x1 k 0)
theorem ff1_.ok (k:Nat):ff1_.Ctr (ff1_.f k):=by
 intro x1 ch_0_0 ch_0_1 r h0 mi w0 ok hm
 delta ff1_.f at h0
 refine c_enterZ (n:=29) ok hm func30 rfl rfl rfl fun b0 hb a S=>c_region (s_as1 S rfl fun a S=>c_end (wp_seq (c_region (s_mv1 S rfl fun a S=>s_lenS S rfl underlying22 rfl fun a S=>s_bi S rfl fun a S=>c_end ?_))))
 rcases ite_of h0 with ⟨c1,h1⟩ | ⟨c1,h1⟩
 ·refine c_condT S rfl c1 (c_region (s_as1 S rfl fun a S=>c_end (wp_ret (x_thenR ?_))))
  obtain rfl:=sI h1
  exact b_ret1 (d:=(.b true)) S rfl rfl (S.rt hb)
 ·refine c_condF S rfl c1 (wp_skip (x_thenN (wp_seq_k fun K1 hK1=>?_)))
  have j1:∀ m a w,St 29 m b0 [] [] a w→ff1_.j1=some r→K1 a w:=by
   intro m a w S h0
   delta ff1_.j1 at h0
   refine hK1 a w (c_region (s_as1 S rfl fun a S=>c_end (wp_ret ?_)))
   obtain rfl:=sI h0
   exact b_ret1 (d:=(.b false)) S rfl rfl (S.rt hb)
  refine c_region (s_mv1 S rfl fun a S=>s_lenS S rfl underlying22 rfl fun a S=>s_mv1 S rfl fun a S=>c_end (wp_block ?_))
  refine c_loop (fun q1 a w=>∃ m y1,St 29 m b0 [(9,(.i y1)),(8,(.i ((x1).length:Int))),(0,(.q Y71 ch_0_0 ch_0_1 x1))] [] a w∧ff1_.l1 x1 q1 y1=some r) ?_ ?_ (k:=k) ⟨_,0,(S.sb rfl .nil),h1⟩
  ·rintro a w ⟨m,y1,S,h0⟩
   exact (nomatch (show (none:Option Bool)=some r from h0))
  ·clear S h1
   rintro q1 a w ⟨m,y1,S,h0⟩
   replace h0:ff1_.b1 x1 (ff1_.l1 x1 q1) y1=some r:=h0
   delta ff1_.b1 at h0
   refine c_region (s_bi S rfl fun a S=>c_end (wp_seq ?_))
   rcases ite_of h0 with ⟨c2,h1⟩ | ⟨c2,h1⟩
   ·refine c_condT S rfl c2 (wp_skip (x_thenN (wp_seq (wp_block (c_region (s_mv1 S rfl fun a S=>s_as1 S rfl fun a S=>c_end (wp_seq_k fun K2 hK2=>?_)))))))
    have j2:∀ m y2 a w,St 29 m b0 [(27,(.b y2)),(9,(.i y1)),(8,(.i ((x1).length:Int))),(0,(.q Y71 ch_0_0 ch_0_1 x1))] [] a w→ff1_.j2 y1 (ff1_.l1 x1 q1) y2=some r→K2 a w:=by
     intro m y2 a w S h0
     delta ff1_.j2 at h0
     refine hK2 a w ?_
     rcases ite_of h0 with ⟨c3,h1⟩ | ⟨c3,h1⟩
     ·refine c_condT S rfl c3 (c_region (s_as1 S rfl fun a S=>c_end (wp_ret (x_blockR (x_thenR (x_thenR (x_blockR (x_thenR ?_))))))))
      obtain rfl:=sI h1
      exact b_ret1 (d:=(.b true)) S rfl rfl (S.rt hb)
     ·refine c_condF S rfl c3 (wp_skip (x_blockN (x_thenN (c_region' (s_bi S rfl fun a S=>s_mv1 S rfl fun a S=>c_end' (x_thenN ?_))))))
      exact ⟨_,(wr .i64 (y1+1)),(S.sb rfl .nil),h1⟩
    refine c_region' (s_mv2 S rfl fun a S=>?_)
    obtain ⟨c4,h2⟩:=chk_of h1; clear h1
    refine s_iaddrS S rfl rfl rfl underlying22 T71 c4.1 c4.2 rfl fun p1 a S=>s_faddrP S (tF:=(Ty.slice yb)) (y:=(gt x1 y1).e4) rfl I71_3 T44 (by decide) (fun m h=>(at_fst (at_snd (at_snd (at_snd (at_0 h)))))) rfl fun a S=>s_ldS S (fun c=>c) rfl T44 (fun _=>rfl) rfl fun A1 cp1 a S=>s_lenS S rfl underlying44 rfl fun a S=>s_bi S rfl fun a S=>s_mv1 S rfl fun a S=>?_
    rcases ite_of h2 with ⟨c5,h3⟩ | ⟨c5,h3⟩
    ·refine s_gF S (b:=(decide (3000<(((gt x1 y1).e4).length:Int)))) rfl rfl c5 rfl fun a S=>s_gF S (b:=(decide (3000<(((gt x1 y1).e4).length:Int)))) rfl rfl c5 rfl fun a S=>s_gF S (b:=(decide (3000<(((gt x1 y1).e4).length:Int)))) rfl rfl c5 rfl fun a S=>s_gF S (b:=(decide (3000<(((gt x1 y1).e4).length:Int)))) rfl rfl c5 rfl fun a S=>s_gF S (b:=(decide (3000<(((gt x1 y1).e4).length:Int)))) rfl rfl c5 rfl fun a S=>s_gF S (b:=(decide (3000<(((gt x1 y1).e4).length:Int)))) rfl rfl c5 rfl fun a S=>s_gF S (b:=(decide (3000<(((gt x1 y1).e4).length:Int)))) rfl rfl c5 rfl fun a S=>s_pick S (b:=true) (hc_of rfl c5) rfl rfl fun a S=>c_end' (x_thenN ?_)
     exact j2 _ true a w (S.sb rfl .nil) h3
    ·refine s_gT S (b:=(decide (3000<(((gt x1 y1).e4).length:Int)))) rfl rfl c5 (s_mv1 S rfl fun a S=>s_gT S (b:=(decide (3000<(((gt x1 y1).e4).length:Int)))) rfl rfl c5 (s_mv1 S rfl fun a S=>s_gT S (b:=(decide (3000<(((gt x1 y1).e4).length:Int)))) rfl rfl c5 (s_iaddrS S rfl rfl rfl underlying22 T71 c4.1 c4.2 rfl fun p2 a S=>s_gT S (b:=(decide (3000<(((gt x1 y1).e4).length:Int)))) rfl rfl c5 (s_faddrP S (tF:=(Ty.slice Y83)) (y:=(gt x1 y1).t4) rfl I71_4 T69 (by decide) (fun m h=>(at_snd (at_snd (at_snd (at_snd (at_0 h)))))) rfl fun a S=>s_gT S (b:=(decide (3000<(((gt x1 y1).e4).length:Int)))) rfl rfl c5 (s_ldS S (fun c=>c) rfl T69 (fun _=>rfl) rfl fun A2 cp2 a S=>s_gT S (b:=(decide (3000<(((gt x1 y1).e4).length:Int)))) rfl rfl c5 (s_lenS S rfl underlying69 rfl fun a S=>s_gT S (b:=(decide (3000<(((gt x1 y1).e4).length:Int)))) rfl rfl c5 (s_bi S rfl fun a S=>s_pick S (b:=false) (hc_of rfl c5) rfl rfl fun a S=>c_end' (x_thenN ?_))))))))
     exact j2 _ (decide (100<(((gt x1 y1).t4).length:Int))) a w (S.sb rfl .nil) h3
   ·refine c_condF S rfl c2 (wp_exit (x_thenX (x_thenX (x_blockX (x_thenN ?_)))))
    exact j1 _ a w (S.sub tv .nil) h1
abbrev fh8_.Ty:Type:=(List Int)→Option (List Int)
def fh8_.Ctr (s:fh8_.Ty):Prop:=∀ {x1:List Int} {r:List Int} (h0:s x1=some r) {mi:Mem} {w0:World},CtrB Tryz.prog 79 [(.a4 x1)] [] (fun (ch:Unit)=>((.agg [.ints .i64 r 32]):D)) (fun (ch:Unit)=>[]) mi w0
def fh8_.j1 (y1:List Int):Option (List Int):=some y1
def fh8_.b1 (x1:List Int)(rec1:Int→(List Int)→Option (List Int))(y4:Int)(y5:List Int):Option (List Int):=if (decide (y4<32))=true then (if (0:Int)≤(wr .i64 (Int.tdiv y4 8))∧(wr .i64 (Int.tdiv y4 8))<4 then (if (0:Int)≤(wr .i64 (8*(Int.tmod y4 8))) then (if (0:Int)≤y4∧y4<32 then (rec1 (wr .i64 (y4+1)) (y5.set (Int.toNat y4) (wr .i64 (Int.tmod (shr (rd x1 (wr .i64 (Int.tdiv y4 8))) (min (Int.toNat (wr .i64 (8*(Int.tmod y4 8)))) 64)) 256)))) else none) else none) else none) else (fh8_.j1 y5)
def fh8_.l1 (x1:List Int):Nat→Int→(List Int)→Option (List Int)
  | 0,_,_=>none
  | q+1,y4,y5=>fh8_.b1 x1 (fh8_.l1 x1 q) y4 y5
def fh8_.f (k:Nat)(x1:List Int):Option (List Int):=fh8_.l1 x1 k 0 [0,0,0,0,0,0,0,0,0,0,0,0,0,0,0,0,0,0,0,0,0,0,0,0,0,0,0,0,0,0,0,0]
theorem fh8_.ok (k:Nat):fh8_.Ctr (fh8_.f k):=by
 intro x1 r h0 mi w0 ok hm
 delta fh8_.f at h0
 refine c_enterZ (n:=23) ok hm func79 rfl rfl rfl fun b0 hb a S=>c_region (s_box S rfl rfl rfl fun g1 a w S=>s_alloc S Z129 rfl ⟨rfl,tv⟩ rfl fun g2 a w S=>c_end (c_region (s_build S (ds:=[]) (dv:=(.agg [.ints .i64 z32 32])) rfl (fun _=>by kernel_rfl) ⟨rfl,tv⟩ rfl fun a S=>s_alloc S Z129 rfl ⟨rfl,tv⟩ rfl fun g3 a w S=>s_storeJ S 0 rfl rfl rfl rfl .h T129 rfl rfl fun w S=>c_end (wp_seq_k fun K1 hK1=>?_))))
 have j1:∀ m g13 g14 y1 a w,St 23 m b0 [(3,(.p g13)),(2,(.p g14))] [Res.cells g13 129 [.ints .i64 y1 32],Res.cells g14 129 [.ints .i64 z32 32]] a w→fh8_.j1 y1=some r→K1 a w:=by
  intro m g13 g14 y1 a w S h0
  delta fh8_.j1 at h0
  refine hK1 a w (c_region (s_loada S rfl .h T129 (s':=[.ints .i64 y1 32]) rfl rfl fun a S=>s_store S rfl rfl rfl (s':=[.ints .i64 y1 32]) .h1 T129 rfl rfl fun w S=>c_end (wp_ret ?_)))
  obtain rfl:=sI h0
  exact b_ret1 (d:=(.agg [.ints .i64 y1 32])) S rfl (resD_cell rfl .h1 T129 rfl rfl) (S.rt hb)
 refine c_region (s_as1 S rfl fun a S=>c_end (wp_block ?_))
 refine c_loop (fun q1 a w=>∃ m y4 g21 g22 g23 y5,St 23 m b0 [(4,(.i y4)),(3,(.p g21)),(2,(.p g22)),(1,(.p g23))] [Res.cells g21 129 [.ints .i64 y5 32],Res.cells g22 129 [.ints .i64 z32 32],Res.cells g23 43 [.w4 x1]] a w∧fh8_.l1 x1 q1 y4 y5=some r) ?_ ?_ (k:=k) ⟨_,0,g3,g2,g1,z32,(S.sb rfl (.c0 (.c0 (.c0 .n)))),h0⟩
 ·rintro a w ⟨m,y4,g21,g22,g23,y5,S,h0⟩
  exact (nomatch (show (none:Option (List Int))=some r from h0))
 ·clear S h0
  rintro q1 a w ⟨m,y4,g21,g22,g23,y5,S,h0⟩
  replace h0:fh8_.b1 x1 (fh8_.l1 x1 q1) y4 y5=some r:=h0
  delta fh8_.b1 at h0
  refine wp_seq (c_region (s_mv1 S rfl fun a S=>s_bi S rfl fun a S=>c_end ?_))
  rcases ite_of h0 with ⟨c1,h1⟩ | ⟨c1,h1⟩
  ·refine c_condT S rfl c1 (wp_skip (x_thenN (wp_seq (wp_block (c_region' (s_mv2 S rfl fun a S=>s_quo S rfl rfl (by decide) rfl fun a S=>?_))))))
   obtain ⟨c2,h2⟩:=chk_of h1; clear h1
   refine s_iaddr S rfl rfl underlying43 T41 c2.1 c2.2 (mul1 _ _) rfl fun a S=>s_loadi S (i:=(wr .i64 (Int.tdiv y4 8))) rfl .h2 T41 .h rfl c2.1 c2.2 rfl fun a S=>s_mv1 S rfl fun a S=>s_rem S rfl rfl (by decide) rfl fun a S=>s_bi S rfl fun a S=>?_
   obtain ⟨c3,h3⟩:=chk_of h2; clear h2
   refine s_shr S (e:=(min (Int.toNat (wr .i64 (8*(Int.tmod y4 8)))) 64)) rfl rfl c3 rfl rfl fun a S=>s_rem S rfl rfl (by decide) rfl fun a S=>s_conv S rfl rfl underlying3 rfl fun a S=>?_
   obtain ⟨c4,h4⟩:=chk_of h3; clear h3
   refine s_iaddr S rfl rfl underlying129 T3 c4.1 c4.2 (mul1 _ _) rfl fun a S=>s_storei S (i:=y4) rfl rfl .h T3 .h rfl c4.1 c4.2 fun w S=>c_end' (x_blockN (x_thenN (c_region' (s_mv1 S rfl fun a S=>s_bi S rfl fun a S=>s_as1 S rfl fun a S=>c_end' (x_thenN ?_)))))
   exact ⟨_,(wr .i64 (y4+1)),g21,g22,g23,(y5.set (Int.toNat y4) (wr .i64 (Int.tmod (shr (rd x1 (wr .i64 (Int.tdiv y4 8))) (min (Int.toNat (wr .i64 (8*(Int.tmod y4 8)))) 64)) 256))),(S.sb rfl (.c0 (.c0 (.c0 .n)))),h4⟩
  ·refine c_condF S rfl c1 (wp_exit (x_thenX (x_thenX (x_blockX (x_thenN ?_)))))
   exact j1 _ g21 g22 y5 a w (S.sb rfl (.c0 (.c0 .n))) h1
abbrev fd9_.Ty:Type:=(List Int)→(List Int)→Option Int
def fd9_.Ctr (s:fd9_.Ty):Prop:=∀ {x1:List Int} {x2:List Int} {r:Int} (h0:s x1 x2=some r) {mi:Mem} {w0:World},CtrB Tryz.prog 78 [(.agg [.ints .i64 x1 32]),(.agg [.ints .i64 x2 32])] [] (fun (ch:Unit)=>((.i r):D)) (fun (ch:Unit)=>[]) mi w0
def fd9_.j1:Option Int:=some 0
def fd9_.b1 (x1:List Int)(x2:List Int)(rec1:Int→Option Int)(y1:Int):Option Int:=if (decide (0≤y1))=true then (if (0:Int)≤y1∧y1<32 then (if (decide ((rd x1 y1)<(rd x2 y1)))=true then (some (-1)) else (if (decide ((rd x2 y1)<(rd x1 y1)))=true then (some 1) else (rec1 (wr .i64 (y1 - 1))))) else none) else fd9_.j1
def fd9_.l1 (x1:List Int)(x2:List Int):Nat→Int→Option Int
  | 0,_=>none
  | q+1,y1=>fd9_.b1 x1 x2 (fd9_.l1 x1 x2 q) y1
def fd9_.f (k:Nat)(x1:List Int)(x2:List Int):Option Int:=fd9_.l1 x1 x2 k 31
theorem fd9_.ok (k:Nat):fd9_.Ctr (fd9_.f k):=by
 intro x1 x2 r h0 mi w0 ok hm
 delta fd9_.f at h0
 refine c_enterZ (n:=24) ok hm func78 rfl rfl rfl fun b0 hb a S=>c_region (s_box S rfl rfl rfl fun g1 a w S=>s_box S rfl rfl rfl fun g2 a w S=>s_as1 S rfl fun a S=>c_end (wp_seq_k fun K1 hK1=>?_))
 have j1:∀ m a w,St 24 m b0 [] [] a w→fd9_.j1=some r→K1 a w:=by
  intro m a w S h0
  delta fd9_.j1 at h0
  refine hK1 a w (c_region (s_as1 S rfl fun a S=>c_end (wp_ret ?_)))
  obtain rfl:=sI h0
  exact b_ret1 (d:=(.i 0)) S rfl rfl (S.rt hb)
 refine c_region (s_as1 S rfl fun a S=>c_end (wp_block ?_))
 refine c_loop (fun q1 a w=>∃ m y1 g13 g14,St 24 m b0 [(5,(.i y1)),(3,(.p g13)),(2,(.p g14))] [Res.cells g13 129 [.ints .i64 x2 32],Res.cells g14 129 [.ints .i64 x1 32]] a w∧fd9_.l1 x1 x2 q1 y1=some r) ?_ ?_ (k:=k) ⟨_,31,g2,g1,(S.sb rfl (.c0 (.c0 .n))),h0⟩
 ·rintro a w ⟨m,y1,g13,g14,S,h0⟩
  exact (nomatch (show (none:Option Int)=some r from h0))
 ·clear S h0
  rintro q1 a w ⟨m,y1,g13,g14,S,h0⟩
  replace h0:fd9_.b1 x1 x2 (fd9_.l1 x1 x2 q1) y1=some r:=h0
  delta fd9_.b1 at h0
  refine wp_seq (c_region (s_mv1 S rfl fun a S=>s_bi S rfl fun a S=>c_end ?_))
  rcases ite_of h0 with ⟨c1,h1⟩ | ⟨c1,h1⟩
  ·refine c_condT S rfl c1 (wp_skip (x_thenN (wp_seq (wp_block (wp_seq ?_)))))
   refine wp_seq (c_hS S (.tk 0 7 .done) 7 (.c0 (.c0 .n)) ⟨Res.stay_cells,Res.stay_cells,tv⟩ [(5,(.i y1)),(3,(.p g13)),(2,(.p g14))] rfl (by kernel_rfl) ?_); clear S; intro w S CL hw le
   refine h_mv1 S CL hw le rfl tv fun a S CL=>?_
   obtain ⟨c2,h2⟩:=chk_of h1; clear h1
   refine h_iaddr S CL hw le (subR rfl) rfl rfl underlying129 T3 c2.1 c2.2 (mul1 _ _) rfl rfl tv fun a S CL=>h_loadi S CL hw le (subR rfl) (i:=y1) rfl .h1 T3 .h rfl c2.1 c2.2 rfl rfl tv fun a S CL=>h_mv1 S CL hw le rfl tv fun a S CL=>h_iaddr S CL hw le (subR rfl) rfl rfl underlying129 T3 c2.1 c2.2 (mul1 _ _) rfl rfl tv fun a S CL=>h_loadi S CL hw le (subR rfl) (i:=y1) rfl .h T3 .h rfl c2.1 c2.2 rfl rfl tv fun a S CL=>h_bin S CL hw le (subR rfl) rfl rfl rfl rfl rfl tv fun a S CL=>?_
   refine h_done ?_; clear CL hw le
   refine x_thenN ?_
   rcases ite_of h2 with ⟨c3,h3⟩ | ⟨c3,h3⟩
   ·refine c_condT S rfl c3 (c_region (s_as1 S rfl fun a S=>c_end (wp_ret (x_thenR (x_blockR (x_thenR (x_thenR (x_blockR (x_thenR ?_)))))))))
    obtain rfl:=sI h3
    exact b_ret1 (d:=(.i (-1))) S rfl rfl (S.rt hb)
   ·refine c_condF S rfl c3 (wp_skip (x_thenN ?_))
    refine wp_seq (c_hS S (.tk 0 7 .done) 7 (.c0 (.c0 .n)) ⟨Res.stay_cells,Res.stay_cells,tv⟩ [(5,(.i y1)),(3,(.p g13)),(2,(.p g14))] rfl (by kernel_rfl) ?_); clear S; intro w S CL hw le
    refine h_mv1 S CL hw le rfl tv fun a S CL=>h_iaddr S CL hw le (subR rfl) rfl rfl underlying129 T3 c2.1 c2.2 (mul1 _ _) rfl rfl tv fun a S CL=>h_loadi S CL hw le (subR rfl) (i:=y1) rfl .h1 T3 .h rfl c2.1 c2.2 rfl rfl tv fun a S CL=>h_mv1 S CL hw le rfl tv fun a S CL=>h_iaddr S CL hw le (subR rfl) rfl rfl underlying129 T3 c2.1 c2.2 (mul1 _ _) rfl rfl tv fun a S CL=>h_loadi S CL hw le (subR rfl) (i:=y1) rfl .h T3 .h rfl c2.1 c2.2 rfl rfl tv fun a S CL=>h_bin S CL hw le (subR rfl) rfl rfl rfl rfl rfl tv fun a S CL=>?_
    refine h_done ?_; clear CL hw le
    refine x_thenN ?_
    rcases ite_of h3 with ⟨c4,h4⟩ | ⟨c4,h4⟩
    ·refine c_condT S rfl c4 (c_region (s_as1 S rfl fun a S=>c_end (wp_ret (x_blockR (x_thenR (x_thenR (x_blockR (x_thenR ?_))))))))
     obtain rfl:=sI h4
     exact b_ret1 (d:=(.i 1)) S rfl rfl (S.rt hb)
    ·refine c_condF S rfl c4 (wp_skip (x_blockN (x_thenN (c_region' (s_mv1 S rfl fun a S=>s_bi S rfl fun a S=>s_as1 S rfl fun a S=>c_end' (x_thenN ?_))))))
     exact ⟨_,(wr .i64 (y1 - 1)),g13,g14,(S.sb rfl (.c0 (.c0 .n))),h4⟩
  ·refine c_condF S rfl c1 (wp_exit (x_thenX (x_thenX (x_blockX (x_thenN ?_)))))
   exact j1 _ a w (S.sub tv .nil) h1
abbrev fg3_.Ty:Type:=(List Int)→(List Int)→Option Bool
def fg3_.Ctr (s:fg3_.Ty):Prop:=∀ {x1:List Int} {x2:List Int} {r:Bool} (h0:s x1 x2=some r) {mi:Mem} {w0:World},CtrB Tryz.prog 71 [(.a4 x1),(.a4 x2)] [] (fun (ch:Unit)=>((.b r):D)) (fun (ch:Unit)=>[]) mi w0
def fg3_.f (k:Nat)(x1:List Int)(x2:List Int):Option Bool:=(fh8_.f k x1).bind fun t1=>((fh8_.f k x2).bind fun t2=>((fd9_.f k t1 t2).bind fun t3=>(some (decide (t3<0)))))
theorem fg3_.ok (k:Nat):fg3_.Ctr (fg3_.f k):=by
 intro x1 x2 r h0 mi w0 ok hm
 delta fg3_.f at h0
 refine c_enterZ (n:=11) ok hm func71 rfl rfl rfl fun b0 hb a S=>c_region (s_box S rfl rfl rfl fun g1 a w S=>s_box S rfl rfl rfl fun g2 a w S=>s_as1 S rfl fun a S=>c_end ?_)
 refine wp_seq (c_hS S (.take 0 (.take 2 (.alts (.run 1 true (.alts (.run 3 true (.alts (.run 4 true (.take 5 (.take 6 .done)) .nil)) .nil)) .nil)))) 7 (.c0 (.c0 .n)) ⟨Res.stay_cells,Res.stay_cells,tv⟩ [(3,(.p g2)),(2,(.p g1))] rfl (by kernel_rfl) ?_); clear S; intro w S CL hw le
 refine h_loada S CL hw le (subR rfl) rfl .h1 T43 (s':=[.w4 x1]) rfl rfl rfl tv fun a S CL=>h_loada S CL hw le (subR rfl) rfl .h T43 (s':=[.w4 x2]) rfl rfl rfl tv fun a S CL=>h_run' S rfl tv (bindX h0 fun t1 et1 h1=>s_callK S (fh8_.ok k et1) N79 rfl .pre (fun _=> .n) rfl fun ch1 m le1 a w S=>?_)
 replace le:=le.trans le1
 refine CL.bk hw S (.c0 (.c0 .n)) le fun hw=>h_run' S rfl tv (bindX h1 fun t2 et2 h2=>s_callK S (fh8_.ok k et2) N79 rfl .pre (fun _=> .n) rfl fun ch2 m le1 a w S=>?_)
 replace le:=le.trans le1
 refine CL.bk hw S (.c0 (.c0 .n)) le fun hw=>h_run' S rfl tv (bindX h2 fun t3 et3 h3=>s_callK S (fd9_.ok k et3) N78 rfl .pre (fun _=> .n) rfl fun ch3 m le1 a w S=>?_)
 replace le:=le.trans le1
 refine CL.bk hw S (.c0 (.c0 .n)) le fun hw=>?_
 replace CL:=CL.add (t:=9) (d:=(.i t3)) S rfl rfl
 refine h_bin S CL hw le (subR rfl) rfl rfl rfl rfl rfl tv fun a S CL=>h_assign S CL hw le (subR rfl) rfl rfl rfl tv fun a S CL=>?_
 refine h_done ?_; clear CL hw le
 refine x_thenN (wp_ret ?_)
 obtain rfl:=sI h3
 exact b_ret1 (d:=(.b (decide (t3<0)))) S rfl rfl (S.rt hb)
abbrev ff0_.Ty:Type:=W1→Option Bool
def ff0_.Ctr (s:ff0_.Ty):Prop:=∀ {x1:W1} {ch_0_0:Option Addr} {ch_0_1:Nat} {ch_0_2:Option Addr} {ch_0_3:Nat} {r:Bool} (h0:s x1=some r) {mi:Mem} {w0:World},CtrB Tryz.prog 31 [(.agg (Y71.segs x1 ((),(),(),(ch_0_0,ch_0_1),(ch_0_2,ch_0_3))))] [] (fun (ch:Unit)=>((.b r):D)) (fun (ch:Unit)=>[]) mi w0
def ff0_.j1:Option Bool:=some true
def ff0_.j2 (y1:Int)(rec1:Int→Option Bool)(y2:Bool):Option Bool:=if y2=true then (some false) else (rec1 (wr .i64 (y1+1)))
def ff0_.b1 (k:Nat)(x1:W1)(rec1:Int→Option Bool)(y1:Int):Option Bool:=if (decide (y1<((x1.2.2.2.2).length:Int)))=true then (if (0:Int)≤y1∧y1<((x1.2.2.2.2).length:Int) then (if (decide ((gt x1.2.2.2.2 y1).2=[0,0,0,0]))=true then (some false) else (if (decide (0<y1))=true then (if (0:Int)≤(wr .i64 (y1 - 1))∧(wr .i64 (y1 - 1))<((x1.2.2.2.2).length:Int) then ((fg3_.f k ((gt x1.2.2.2.2 (wr .i64 (y1 - 1))).1) ((gt x1.2.2.2.2 y1).1)).bind fun t1=>(ff0_.j2 y1 rec1 (!t1))) else none) else (ff0_.j2 y1 rec1 false))) else none) else ff0_.j1
def ff0_.l1 (k:Nat)(x1:W1):Nat→Int→Option Bool
  | 0,_=>none
  | q+1,y1=>ff0_.b1 k x1 (ff0_.l1 k x1 q) y1
def ff0_.f (k:Nat)(x1:W1):Option Bool:=ff0_.l1 k x1 k 0
theorem ff0_.ok (k:Nat):ff0_.Ctr (ff0_.f k):=by
 intro x1 ch_0_0 ch_0_1 ch_0_2 ch_0_3 r h0 mi w0 ok hm
 delta ff0_.f at h0
 refine c_enterZ (n:=38) ok hm func31 rfl rfl rfl fun b0 hb a S=>c_region (s_box S rfl rfl rfl fun g1 a w S=>s_as1 S rfl fun a S=>c_end (wp_seq_k fun K1 hK1=>?_))
 have j1:∀ m a w,St 38 m b0 [] [] a w→ff0_.j1=some r→K1 a w:=by
  intro m a w S h0
  delta ff0_.j1 at h0
  refine hK1 a w (c_region (s_as1 S rfl fun a S=>c_end (wp_ret ?_)))
  obtain rfl:=sI h0
  exact b_ret1 (d:=(.b true)) S rfl rfl (S.rt hb)
 refine c_region (s_fieldAddr S rfl I71_4 T69 (by decide) rfl rfl fun a S=>s_loadSl S rfl .h T69 (A:=ch_0_2) (len:=(x1.t4).length) (cap:=ch_0_3) rfl rfl fun a S=>s_lenS S rfl underlying69 rfl fun a S=>s_mv1 S rfl fun a S=>c_end (wp_block ?_))
 refine c_loop (fun q1 a w=>∃ m y1 g9,St 38 m b0 [(7,(.i y1)),(6,(.i ((x1.t4).length:Int))),(1,(.p g9))] [Res.cells g9 71 (Y71.segs x1 ((),(),(),(ch_0_0,ch_0_1),(ch_0_2,ch_0_3)))] a w∧ff0_.l1 k x1 q1 y1=some r) ?_ ?_ (k:=k) ⟨_,0,g1,(S.sb rfl (.c0 .n)),h0⟩
 ·rintro a w ⟨m,y1,g9,S,h0⟩
  exact (nomatch (show (none:Option Bool)=some r from h0))
 ·clear S h0
  rintro q1 a w ⟨m,y1,g9,S,h0⟩
  replace h0:ff0_.b1 k x1 (ff0_.l1 k x1 q1) y1=some r:=h0
  delta ff0_.b1 at h0
  refine c_region (s_bi S rfl fun a S=>c_end (wp_seq ?_))
  rcases ite_of h0 with ⟨c1,h1⟩ | ⟨c1,h1⟩
  ·refine c_condT S rfl c1 (wp_skip (x_thenN (wp_seq (wp_block (c_region (s_mv1 S rfl fun a S=>s_as1 S rfl fun a S=>c_end (wp_seq (c_region (s_fieldAddr S rfl I71_4 T69 (by decide) rfl rfl fun a S=>s_loadSl S rfl .h T69 (A:=ch_0_2) (len:=(x1.t4).length) (cap:=ch_0_3) rfl rfl fun a S=>s_mv1 S rfl fun a S=>?_)))))))))
   obtain ⟨c2,h2⟩:=chk_of h1; clear h1
   refine s_iaddrS S rfl rfl rfl underlying69 T83 c2.1 c2.2 rfl fun p1 a S=>s_faddrP S (tF:=(Ty.arr .u64 4)) (y:=(gt x1.t4 y1).2) rfl I83_1 T43 (by decide) (fun m h=>(at_snd (at_0 h))) rfl fun a S=>s_ldA S (fun (c:Unit)=>[.w4 ((gt x1.t4 y1).2)]) rfl T43 (fun _=>rfl) rfl fun ch1 a S=>?_
   refine s_build S (ds:=[]) (dv:=(.a4 [0,0,0,0])) rfl (fun _=>by kernel_rfl) ⟨rfl,tv⟩ rfl fun a S=>s_eqa S rfl rfl underlying43 underlying41 T41 Q43 rfl fun a S=>c_end ?_
   rcases ite_of h2 with ⟨c3,h3⟩ | ⟨c3,h3⟩
   ·refine c_condT S rfl c3 (c_region (s_as1 S rfl fun a S=>c_end (wp_ret (x_thenR (x_blockR (x_thenR (x_thenR (x_blockR (x_thenR ?_)))))))))
    obtain rfl:=sI h3
    exact b_ret1 (d:=(.b false)) S rfl rfl (S.rt hb)
   ·refine c_condF S rfl c3 (wp_skip (x_thenN (wp_seq_k fun K2 hK2=>?_)))
    have j2:∀ m y2 g10 a w,St 38 m b0 [(36,(.b y2)),(7,(.i y1)),(6,(.i ((x1.t4).length:Int))),(1,(.p g10))] [Res.cells g10 71 (Y71.segs x1 ((),(),(),(ch_0_0,ch_0_1),(ch_0_2,ch_0_3)))] a w→ff0_.j2 y1 (ff0_.l1 k x1 q1) y2=some r→K2 a w:=by
     intro m y2 g10 a w S h0
     delta ff0_.j2 at h0
     refine hK2 a w ?_
     rcases ite_of h0 with ⟨c4,h1⟩ | ⟨c4,h1⟩
     ·refine c_condT S rfl c4 (c_region (s_as1 S rfl fun a S=>c_end (wp_ret (x_blockR (x_thenR (x_thenR (x_blockR (x_thenR ?_))))))))
      obtain rfl:=sI h1
      exact b_ret1 (d:=(.b false)) S rfl rfl (S.rt hb)
     ·refine c_condF S rfl c4 (wp_skip (x_blockN (x_thenN (c_region' (s_bi S rfl fun a S=>s_mv1 S rfl fun a S=>c_end' (x_thenN ?_))))))
      exact ⟨_,(wr .i64 (y1+1)),g10,(S.sb rfl (.c0 .n)),h1⟩
    refine c_hS S (.tk 0 16 (.alts (.run 16 true (.take 17 (.take 18 .done)) .nil))) 19 (.c0 .n) ⟨Res.stay_cells,tv⟩ [(3,(.i y1)),(1,(.p g9))] rfl (by kernel_rfl) fun w S CL hw le=>?_
    refine h_mv1 S CL hw le rfl tv fun a S CL=>h_bin S CL hw le (subR rfl) rfl rfl rfl rfl rfl tv fun a S CL=>h_mv1 S CL hw le rfl tv fun a S CL=>?_
    rcases ite_of h3 with ⟨c5,h4⟩ | ⟨c5,h4⟩
    ·refine h_fieldAddr S CL hw le (subR rfl) rfl I71_4 T69 (by decide) rfl rfl rfl ⟨_,_,rfl,rfl,c5⟩ fun a S CL=>h_loadSl S CL hw le (subR rfl) rfl .h T69 (A:=ch_0_2) (len:=(x1.t4).length) (cap:=ch_0_3) rfl rfl rfl ⟨_,_,rfl,rfl,c5⟩ fun a S CL=>h_mv1 S CL hw le rfl ⟨_,_,rfl,rfl,c5⟩ fun a S CL=>h_bin S CL hw le (subR rfl) rfl rfl rfl rfl rfl ⟨_,_,rfl,rfl,c5⟩ fun a S CL=>?_
     obtain ⟨c6,h5⟩:=chk_of h4; clear h4
     refine h_iaddrS S CL hw le (subR rfl) rfl rfl rfl underlying69 T83 c6.1 c6.2 rfl rfl ⟨_,_,rfl,rfl,c5⟩ fun p4 a S CL=>h_faddrP S CL hw le (subR rfl) (tF:=(Ty.arr .u64 4)) (y:=(gt x1.t4 (wr .i64 (y1 - 1))).1) rfl I83_0 T43 (by decide) (fun m h=>(at_fst (at_0 h))) rfl rfl ⟨_,_,rfl,rfl,c5⟩ fun a S CL=>h_ldA S CL hw le (subR rfl) (fun (c:Unit)=>[.w4 ((gt x1.t4 (wr .i64 (y1 - 1))).1)]) rfl T43 (fun _=>rfl) rfl rfl ⟨_,_,rfl,rfl,c5⟩ fun ch2 a S CL=>?_
     refine h_fieldAddr S CL hw le (subR rfl) rfl I71_4 T69 (by decide) rfl rfl rfl ⟨_,_,rfl,rfl,c5⟩ fun a S CL=>h_loadSl S CL hw le (subR rfl) rfl .h T69 (A:=ch_0_2) (len:=(x1.t4).length) (cap:=ch_0_3) rfl rfl rfl ⟨_,_,rfl,rfl,c5⟩ fun a S CL=>h_mv1 S CL hw le rfl ⟨_,_,rfl,rfl,c5⟩ fun a S CL=>h_iaddrS S CL hw le (subR rfl) rfl rfl rfl underlying69 T83 c2.1 c2.2 rfl rfl ⟨_,_,rfl,rfl,c5⟩ fun p5 a S CL=>h_faddrP S CL hw le (subR rfl) (tF:=(Ty.arr .u64 4)) (y:=(gt x1.t4 y1).1) rfl I83_0 T43 (by decide) (fun m h=>(at_fst (at_0 h))) rfl rfl ⟨_,_,rfl,rfl,c5⟩ fun a S CL=>h_ldA S CL hw le (subR rfl) (fun (c:Unit)=>[.w4 ((gt x1.t4 y1).1)]) rfl T43 (fun _=>rfl) rfl rfl ⟨_,_,rfl,rfl,c5⟩ fun ch3 a S CL=>?_
     refine h_run' S rfl ⟨_,_,rfl,rfl,c5⟩ (bindX h5 fun t1 et1 h6=>s_callK S (fg3_.ok k et1) N71 rfl .pre (fun _=> .n) rfl fun ch4 m le1 a w S=>?_)
     replace le:=le.trans le1
     refine CL.bk hw S (.c0 .n) le fun hw=>?_
     replace CL:=CL.add (t:=34) (d:=(.b t1)) S rfl rfl
     refine h_not S CL hw le (subR rfl) rfl rfl rfl ⟨_,_,rfl,rfl,c5⟩ fun a S CL=>h_pick S CL hw le (subR rfl) (b:=true) (hc_of rfl c5) rfl rfl rfl tv fun a S CL=>?_
     refine h_done ?_; clear CL hw le
     refine x_thenN ?_
     exact j2 _ (!t1) g9 a w (S.sb rfl (.c0 .n)) h6
    ·refine h_sk8 S CL rfl (ne_bool c5) fun a S CL=>h_sk4 S CL rfl (ne_bool c5) fun a S CL=>h_sk1 S CL rfl (ne_bool c5) fun a S CL=>h_skipRt S rfl rfl rfl (ne_bool c5) rfl fun a S=>CL.bk hw S (.c0 .n) le fun hw=>?_
     replace CL:=CL.add (t:=34) (d:= .u) S rfl rfl
     refine h_sk1 S CL rfl (ne_bool c5) fun a S CL=>h_pick S CL hw le (subR rfl) (b:=false) (hc_of rfl c5) rfl rfl rfl tv fun a S CL=>?_
     refine h_done ?_; clear CL hw le
     refine x_thenN ?_
     exact j2 _ false g9 a w (S.sb rfl (.c0 .n)) h4
  ·refine c_condF S rfl c1 (wp_exit (x_thenX (x_thenX (x_blockX (x_thenN ?_)))))
   exact j1 _ a w (S.sub tv .nil) h1
abbrev ff5_.Ty:Type:=(List L71)→Option Bool
def ff5_.Ctr (s:ff5_.Ty):Prop:=∀ {x1:List L71} {ch_0_0:Option Addr} {ch_0_1:Nat} {r:Bool} (h0:s x1=some r) {mi:Mem} {w0:World},CtrB Tryz.prog 7 [(.q Y71 ch_0_0 ch_0_1 x1)] [] (fun (ch:Unit)=>((.b r):D)) (fun (ch:Unit)=>[]) mi w0
def ff5_.j1:Option Bool:=some true
def ff5_.b1 (k:Nat)(x1:List L71)(rec1:Int→Option Bool)(y1:Int):Option Bool:=if (decide (y1<((x1).length:Int)))=true then (if (0:Int)≤y1∧y1<((x1).length:Int) then ((ff0_.f k (gt x1 y1)).bind fun t4=>(if (!t4)=true then (some false) else (rec1 (wr .i64 (y1+1))))) else none) else ff5_.j1
def ff5_.l1 (k:Nat)(x1:List L71):Nat→Int→Option Bool
  | 0,_=>none
  | q+1,y1=>ff5_.b1 k x1 (ff5_.l1 k x1 q) y1
def ff5_.f (k:Nat)(x1:List L71):Option Bool:=(ff1_.f k x1).bind fun t1=>(if t1=true then (some false) else (ff5_.l1 k x1 k 0))
theorem ff5_.ok (k:Nat):ff5_.Ctr (ff5_.f k):=by
 intro x1 ch_0_0 ch_0_1 r h0 mi w0 ok hm
 delta ff5_.f at h0
 refine c_enterZ (n:=17) ok hm func7 rfl rfl rfl fun b0 hb a S=>c_region (s_as1 S rfl fun a S=>c_end (wp_seq (c_region (s_mv1 S rfl fun a S=>bindX h0 fun t1 et1 h1=>s_callK S (ff1_.ok k et1) N30 rfl .pre (fun _=> .n) rfl fun ch1 m le1 a w S=>c_end ?_))))
 rcases ite_of h1 with ⟨c1,h2⟩ | ⟨c1,h2⟩
 ·refine c_condT S rfl c1 (c_region (s_as1 S rfl fun a S=>c_end (wp_ret (x_thenR ?_))))
  obtain rfl:=sI h2
  exact b_ret1 (d:=(.b false)) S rfl rfl (S.rt hb)
 ·refine c_condF S rfl c1 (wp_skip (x_thenN (wp_seq_k fun K1 hK1=>?_)))
  have j1:∀ m a w,St 17 m b0 [] [] a w→ff5_.j1=some r→K1 a w:=by
   intro m a w S h0
   delta ff5_.j1 at h0
   refine hK1 a w (c_region (s_as1 S rfl fun a S=>c_end (wp_ret ?_)))
   obtain rfl:=sI h0
   exact b_ret1 (d:=(.b true)) S rfl rfl (S.rt hb)
  refine c_region (s_mv1 S rfl fun a S=>s_lenS S rfl underlying22 rfl fun a S=>s_mv1 S rfl fun a S=>c_end (wp_block ?_))
  refine c_loop (fun q1 a w=>∃ m y1,St 17 m b0 [(9,(.i y1)),(8,(.i ((x1).length:Int))),(7,(.q Y71 ch_0_0 ch_0_1 x1))] [] a w∧ff5_.l1 k x1 q1 y1=some r) ?_ ?_ (k:=k) ⟨_,0,(S.sb rfl .nil),h2⟩
  ·rintro a w ⟨m,y1,S,h0⟩
   exact (nomatch (show (none:Option Bool)=some r from h0))
  ·clear S h2
   rintro q1 a w ⟨m,y1,S,h0⟩
   replace h0:ff5_.b1 k x1 (ff5_.l1 k x1 q1) y1=some r:=h0
   delta ff5_.b1 at h0
   refine c_region (s_bi S rfl fun a S=>c_end (wp_seq ?_))
   rcases ite_of h0 with ⟨c2,h1⟩ | ⟨c2,h1⟩
   ·refine c_condT S rfl c2 (wp_skip (x_thenN (wp_seq (wp_block (c_region ?_)))))
    obtain ⟨c3,h2⟩:=chk_of h1; clear h1
    refine s_iaddrS S rfl rfl rfl underlying22 T71 c3.1 c3.2 rfl fun p1 a S=>s_ldA S (fun (c:Unit×Unit×Unit×(Option Addr×Nat)×(Option Addr×Nat))=>(Y71.segs (gt x1 y1) c)) rfl T71 (fun _=>rfl) rfl fun ch4 a S=>?_
    refine s_alloc S Z71 rfl ⟨rfl,rfl,rfl,rfl,rfl,tv⟩ rfl fun g1 a w S=>s_store S rfl rfl rfl (s':=(Y71.segs (gt x1 y1) ch4)) .h T71 rfl rfl fun w S=>c_end (c_region (s_loada S rfl .h T71 (s':=(Y71.segs (gt x1 y1) ch4)) rfl rfl fun a S=>bindX h2 fun t4 et4 h3=>s_callK S (ff0_.ok k et4) N31 rfl .pre (fun _=> .n) rfl fun ch5 m le1 a w S=>s_not S rfl rfl fun a S=>c_end ?_))
    rcases ite_of h3 with ⟨c4,h4⟩ | ⟨c4,h4⟩
    ·refine c_condT S rfl c4 (c_region (s_as1 S rfl fun a S=>c_end (wp_ret (x_blockR (x_thenR (x_thenR (x_blockR (x_thenR ?_))))))))
     obtain rfl:=sI h4
     exact b_ret1 (d:=(.b false)) S rfl rfl (S.rt hb)
    ·refine c_condF S rfl c4 (wp_skip (x_blockN (x_thenN (c_region' (s_bi S rfl fun a S=>s_mv1 S rfl fun a S=>c_end' (x_thenN ?_))))))
     exact ⟨_,(wr .i64 (y1+1)),(S.sb rfl .nil),h4⟩
   ·refine c_condF S rfl c2 (wp_exit (x_thenX (x_thenX (x_blockX (x_thenN ?_)))))
    exact j1 _ a w (S.sub tv .nil) h1
abbrev fh5_.Ty:Type:=Option W2
def fh5_.Ctr (s:fh5_.Ty):Prop:=∀ {r:W2} (h0:s=some r) {mi:Mem} {w0:World},CtrB Tryz.prog 9 [(.v .nilIface)] [] (fun (ch:W3)=>((.v (.pointer (some ⟨ch.1,0,none⟩))):D)) (fun (ch:W3)=>(MS1 r ch)) mi w0
def fh5_.f:Option W2:=some (([]:List L71),(([]:List ((List Int)×Option Nat)),([]:List L110),([]:List (List ((List Int)×(List Int)))),([]:List (List ((List Int)×Bool)))),0,([]:List L100),([]:List Clo),([]:List (List Int)))
theorem fh5_.ok:fh5_.Ctr (fh5_.f):=by
 intro r h0 mi w0 ok hm
 delta fh5_.f at h0
 refine c_enterZ (n:=11) ok hm func9 rfl rfl rfl fun b0 hb a S=>c_region (s_as1 S rfl fun a S=>c_end (wp_seq (c_region (s_mv1 S rfl fun a S=>s_eqNN S rfl underlying29 rfl fun a S=>c_end (c_condT S rfl rfl (c_region' (s_bldS S (ds:=[]) (zs:=[.s none 0 0]) (s':=[.s none 0 0]) rfl underlying75 P75 Z75 ⟨rfl,tv⟩ rfl rfl fun a S=>?_)))))))
 replace S:=S.slotN 5 0 Y71 rfl rfl
 refine s_mkI S (s:=[.q Y71 none 0 ([]:List L71)]) (v:=(.agg (cellsOf [.q Y71 none 0 ([]:List L71)]).toArray)) rfl rfl rfl (by kernel_rfl) rfl fun a S=>?_
 refine s_as1 S rfl fun a S=>c_end' (x_thenN (c_region (s_mv1 S rfl fun a S=>s_makeMap (α:=List Int) (β:=Option Nat) S true (Ty.arr .u8 20) false (Ty.pid ([]:List Nat)) rfl fun g1 a w S=>?_)))
 replace S:=S.fam0 (fun g_ kvs_=>Res.map true (Ty.arr .u64 4) false Ty.bool g_ kvs_) (one_map true (Ty.arr .u64 4) false Ty.bool)
 replace S:=S.fam0 (fun g_ kvs_=>Res.map true (Ty.arr .u64 4) true (Ty.arr .u64 4) g_ kvs_) (one_map true (Ty.arr .u64 4) true (Ty.arr .u64 4))
 replace S:=S.fam0 (Res.struct (YE110 ([]:List Nat) ([]:List Nat)) 110) (one_struct _ _)
 refine s_bldS S (ds:=[(0,(.rf (.iface 75 (.agg (cellsOf [.q Y71 none 0 ([]:List L71)]).toArray)) (IfR [.q Y71 none 0 ([]:List L71)]))),(1,(.v (.map (some g1))))]) (zs:=[.one .nilIface, .one (.map none), .i 0, .s none 0 0, .s none 0 0, .s none 0 0]) (s':=[.rf (.iface 75 (.agg (cellsOf [.q Y71 none 0 ([]:List L71)]).toArray)) (IfR [.q Y71 none 0 ([]:List L71)]), .one (.map (some g1)), .i 0, .s none 0 0, .s none 0 0, .s none 0 0]) rfl underlying79 P79 Z79 ⟨rfl,rfl,rfl,rfl,rfl,rfl,tv⟩ rfl rfl fun a S=>s_box S rfl rfl rfl fun g2 a w S=>s_as1 S rfl fun a S=>c_end (wp_ret ?_)
 replace S:=S.nilrow Y100 100
 replace S:=S.nilrow (YC g2 ([]:List Nat) ([]:List Nat) ([]:List Nat)) 1
 replace S:=S.nilrow (Ty.arr .u8 20) 40
 obtain rfl:=sI h0
 exact b_ret1 (d:=(.p g2)) S rfl rfl fun ok=>S.retX (Hx:=[]) hb _ _ ((g2,none,0,g1,([]:List Nat),([]:List Nat),([]:List Nat),none,0,0,none,0,0,none,0,0):W3) (.c3 (.c6 (.c3 (.c3 (.c3 (.c2 (.c1 (.c0 .n)))))))) ok
abbrev fe9_.Ty:Type:=(List L71)→(List Int)→Option W4
def fe9_.Ctr (s:fe9_.Ty):Prop:=∀ {x1:List L71} {x2:List Int} {ch_0_0:Option Addr} {ch_0_1:Nat} {r:W4} (h0:s x1 x2=some r) {mi:Mem} {w0:World},CtrB Tryz.prog 146 [(.agg [.q Y71 ch_0_0 ch_0_1 x1]),(.agg [.b20 x2])] [] (fun (ch:W5)=>((.tup [(true,(Y71.segs r.1 ((),(),(),(ch.1,ch.2.1),ch.t2))),(false,[.b r.2])]):D)) (fun (ch:W5)=>[]) mi w0
def fe9_.j1 (x2:List Int):Option W4:=some ((x2,0,[0,0,0,0],([]:List Int),([]:List ((List Int)×(List Int)))),true)
def fe9_.b1 (x1:List L71)(x2:List Int)(rec1:Int→Option W4)(y1:Int):Option W4:=if (decide (y1<((x1).length:Int)))=true then (if (0:Int)≤y1∧y1<((x1).length:Int) then (if (decide ((gt x1 y1).1=x2))=true then (some (gt x1 y1,true)) else (rec1 (wr .i64 (y1+1)))) else none) else (fe9_.j1 x2)
def fe9_.l1 (x1:List L71)(x2:List Int):Nat→Int→Option W4
  | 0,_=>none
  | q+1,y1=>fe9_.b1 x1 x2 (fe9_.l1 x1 x2 q) y1
def fe9_.f (k:Nat)(x1:List L71)(x2:List Int):Option W4:=fe9_.l1 x1 x2 k 0
theorem fe9_.ok (k:Nat):fe9_.Ctr (fe9_.f k):=by
 intro x1 x2 ch_0_0 ch_0_1 r h0 mi w0 ok hm
 delta fe9_.f at h0
 refine c_enterZ (n:=23) ok hm func146 rfl rfl rfl fun b0 hb a S=>c_region (s_box S rfl rfl rfl fun g1 a w S=>s_box S rfl rfl rfl fun g2 a w S=>s_alloc S Z71 rfl ⟨rfl,rfl,rfl,rfl,rfl,tv⟩ rfl fun g3 a w S=>s_as1 S rfl fun a S=>c_end (wp_seq_k fun K1 hK1=>?_))
 have j1:∀ m g12 g13 a w,St 23 m b0 [(4,(.p g12)),(3,(.p g13))] [Res.cells g12 71 [.b20 z20, .w 0, .w4 [0,0,0,0], .s none 0 0, .s none 0 0],Res.cells g13 40 [.b20 x2]] a w→fe9_.j1 x2=some r→K1 a w:=by
  intro m g12 g13 a w S h0
  delta fe9_.j1 at h0
  refine hK1 a w (c_region (s_loada S rfl .h1 T40 (s':=[.b20 x2]) rfl rfl fun a S=>s_bldS S (ds:=[(0,(.agg [.b20 x2]))]) (zs:=[.b20 z20, .w 0, .w4 [0,0,0,0], .s none 0 0, .s none 0 0]) (s':=[.b20 x2, .w 0, .w4 [0,0,0,0], .s none 0 0, .s none 0 0]) rfl underlying71 P71 Z71 ⟨rfl,rfl,rfl,rfl,rfl,tv⟩ rfl rfl fun a S=>s_store S rfl rfl rfl (s':=[.b20 x2, .w 0, .w4 [0,0,0,0], .s none 0 0, .s none 0 0]) .h T71 rfl rfl fun w S=>s_as1 S rfl fun a S=>c_end (wp_ret ?_)))
  replace S:=S.cellN 3 yb .h rfl
  replace S:=S.cellN 4 Y83 .h rfl
  obtain rfl:=sI h0
  exact b_ret2 (d1:=(.agg (Y71.segs (x2,0,[0,0,0,0],([]:List Int),([]:List ((List Int)×(List Int)))) ((),(),(),(none,0),(none,0))))) (d2:=(.b true)) S rfl (resD_cell rfl .h T71 rfl rfl) rfl fun ok1 ok2=>S.retX (Hx:=[]) hb _ _ ((none,0,none,0):W5) .nil ⟨ok1,⟨ok2,tv⟩,tv⟩
 refine c_region (s_fieldAddr S rfl I75_0 T22 (by decide) rfl rfl fun a S=>s_loadSl S rfl .h2 T22 (A:=ch_0_0) (len:=(x1).length) (cap:=ch_0_1) rfl rfl fun a S=>s_lenS S rfl underlying22 rfl fun a S=>s_mv1 S rfl fun a S=>c_end (wp_block ?_))
 refine c_loop (fun q1 a w=>∃ m y1 g20 g21,St 23 m b0 [(11,(.i y1)),(10,(.i ((x1).length:Int))),(9,(.q Y71 ch_0_0 ch_0_1 x1)),(4,(.p g20)),(3,(.p g21))] [Res.cells g20 71 [.b20 z20, .w 0, .w4 [0,0,0,0], .s none 0 0, .s none 0 0],Res.cells g21 40 [.b20 x2]] a w∧fe9_.l1 x1 x2 q1 y1=some r) ?_ ?_ (k:=k) ⟨_,0,g3,g2,(S.sb rfl (.c0 (.c0 .n))),h0⟩
 ·rintro a w ⟨m,y1,g20,g21,S,h0⟩
  exact (nomatch (show (none:Option W4)=some r from h0))
 ·clear S h0
  rintro q1 a w ⟨m,y1,g20,g21,S,h0⟩
  replace h0:fe9_.b1 x1 x2 (fe9_.l1 x1 x2 q1) y1=some r:=h0
  delta fe9_.b1 at h0
  refine c_region (s_bi S rfl fun a S=>c_end (wp_seq ?_))
  rcases ite_of h0 with ⟨c1,h1⟩ | ⟨c1,h1⟩
  ·refine c_condT S rfl c1 (wp_skip (x_thenN (wp_seq (wp_block (c_region ?_)))))
   obtain ⟨c2,h2⟩:=chk_of h1; clear h1
   refine s_iaddrS S rfl rfl rfl underlying22 T71 c2.1 c2.2 rfl fun p1 a S=>s_ldA S (fun (c:Unit×Unit×Unit×(Option Addr×Nat)×(Option Addr×Nat))=>(Y71.segs (gt x1 y1) c)) rfl T71 (fun _=>rfl) rfl fun ch1 a S=>?_
   refine s_alloc S Z71 rfl ⟨rfl,rfl,rfl,rfl,rfl,tv⟩ rfl fun g22 a w S=>s_store S rfl rfl rfl (s':=(Y71.segs (gt x1 y1) ch1)) .h T71 rfl rfl fun w S=>c_end (c_region (s_fieldAddr S rfl I71_0 T40 (by decide) rfl rfl fun a S=>s_loada S rfl .h T40 (s':=[.b20 ((gt x1 y1).1)]) rfl rfl fun a S=>s_loada S rfl .h2 T40 (s':=[.b20 x2]) rfl rfl fun a S=>s_eqa S rfl rfl underlying40 underlying5 T5 Q40 rfl fun a S=>c_end ?_))
   rcases ite_of h2 with ⟨c3,h3⟩ | ⟨c3,h3⟩
   ·refine c_condT S rfl c3 (c_region (s_loada S rfl .h T71 (s':=(Y71.segs (gt x1 y1) ch1)) rfl rfl fun a S=>s_store S rfl rfl rfl (s':=(Y71.segs (gt x1 y1) ch1)) .h1 T71 rfl rfl fun w S=>s_as1 S rfl fun a S=>c_end (wp_ret (x_blockR (x_thenR (x_thenR (x_blockR (x_thenR ?_))))))))
    obtain rfl:=sI h3
    exact b_ret2 (d1:=(.agg (Y71.segs (gt x1 y1) ch1))) (d2:=(.b true)) S rfl (resD_cell rfl .h1 T71 rfl rfl) rfl fun ok1 ok2=>S.retX (Hx:=[]) hb _ _ ((ch1.e4.1,ch1.e4.2,ch1.e5,ch1.t5):W5) .nil ⟨ok1,⟨ok2,tv⟩,tv⟩
   ·refine c_condF S rfl c3 (wp_skip (x_blockN (x_thenN (c_region' (s_bi S rfl fun a S=>s_mv1 S rfl fun a S=>c_end' (x_thenN ?_))))))
    exact ⟨_,(wr .i64 (y1+1)),g20,g21,(S.sb rfl (.c1 (.c1 .n))),h3⟩
  ·refine c_condF S rfl c1 (wp_exit (x_thenX (x_thenX (x_blockX (x_thenN ?_)))))
   exact j1 _ g20 g21 a w (S.sb rfl (.c0 (.c0 .n))) h1
abbrev fh6_.Ty:Type:=W2→(List Int)→Option W6
def fh6_.Ctr (s:fh6_.Ty):Prop:=∀ {x1:W2} {x2:List Int} {ch_0:W3} {r:W6} (h0:s x1 x2=some r) {mi:Mem} {w0:World},CtrB Tryz.prog 56 [(.v (.pointer (some ⟨ch_0.1,0,none⟩))),(.agg [.b20 x2])] (MS1 x1 ch_0) (fun (ch:W7)=>((.rf (ptrV ch.2.1 r.1) (ptrR ch.2.1 r.1)):D)) (fun (ch:W7)=>(MS1 (x1.1,r.e3,x1.e3,r.e5,r.e6,r.t6) (ch_0.1,ch_0.2.1,ch_0.e3,ch.1,ch.2.1,ch.e3,ch.e4,ch.e5,ch.e6,ch.e7,ch.e8,ch.e9,ch.e10,ch.e11,ch.e12,ch.t12))) mi w0
def fh6_.j2 (x1:W2)(x2:List Int)(y3:List (List Int))(y4:L71):Option W6:=some ((some x1.2.1.2.1.length),((),(aput x1.2.1.1 x2 (some x1.2.1.2.1.length),x1.2.1.2.1++[((x2,y4.2.1,y4.2.2.1,y4.2.2.2.1,y4.2.2.2.2),(x2,y4.2.1,y4.2.2.1,y4.2.2.2.1,y4.2.2.2.2),false,x1.2.1.2.2.1.length,false,false,x1.2.1.2.2.2.length)],x1.2.1.2.2.1++[([]:List ((List Int)×(List Int)))],x1.2.1.2.2.2++[([]:List ((List Int)×Bool))]),(),x1.2.2.2.1,x1.2.2.2.2.1,y3))
abbrev zt1:(List Int)×Int×(List Int)×(List Int)×(List ((List Int)×(List Int))):=([0,0,0,0,0,0,0,0,0,0,0,0,0,0,0,0,0,0,0,0],0,[0,0,0,0],([]:List Int),([]:List ((List Int)×(List Int))))
def fh6_.j1 (x1:W2)(x2:List Int)(y1:Bool)(y2:L71):Option W6:=if (!y1)=true then (if (((x1.2.2.2.2.2).length:Int)==0)=true then (fh6_.j2 x1 x2 [x2] zt1) else (fh6_.j2 x1 x2 x1.2.2.2.2.2 zt1)) else (fh6_.j2 x1 x2 x1.2.2.2.2.2 y2)
def fh6_.f (k:Nat)(x1:W2)(x2:List Int):Option W6:=if ((lk (aget x1.2.1.1 x2) none).2)=true then (some ((lk (aget x1.2.1.1 x2) none).1,((),x1.2.1,(),x1.2.2.2.1,x1.2.2.2.2.1,x1.2.2.2.2.2))) else ((fe9_.f k x1.1 x2).bind fun t1=>(fh6_.j1 x1 x2 t1.2 t1.1))
theorem fh6_.ok (k:Nat):fh6_.Ctr (fh6_.f k):=by
 intro x1 x2 ch_0 r h0 mi w0 ok hm
 delta fh6_.f at h0
 refine c_enterZ (n:=59) ok hm func56 rfl rfl rfl fun b0 hb a S=>c_region (s_box S rfl rfl rfl fun g1 a w S=>s_as1 S rfl fun a S=>c_end (wp_seq ?_))
 refine wp_seq (c_hS S (.tk 0 5 (.alts (.run 5 true (.pure 6 (.pure 7 (.pure 8 (.alts (.run 9 true (.alts (.run 10 true .done .nil)) .nil))))) .nil))) 11 (.c0 (.c0 .n)) ⟨Res.stay_cells,Res.stay_cells,tv⟩ [(3,(.p g1)),(0,(.v (.pointer (some ⟨ch_0.1,0,none⟩))))] rfl (by kernel_rfl) ?_); clear S; intro w S CL hw le
 refine h_mv1 S CL hw le rfl tv fun a S CL=>h_nilchk S CL hw le (subR rfl) rfl rfl rfl rfl tv fun a S CL=>h_fieldAddr S CL hw le (subR rfl) rfl I79_1 T76 (by decide) rfl rfl rfl tv fun a S CL=>h_load1 S CL hw le (subR rfl) rfl .h1 T76 (v:=(.map (some ch_0.e4))) rfl rfl rfl tv fun a S CL=>h_loada S CL hw le (subR rfl) rfl .h T40 (s':=[.b20 x2]) rfl rfl rfl tv fun a S CL=>h_run' S rfl tv (s_lookO S (z:=none) (k:=x2) rfl .h2 () rfl (fun h=>⟨(),rfl,h⟩) underlying76 KT40 Z111 ⟨⟨rfl,(fun _ h=>by cases h),ptrR.mono _ _⟩,tv⟩ rfl fun ch1 a S=>CL.bk hw S (.c0 (.c0 .n)) le fun hw=>p_move S rfl rfl rfl tv fun a S=>p_extract S rfl rfl rfl rfl rfl tv fun a S=>p_extract S rfl rfl rfl rfl rfl tv fun a S=>h_run' S rfl tv (s_as1 S rfl fun a S=>CL.bk hw S (.c0 (.c0 .n)) le fun hw=>h_run' S rfl tv (s_as1 S rfl fun a S=>CL.bk hw S (.c0 (.c0 .n)) le fun hw=>?_)))
 refine h_done ?_; clear CL hw le
 refine x_thenN (c_region (s_mv1 S rfl fun a S=>c_end ?_))
 rcases ite_of h0 with ⟨c1,h1⟩ | ⟨c1,h1⟩
 ·refine c_condT S rfl c1 (c_region (s_mv1 S rfl fun a S=>s_as1 S rfl fun a S=>c_end (wp_ret (x_thenR ?_))))
  obtain rfl:=sI h1
  exact b_ret1 (d:=(.rf (ptrV ch_0.e5 ((lk (aget x1.2.1.1 x2) none).1)) (ptrR ch_0.e5 ((lk (aget x1.2.1.1 x2) none).1)))) S rfl rfl fun ok=>S.retX (Hx:=[]) hb _ _ (ch_0.t3:W7) (.c1 (.c1 (.c1 (.c1 (.c1 (.c1 (.c1 (.c1 .n)))))))) ok
 ·refine c_condF S rfl c1 (wp_skip (x_thenN (wp_seq_k fun K1 hK1=>?_)))
  have j1:∀ m y1 g3 g4 y2 cc1 a w,St 59 m b0 [(8,(.b y1)),(7,(.p g3)),(3,(.p g4)),(0,(.v (.pointer (some ⟨ch_0.1,0,none⟩))))] ([Res.cells g3 71 (Y71.segs y2 cc1),Res.cells g4 40 [.b20 x2]]++MS1 x1 ch_0) a w→fh6_.j1 x1 x2 y1 y2=some r→K1 a w:=by
   intro m y1 g3 g4 y2 cc1 a w S h0
   delta fh6_.j1 at h0
   refine hK1 a w (wp_seq_k fun K2 hK2=>?_)
   have j2:∀ m g6 g7 A1 nn1 cp1 y3 y4 cc2 a w,St 59 m b0 [(7,(.p g6)),(3,(.p g7)),(0,(.v (.pointer (some ⟨ch_0.1,0,none⟩))))] ([Res.cells g6 71 (Y71.segs y4 cc2),Res.cells g7 40 [.b20 x2]]++MS1 (x1.1,x1.2.1,x1.e3,x1.e4,x1.e5,y3) (ch_0.1,ch_0.2.1,ch_0.e3,ch_0.e4,ch_0.e5,ch_0.e6,ch_0.e7,ch_0.e8,ch_0.e9,ch_0.e10,ch_0.e11,ch_0.e12,ch_0.e13,A1,nn1,cp1)) a w→fh6_.j2 x1 x2 y3 y4=some r→K2 a w:=by
    intro m g6 g7 A1 nn1 cp1 y3 y4 cc2 a w S h0
    delta fh6_.j2 at h0
    refine hK2 a w (c_region (s_loada S rfl .h1 T40 (s':=[.b20 x2]) rfl rfl fun a S=>s_fieldAddr S rfl I71_0 T40 (by decide) rfl rfl fun a S=>s_storeJ S 0 rfl rfl rfl rfl .h T40 rfl rfl fun w S=>c_end (c_region (s_loada S rfl .h T71 (s':=(Y71.segs (x2,y4.2.1,y4.e3,y4.e4,y4.t4) cc2)) rfl rfl fun a S=>s_loada S rfl .h T71 (s':=(Y71.segs (x2,y4.2.1,y4.e3,y4.e4,y4.t4) cc2)) rfl rfl fun a S=>s_makeMap S true (Ty.arr .u64 4) true (Ty.arr .u64 4) rfl fun g8 a w S=>s_makeMap S true (Ty.arr .u64 4) false Ty.bool rfl fun g9 a w S=>s_bldS S (ds:=[(0,(.agg (Y71.segs (x2,y4.2.1,y4.e3,y4.e4,y4.t4) cc2))),(1,(.agg (Y71.segs (x2,y4.2.1,y4.e3,y4.e4,y4.t4) cc2))),(3,(.v (.map (some g8)))),(6,(.v (.map (some g9))))]) (zs:=[.b20 z20, .w 0, .w4 [0,0,0,0], .s none 0 0, .s none 0 0, .b20 z20, .w 0, .w4 [0,0,0,0], .s none 0 0, .s none 0 0, .b false, .one (.map none), .b false, .b false, .one (.map none)]) (s':=[.b20 x2, .w y4.2.1, .w4 y4.e3, .q yb cc2.e4.1 cc2.e4.2 y4.e4, .q Y83 cc2.e5 cc2.t5 y4.t4, .b20 x2, .w y4.2.1, .w4 y4.e3, .q yb cc2.e4.1 cc2.e4.2 y4.e4, .q Y83 cc2.e5 cc2.t5 y4.t4, .b false, .one (.map (some g8)), .b false, .b false, .one (.map (some g9))]) rfl underlying110 P110 Z110 ⟨rfl,rfl,rfl,rfl,rfl,rfl,rfl,rfl,rfl,rfl,rfl,rfl,rfl,rfl,rfl,tv⟩ rfl rfl fun a S=>s_box S rfl rfl rfl fun g10 a w S=>s_as1 S rfl fun a S=>c_end ?_))))
    refine wp_seq (c_hS S (.tk 0 6 (.alts (.run 6 true .done .nil))) 7 (.c4 (.c4 .n)) ⟨Res.stay_cells,Res.stay_cells,tv⟩ [(9,(.p g10)),(3,(.p g7)),(0,(.v (.pointer (some ⟨ch_0.1,0,none⟩))))] rfl (by kernel_rfl) ?_); clear S; intro w S CL hw le
    refine h_mv1 S CL hw le rfl tv fun a S CL=>h_nilchk S CL hw le (subR rfl) rfl rfl rfl rfl tv fun a S CL=>h_fieldAddr S CL hw le (subR rfl) rfl I79_1 T76 (by decide) rfl rfl rfl tv fun a S CL=>h_load1 S CL hw le (subR rfl) rfl .h1 T76 (v:=(.map (some ch_0.e4))) rfl rfl rfl tv fun a S CL=>h_loada S CL hw le (subR rfl) rfl .h T40 (s':=[.b20 x2]) rfl rfl rfl tv fun a S CL=>h_mv1 S CL hw le rfl tv fun a S CL=>h_run' S rfl tv ?_
    have hS:=S.famAdd .h2 .h7
    clear S; obtain ⟨S,hn1⟩:=hS
    replace S:=S.cellMid (s1:=[.b20 x2, .w y4.2.1, .w4 y4.e3, .q yb cc2.e4.1 cc2.e4.2 y4.e4, .q Y83 cc2.e5 cc2.t5 y4.t4, .b20 x2, .w y4.2.1, .w4 y4.e3, .q yb cc2.e4.1 cc2.e4.2 y4.e4, .q Y83 cc2.e5 cc2.t5 y4.t4, .b false]) (s2:=[.b false, .b false, .one (.map (some g9))]) (bAt_last _ _ hn1) (by rw [hn1]; simp) .h
    replace S:=S.famSub (F':=Res.struct (YE110 (ch_0.e6++[g8]) ch_0.e7) 110) (hF':=one_struct _ _) (fun _ _ _ _ h=>struct_sub (YS110_0 ch_0.e6 ch_0.e7 g8) _ _ _ _ _ h) .h6
    replace S:=S.rowSub (YCs_1 ch_0.1 ch_0.e5 ch_0.e6 ch_0.e7 g8) .h10
    have hS:=S.famAdd .h1 .h7
    clear S; obtain ⟨S,hn2⟩:=hS
    replace S:=S.cellMid (s1:=[.b20 x2, .w y4.2.1, .w4 y4.e3, .q yb cc2.e4.1 cc2.e4.2 y4.e4, .q Y83 cc2.e5 cc2.t5 y4.t4, .b20 x2, .w y4.2.1, .w4 y4.e3, .q yb cc2.e4.1 cc2.e4.2 y4.e4, .q Y83 cc2.e5 cc2.t5 y4.t4, .b false, .rf (.map (some (bAt (ch_0.e6++[g8]) x1.2.1.e3.length))) (ltR x1.2.1.e3.length (ch_0.e6++[g8])), .b false, .b false]) (s2:=[]) (bAt_last _ _ hn2) (by rw [hn2]; simp) .h
    replace S:=S.famSub (F':=Res.struct (YE110 (ch_0.e6++[g8]) (ch_0.e7++[g9])) 110) (hF':=one_struct _ _) (fun _ _ _ _ h=>struct_sub (YS110_1 (ch_0.e6++[g8]) ch_0.e7 g9) _ _ _ _ _ h) .h5
    replace S:=S.rowSub (YCs_2 ch_0.1 ch_0.e5 (ch_0.e6++[g8]) ch_0.e7 g9) .h9
    replace S:=S.structClose (T:=(YE110 (ch_0.e6++[g8]) (ch_0.e7++[g9]))) (e:=((x2,y4.2.1,y4.e3,y4.e4,y4.t4),(x2,y4.2.1,y4.e3,y4.e4,y4.t4),false,x1.2.1.e3.length,false,false,x1.2.1.t3.length)) ((cc2,cc2,(),(),(),(),()):((YE110 (ch_0.e6++[g8]) (ch_0.e7++[g9]))).Ch) rfl .h
    have hS:=S.famAdd .h .h4
    clear S; obtain ⟨S,hn3⟩:=hS
    replace S:=S.mapSub (fun m x v h=>vl_pid g10 m x v h) .h3
    replace S:=S.rowSub (YCs_0 ch_0.1 ch_0.e5 (ch_0.e6++[g8]) (ch_0.e7++[g9]) g10) .h8
    replace S:=S.slotPB (u:=57) (i:=x1.2.1.2.1.length) (g:=g10) (G:=(ch_0.e5++[g10])) (by rw [hn3]; simp) (bAt_last _ _ hn3) rfl
    replace S:=S.slotPB (u:=9) (i:=x1.2.1.2.1.length) (g:=g10) (G:=(ch_0.e5++[g10])) (by rw [hn3]; simp) (bAt_last _ _ hn3) rfl
    replace S:=S.slotPB (u:=51) (i:=x1.2.1.2.1.length) (g:=g10) (G:=(ch_0.e5++[g10])) (by rw [hn3]; simp) (bAt_last _ _ hn3) rfl
    refine s_mapput S (k:=x2) (y:=(some x1.2.1.2.1.length)) rfl .h3 rfl (fun h=>⟨(),rfl,h⟩) rfl (fun h=>⟨(),rfl,h,tv⟩) underlying76 KT40 fun w S=>CL.bk hw S (.c1 (.c1 .n)) le fun hw=>?_
    refine h_done ?_; clear CL hw le
    refine x_thenN (c_region (s_mv1 S rfl fun a S=>s_as1 S rfl fun a S=>c_end (wp_ret ?_)))
    obtain rfl:=sI h0
    exact b_ret1 (d:=(.rf (ptrV (ch_0.e5++[g10]) (some x1.2.1.2.1.length)) (ptrR (ch_0.e5++[g10]) (some x1.2.1.2.1.length)))) S rfl rfl fun ok=>S.retX (Hx:=[]) hb _ _ ((ch_0.e4,(ch_0.e5++[g10]),(ch_0.e6++[g8]),(ch_0.e7++[g9]),ch_0.e8,ch_0.e9,ch_0.e10,ch_0.e11,ch_0.e12,ch_0.e13,A1,nn1,cp1):W7) (.c2 (.c2 (.c2 (.c2 (.c2 (.c2 (.c2 (.c2 .n)))))))) ok
   refine c_region (s_mv1 S rfl fun a S=>s_not S rfl rfl fun a S=>c_end ?_)
   rcases ite_of h0 with ⟨c2,h1⟩ | ⟨c2,h1⟩
   ·refine c_condT S rfl c2 (c_region (s_bldS S (ds:=[]) (zs:=[.b20 z20, .w 0, .w4 [0,0,0,0], .s none 0 0, .s none 0 0]) (s':=[.b20 z20, .w 0, .w4 [0,0,0,0], .s none 0 0, .s none 0 0]) rfl underlying71 P71 Z71 ⟨rfl,rfl,rfl,rfl,rfl,tv⟩ rfl rfl fun a S=>s_store S rfl rfl rfl (s':=[.b20 z20, .w 0, .w4 [0,0,0,0], .s none 0 0, .s none 0 0]) .h T71 rfl rfl fun w S=>c_end (c_region (s_mv1 S rfl fun a S=>s_nilchk S rfl rfl fun a S=>s_fieldAddr S rfl I79_5 T32 (by decide) rfl rfl fun a S=>s_load1 S rfl .h2 T32 (v:=(.slice ch_0.e14 ch_0.e15 ch_0.t15)) rfl rfl fun a S=>s_lenO S rfl .h9 underlying32 rfl fun a S=>s_bi S rfl fun a S=>c_end ?_))))
    rcases ite_of h1 with ⟨c3,h2⟩ | ⟨c3,h2⟩
    ·refine c_condT S rfl c3 (c_region' (s_mv1 S rfl fun a S=>s_loada S rfl .h1 T40 (s':=[.b20 x2]) rfl rfl fun a S=>s_bldSl S (ty':=(Ty.arr .u8 20)) (ds:=[(0,(.agg [.b20 x2]))]) (z:=z20) (c0:=()) (ys:=[x2]) (cs:=[()]) rfl underlying32 J40 Z40 rfl ⟨rfl,tv⟩ rfl rfl rfl rfl rfl rfl fun g11 a w S=>s_nilchk S rfl rfl fun a S=>s_fieldAddr S rfl I79_5 T32 (by decide) rfl rfl fun a S=>s_storeJ S 5 rfl rfl rfl rfl .h3 T32 rfl rfl fun w S=>c_end' (x_thenN ?_)))
     replace S:=S.cellN 3 yb .h1 rfl
     replace S:=S.cellN 4 Y83 .h1 rfl
     exact j2 _ g3 g4 (ad g11) 1 1 [x2] zt1 ((),(),(),(none,0),(none,0)) a w (S.sb rfl (.c1 (.c1 (.c1 (.c1 (.c1 (.c1 (.c1 (.c1 (.c1 (.c0 .n))))))))))) h2
    ·refine c_condF S rfl c3 (wp_skip (x_thenN ?_))
     replace S:=S.cellN 3 yb .h rfl
     replace S:=S.cellN 4 Y83 .h rfl
     exact j2 _ g3 g4 ch_0.e14 ch_0.e15 ch_0.t15 x1.t5 zt1 ((),(),(),(none,0),(none,0)) a w (S.sb rfl (.c0 (.c0 (.c0 (.c0 (.c0 (.c0 (.c0 (.c0 (.c0 (.c0 .n))))))))))) h2
   ·refine c_condF S rfl c2 (wp_skip (x_thenN ?_))
    exact j2 _ g3 g4 ch_0.e14 ch_0.e15 ch_0.t15 x1.t5 y2 cc1 a w (S.sb rfl (.c0 (.c0 (.c0 (.c0 (.c0 (.c0 (.c0 (.c0 (.c0 (.c0 .n))))))))))) h1
  refine c_hS S (.tk 0 5 (.alts (.run 5 false (.pure 6 (.pure 7 (.pure 8 (.alts (.run 9 false (.alts (.run 10 false (.alts (.run 11 false .done .nil)) .nil)) .nil))))) (.run 9 true (.alts (.run 5 false (.pure 6 (.pure 7 (.pure 8 (.alts (.run 10 false (.alts (.run 11 false .done .nil)) .nil))))) .nil)) .nil)))) 5 (.c0 (.c0 .n)) ⟨Res.stay_cells,Res.stay_cells,tv⟩ [(3,(.p g1)),(0,(.v (.pointer (some ⟨ch_0.1,0,none⟩))))] rfl (by kernel_rfl) fun w S CL hw le=>?_
  refine h_mv1 S CL hw le rfl tv fun a S CL=>h_nilchk S CL hw le (subR rfl) rfl rfl rfl rfl tv fun a S CL=>h_fieldAddr S CL hw le (subR rfl) rfl I79_0 T29 (by decide) rfl rfl rfl tv fun a S CL=>h_loadM S CL hw le (subR rfl) rfl .h1 T29 (v:=(.iface 75 (.agg (cellsOf [.q Y71 ch_0.2.1 ch_0.e3 x1.1]).toArray))) rfl rfl rfl tv fun a S CL=>h_loada S CL hw le (subR rfl) rfl .h T40 (s':=[.b20 x2]) rfl rfl rfl tv fun a S CL=>bindX h1 fun t1 et1 h2=>h_alts ?_
  refine h_runO S rfl tv ?_ ?_
  ·refine s_callKI S (d0:=(.agg [.q Y71 ch_0.2.1 ch_0.e3 x1.1])) (ds':=[(.agg [.b20 x2])]) (ds:=[(.agg [.b20 x2])]) (fe9_.ok k et1) N146 M75_Account rfl rfl (fun h=>h) rfl rfl (fun ok=>ok) .pre (fun _=> .n) rfl fun ch3 m le1 a w S=>?_
   replace le:=le.trans le1
   refine h_back ⟨fun h=>(nomatch h),?_⟩
   refine p_move S rfl rfl rfl tv fun a S=>p_extract S rfl rfl rfl rfl rfl tv fun a S=>p_extract S rfl rfl rfl rfl rfl tv fun a S=>h_run' S rfl tv (s_alloc S Z71 rfl ⟨rfl,rfl,rfl,rfl,rfl,tv⟩ rfl fun g12 a w S=>?_)
   refine h_back ⟨fun h=>(nomatch h),?_⟩
   refine h_run' S rfl tv (s_store S rfl rfl rfl (s':=(Y71.segs t1.1 ((),(),(),(ch3.1,ch3.2.1),ch3.t2))) .h T71 rfl rfl fun w S=>?_)
   refine h_back ⟨fun h=>(nomatch h),?_⟩
   refine h_run' S rfl tv (s_as1 S rfl fun a S=>?_)
   refine h_back ⟨fun h=>(nomatch h),?_⟩
   refine h_done ?_; clear CL hw le
   refine x_thenN ?_
   exact j1 _ t1.2 g12 g1 t1.1 ((),(),(),(ch3.1,ch3.2.1),ch3.t2) a w (S.sb rfl (.c0 (.c0 (.c0 (.c0 (.c0 (.c0 (.c0 (.c0 (.c0 (.c0 .n))))))))))) h2
  refine h_runO S rfl tv ?_ ?_
  ·refine s_alloc S Z71 rfl ⟨rfl,rfl,rfl,rfl,rfl,tv⟩ rfl fun g12 a w S=>CL.bk hw S (.c1 (.c1 .n)) le fun hw=>h_run' S rfl tv (s_callKI S (d0:=(.agg [.q Y71 ch_0.2.1 ch_0.e3 x1.1])) (ds':=[(.agg [.b20 x2])]) (ds:=[(.agg [.b20 x2])]) (fe9_.ok k et1) N146 M75_Account rfl rfl (fun h=>h) rfl rfl (fun ok=>ok) .pre (fun _=> .n) rfl fun ch3 m le1 a w S=>?_)
   replace le:=le.trans le1
   refine h_back ⟨fun h=>(nomatch h),?_⟩
   refine p_move S rfl rfl rfl tv fun a S=>p_extract S rfl rfl rfl rfl rfl tv fun a S=>p_extract S rfl rfl rfl rfl rfl tv fun a S=>h_run' S rfl tv (s_store S rfl rfl rfl (s':=(Y71.segs t1.1 ((),(),(),(ch3.1,ch3.2.1),ch3.t2))) .h T71 rfl rfl fun w S=>?_)
   refine h_back ⟨fun h=>(nomatch h),?_⟩
   refine h_run' S rfl tv (s_as1 S rfl fun a S=>?_)
   refine h_back ⟨fun h=>(nomatch h),?_⟩
   refine h_done ?_; clear CL hw le
   refine x_thenN ?_
   exact j1 _ t1.2 g12 g1 t1.1 ((),(),(),(ch3.1,ch3.2.1),ch3.t2) a w (S.sb rfl (.c0 (.c0 (.c0 (.c0 (.c0 (.c0 (.c0 (.c0 (.c0 (.c0 .n))))))))))) h2
  exact h_nil
abbrev fd1_.Ty:Type:=W2→Clo→Option W8
def fd1_.Ctr (s:fd1_.Ty):Prop:=∀ {x1:W2} {x2:Clo} {ch_0:W3} {ch_1_0:List Addr} {r:W8} (h0:s x1 x2=some r) {mi:Mem} {w0:World},CtrB Tryz.prog 68 [(.v (.pointer (some ⟨ch_0.1,0,none⟩))),(.rf (cloV x2 ch_1_0) (cloR ch_0.1 ch_0.e5 ch_0.e6 ch_0.e7 x2 ch_1_0))] (MS1 x1 ch_0) (fun (ch:(Option Addr)×Nat×Nat)=>((.tup []):D)) (fun (ch:(Option Addr)×Nat×Nat)=>(MS1 (x1.1,x1.2.1,x1.e3,x1.e4,r.e5,x1.t5) (ch_0.1,ch_0.2.1,ch_0.e3,ch_0.e4,ch_0.e5,ch_0.e6,ch_0.e7,ch_0.e8,ch_0.e9,ch_0.e10,ch.1,ch.2.1,ch.t2,ch_0.e14,ch_0.e15,ch_0.t15))) mi w0
def fd1_.f (x1:W2)(x2:Clo):Option W8:=if ((x1.2.2.2.2.1).length+([x2]).length)*8≤140737488355328 then (some ((),(),(),(),x1.2.2.2.2.1++[x2],())) else none
theorem fd1_.ok:fd1_.Ctr (fd1_.f):=by
 intro x1 x2 ch_0 ch_1_0 r h0 mi w0 ok hm
 delta fd1_.f at h0
 refine c_enterZ (n:=14) ok hm func68 rfl rfl rfl fun b0 hb a S=>c_region' (s_mv2 S rfl fun a S=>s_nilchk S rfl rfl fun a S=>s_fieldAddr S rfl I79_4 T77 (by decide) rfl rfl fun a S=>s_load1 S rfl .h T77 (v:=(.slice ch_0.e11 ch_0.e12 ch_0.e13)) rfl rfl fun a S=>s_mv1 S rfl fun a S=>s_bldSl S (ty':=(YC ch_0.1 ch_0.e5 ch_0.e6 ch_0.e7)) (ds:=[(0,(.rf (cloV x2 ch_1_0) (cloR ch_0.1 ch_0.e5 ch_0.e6 ch_0.e7 x2 ch_1_0)))]) (z:=Clo.nil) (c0:=[]) (ys:=[x2]) (cs:=[ch_1_0]) rfl underlying77 J1 Z1 rfl ⟨⟨rfl,tv,cloM _ _ _ _ _ _⟩,tv⟩ rfl rfl rfl rfl rfl rfl fun g1 a w S=>?_)
 obtain ⟨c1,h1⟩:=chk_of h0; clear h0
 refine s_app S (k2:=1) (ys:=[x2]) rfl (fun _ _=> .h7) rfl rfl (S.holds _ (Pull.mem .h).1).1 (Res.row.src (S.holds _ (Pull.mem .h).1)) underlying77 J1 c1 rfl fun A1 cp1 a w S=>s_nilchk S rfl rfl fun a S=>s_fieldAddr S rfl I79_4 T77 (by decide) rfl rfl fun a S=>s_storeJ S 4 rfl rfl rfl rfl .h1 T77 rfl rfl fun w S=>c_end' (b_end ?_)
 obtain rfl:=sI h1
 exact b_ret0 S rfl (S.retX (Hx:=[]) hb _ _ ((A1,ch_0.e12+1,cp1):(Option Addr)×Nat×Nat) (.c1 (.c1 (.c1 (.c1 (.c1 (.c1 (.c1 (.c1 .n)))))))) tv)
abbrev fh3_.Ty:Type:=W2→(List Int)→(List Int)→(List Int)→Option W9
def fh3_.Ctr (s:fh3_.Ty):Prop:=∀ {x1:W2} {x2:List Int} {x3:List Int} {x4:List Int} {ch_0:W3} {r:W9} (h0:s x1 x2 x3 x4=some r) {mi:Mem} {w0:World},CtrB Tryz.prog 32 [(.v (.pointer (some ⟨ch_0.1,0,none⟩))),(.agg [.b20 x2]),(.a4 x3),(.a4 x4)] (MS1 x1 ch_0) (fun (ch:W7)=>((.tup []):D)) (fun (ch:W7)=>(MS1 (x1.1,r.2.1,x1.e3,r.e4,r.e5,r.t5) (ch_0.1,ch_0.2.1,ch_0.e3,ch.1,ch.2.1,ch.e3,ch.e4,ch.e5,ch.e6,ch.e7,ch.e8,ch.e9,ch.e10,ch.e11,ch.e12,ch.t12))) mi w0
def fh3_.f (k:Nat)(x1:W2)(x2:List Int)(x3:List Int)(x4:List Int):Option W9:=(fh6_.f k x1 x2).bind fun t1=>(if t1.1.isSome=true then ((fd1_.f (x1.1,t1.2.2.1,x1.2.2.1,t1.2.2.2.2.1,t1.2.2.2.2.2.1,t1.2.2.2.2.2.2) (Clo.c72 ((lk (aget (atE t1.2.2.1.2.2.1 ((atE t1.2.2.1.2.1 (t1.1.getD 0)).2.2.2.1)) x3) [0,0,0,0]).2) ((lk (aget (atE t1.2.2.1.2.2.1 ((atE t1.2.2.1.2.1 (t1.1.getD 0)).2.2.2.1)) x3) [0,0,0,0]).1) ((atE t1.2.2.1.2.1 (t1.1.getD 0)).2.2.2.1) x3)).bind fun t2=>(some ((),(t1.2.2.1.1,t1.2.2.1.2.1,t1.2.2.1.2.2.1.set ((atE t1.2.2.1.2.1 (t1.1.getD 0)).2.2.2.1) (aput (atE t1.2.2.1.2.2.1 ((atE t1.2.2.1.2.1 (t1.1.getD 0)).2.2.2.1)) x3 x4),t1.2.2.1.2.2.2),(),t1.2.2.2.2.1,t2.2.2.2.2.1,t1.2.2.2.2.2.2))) else none)
theorem fh3_.ok (k:Nat):fh3_.Ctr (fh3_.f k):=by
 intro x1 x2 x3 x4 ch_0 r h0 mi w0 ok hm
 delta fh3_.f at h0
 refine c_enterZ (n:=31) ok hm func32 rfl rfl rfl fun b0 hb a S=>c_region (s_box S rfl rfl rfl fun g1 a w S=>s_box S rfl rfl rfl fun g2 a w S=>s_box S rfl rfl rfl fun g3 a w S=>c_end (wp_seq (c_region (s_mv1 S rfl fun a S=>s_eqp S (b:=false) rfl rfl underlying26 rfl rfl fun a S=>c_end (c_condF S rfl rfl (wp_skip (x_thenN (c_region (s_mv1 S rfl fun a S=>s_loada S rfl .h2 T40 (s':=[.b20 x2]) rfl rfl fun a S=>bindX h0 fun t1 et1 h1=>s_callK S (fh6_.ok k (ch_0:=ch_0) et1) N56 rfl (.sk (.sk (.sk .pre))) (fun _=> .c8) rfl fun ch1 m le1 a w S=>?_)))))))))
 obtain ⟨c1,h2⟩:=chk_of h1; clear h1
 have hl1:=S.slotPlt (u:=15) c1 rfl
 replace S:=S.slotP (u:=15) c1 rfl
 refine s_nilchk S rfl rfl fun a S=>s_fieldAddr S rfl I110_3 T107 (by decide) rfl rfl fun a S=>?_
 replace S:=S.famOpen (i:=(t1.1.getD 0)) hl1 .h2
 have hS:=S.structOpen (T:=(YE110 ch1.e3 ch1.e4)) (fun _=> .h) (((),(),(),(none,0),(none,0)),((),(),(),(none,0),(none,0)),(),(),(),(),())
 clear S; obtain ⟨ch2,S⟩:=hS
 refine s_loadM S rfl .h T107 (v:=(.map (some (bAt ch1.e3 ((atE t1.e3.2.1 (t1.1.getD 0)).e4))))) rfl rfl fun a S=>?_
 replace S:=S.structClose (T:=(YE110 ch1.e3 ch1.e4)) (e:=atE t1.e3.2.1 (t1.1.getD 0)) (ch2:((YE110 ch1.e3 ch1.e4)).Ch) rfl .h
 replace S:=S.famShut hl1 .h .h2
 refine s_alloc S Z107 rfl rfl rfl fun g4 a w S=>s_storeJ S 0 rfl rfl rfl rfl .h T107 rfl rfl fun w S=>c_end (c_region (s_loadM S rfl .h T107 (v:=(.map (some (bAt ch1.e3 ((atE t1.e3.2.1 (t1.1.getD 0)).e4))))) rfl rfl fun a S=>s_loada S rfl .h10 T43 (s':=[.w4 x3]) rfl rfl fun a S=>?_))
 have hm1:=S.slotLt (u:=20) rfl
 replace S:=S.slotMid (u:=20) rfl
 replace S:=S.famOpen (i:=((atE t1.e3.2.1 (t1.1.getD 0)).e4)) hm1 .h4
 refine s_lookO S (z:=[0,0,0,0]) (k:=x3) rfl .h () rfl (fun h=>⟨(),rfl,h⟩) underlying107 KT43 Z43 ⟨rfl,tv⟩ rfl fun ch3 a S=>?_
 replace S:=S.famShut hm1 .h .h4
 replace S:=S.slotMidB (u:=20) hm1 rfl
 refine s_mv1 S rfl fun a S=>s_extract S rfl rfl rfl rfl fun a S=>s_extract S rfl rfl rfl rfl fun a S=>s_alloc S Z43 rfl ⟨rfl,tv⟩ rfl fun g5 a w S=>s_alloc S Z4 rfl rfl rfl fun g6 a w S=>s_storeJ S 0 rfl rfl rfl rfl .h1 T43 rfl rfl fun w S=>s_storeJ S 0 rfl rfl rfl rfl .h T4 rfl rfl fun w S=>c_end (c_region (s_mv1 S rfl fun a S=>?_))
 replace S:=S.freeze .h
 obtain ⟨m,le1,S⟩:=S
 replace S:=S.freeze .h1
 obtain ⟨m,le1,S⟩:=S
 replace S:=S.freeze .h2
 obtain ⟨m,le1,S⟩:=S
 replace S:=S.freeze .h12
 obtain ⟨m,le1,S⟩:=S
 replace S:=S.slotAt (u:=10) (g:=g6) (t:=4) (T:=Ty.bool) (x:=(lk (aget (atE t1.e3.e3 ((atE t1.e3.2.1 (t1.1.getD 0)).e4)) x3) [0,0,0,0]).2) (c:=(():(Ty.bool).Ch)) .h rfl rfl
 replace S:=S.slotAt (u:=9) (g:=g5) (t:=43) (T:=(Ty.arr .u64 4)) (x:=(lk (aget (atE t1.e3.e3 ((atE t1.e3.2.1 (t1.1.getD 0)).e4)) x3) [0,0,0,0]).1) (c:=(():((Ty.arr .u64 4)).Ch)) .h1 rfl rfl
 replace S:=S.slotAt (u:=8) (g:=g4) (t:=107) (T:=(Ty.mid ch1.e3)) (x:=(atE t1.e3.2.1 (t1.1.getD 0)).e4) (c:=(():((Ty.mid ch1.e3)).Ch)) .h2 rfl rfl
 replace S:=S.slotAt (u:=6) (g:=g2) (t:=43) (T:=(Ty.arr .u64 4)) (x:=x3) (c:=(():((Ty.arr .u64 4)).Ch)) .h12 rfl rfl
 refine s_mkFn S (ds:=[(.pt ⟨g6,0,none⟩ (At Ty.bool ⟨g6,0,none⟩ ((lk (aget (atE t1.e3.e3 ((atE t1.e3.2.1 (t1.1.getD 0)).e4)) x3) [0,0,0,0]).2))),(.pt ⟨g5,0,none⟩ (At (Ty.arr .u64 4) ⟨g5,0,none⟩ ((lk (aget (atE t1.e3.e3 ((atE t1.e3.2.1 (t1.1.getD 0)).e4)) x3) [0,0,0,0]).1))),(.pt ⟨g4,0,none⟩ (At (Ty.mid ch1.e3) ⟨g4,0,none⟩ ((atE t1.e3.2.1 (t1.1.getD 0)).e4))),(.pt ⟨g2,0,none⟩ (At (Ty.arr .u64 4) ⟨g2,0,none⟩ x3))]) rfl rfl fun a S=>?_
 replace S:=S.slotFn (u:=26) (V:=cloV) (R:=cloR ch_0.1 ch1.2.1 ch1.e3 ch1.e4) (Clo.c72 ((lk (aget (atE t1.e3.e3 ((atE t1.e3.2.1 (t1.1.getD 0)).e4)) x3) [0,0,0,0]).2) ((lk (aget (atE t1.e3.e3 ((atE t1.e3.2.1 (t1.1.getD 0)).e4)) x3) [0,0,0,0]).1) ((atE t1.e3.2.1 (t1.1.getD 0)).e4) x3) ([⟨g6,0,none⟩,⟨g5,0,none⟩,⟨g4,0,none⟩,⟨g2,0,none⟩]:List Addr) rfl (fun h=>⟨h.1.1,h.2.1.1,h.2.2.1.1,h.2.2.2.1.1,tv⟩) (cloM _ _ _ _ _ _) rfl
 replace S:=S.slot (u:=10) (d':= .v (.pointer (ad g6))) rfl rfl rfl
 replace S:=S.slot (u:=9) (d':= .v (.pointer (ad g5))) rfl rfl rfl
 replace S:=S.slot (u:=8) (d':= .v (.pointer (ad g4))) rfl rfl rfl
 replace S:=S.slot (u:=6) (d':= .v (.pointer (ad g2))) rfl rfl rfl
 refine bindX h2 fun t2 et2 h3=>s_callK S (fd1_.ok (ch_0:=(ch_0.1,ch_0.2.1,ch_0.e3,ch1.1,ch1.2.1,ch1.e3,ch1.e4,ch1.e5,ch1.e6,ch1.e7,ch1.e8,ch1.e9,ch1.e10,ch1.e11,ch1.e12,ch1.t12)) et2) N68 rfl (.sk (.sk (.sk .pre))) (fun _=> .c8) rfl fun ch4 m le1 a w S=>c_end (c_region' (s_loadMF S rfl .h10 T107 (v:=(.map (some (bAt ch1.e3 ((atE t1.e3.2.1 (t1.1.getD 0)).e4))))) rfl rfl fun a S=>s_loadaF S rfl .h12 T43 (s':=[.w4 x3]) rfl rfl fun a S=>s_loada S rfl .h11 T43 (s':=[.w4 x4]) rfl rfl fun a S=>?_))
 have hm2:=S.slotLt (u:=28) rfl
 replace S:=S.slotMid (u:=28) rfl
 replace S:=S.famOpen (i:=((atE t1.e3.2.1 (t1.1.getD 0)).e4)) hm2 .h3
 refine s_mapput S (k:=x3) (y:=x4) rfl .h rfl (fun h=>⟨(),rfl,h⟩) rfl (fun h=>⟨(),rfl,h⟩) underlying107 KT43 fun w S=>?_
 replace S:=S.famClose hm2 .h .h3
 replace S:=S.slotMidB (u:=28) hm2 rfl
 refine c_end' (b_end ?_)
 obtain rfl:=sI h3
 exact b_ret0 S rfl (S.retX (Hx:=[]) hb _ _ ((ch1.1,ch1.2.1,ch1.e3,ch1.e4,ch1.e5,ch1.e6,ch1.e7,ch4.1,ch4.2.1,ch4.t2,ch1.e11,ch1.e12,ch1.t12):W7) (.c0 (.c0 (.c0 (.c0 (.c0 (.c0 (.c0 (.c0 .n)))))))) tv)
abbrev fg7_.Ty:Type:=W2→Option Int
def fg7_.Ctr (s:fg7_.Ty):Prop:=∀ {x1:W2} {ch_0:W3} {r:Int} (h0:s x1=some r) {mi:Mem} {w0:World},CtrB Tryz.prog 13 [(.v (.pointer (some ⟨ch_0.1,0,none⟩)))] (MS1 x1 ch_0) (fun (ch:Unit)=>((.i r):D)) (fun (ch:Unit)=>(MS1 x1 ch_0)) mi w0
def fg7_.f (x1:W2):Option Int:=some ((x1.2.2.2.2.1).length:Int)
theorem fg7_.ok:fg7_.Ctr (fg7_.f):=by
 intro x1 ch_0 r h0 mi w0 ok hm
 delta fg7_.f at h0
 refine c_enterZ (n:=10) ok hm func13 rfl rfl rfl fun b0 hb a S=>c_region (s_as1 S rfl fun a S=>c_end (wp_seq (c_region (s_mv1 S rfl fun a S=>s_eqp S (b:=false) rfl rfl underlying26 rfl rfl fun a S=>c_end (c_condF S rfl rfl (wp_skip (x_thenN (c_region (s_mv1 S rfl fun a S=>s_nilchk S rfl rfl fun a S=>s_fieldAddr S rfl I79_4 T77 (by decide) rfl rfl fun a S=>s_load1 S rfl .h T77 (v:=(.slice ch_0.e11 ch_0.e12 ch_0.e13)) rfl rfl fun a S=>s_lenO S rfl .h6 underlying77 rfl fun a S=>s_as1 S rfl fun a S=>c_end (wp_ret ?_))))))))))
 obtain rfl:=sI h0
 exact b_ret1 (d:=(.i ((x1.e5).length:Int))) S rfl rfl fun ok=>S.retX (Hx:=[]) hb _ _ (():Unit) (.c0 (.c0 (.c0 (.c0 (.c0 (.c0 (.c0 (.c0 .n)))))))) ok
abbrev fe0_.Ty:Type:=(Option Nat)→W2→Option W10
def fe0_.Ctr (s:fe0_.Ty):Prop:=∀ {x1:Option Nat} {x2:W2} {ch_0_0:Addr} {ch_1:W3} {r:W10} (h0:s x1 x2=some r) {mi:Mem} {w0:World},CtrB Tryz.prog 69 [(.pt ch_0_0 (At (Ty.pid ch_1.e5) ch_0_0 x1))] (MS1 x2 ch_1) (fun (ch:W11)=>((.tup []):D)) (fun (ch:W11)=>(MS1 (x2.1,r.2.1,x2.e3,x2.e4,x2.e5,x2.t5) (ch_1.1,ch_1.2.1,ch_1.e3,ch.1,ch.2.1,ch.e3,ch.t3,ch_1.e8,ch_1.e9,ch_1.e10,ch_1.e11,ch_1.e12,ch_1.e13,ch_1.e14,ch_1.e15,ch_1.t15))) mi w0
def fe0_.f (x1:Option Nat)(x2:W2):Option W10:=if x1.isSome=true then (some ((),(x2.2.1.1,x2.2.1.2.1.set (x1.getD 0) ((atE x2.2.1.2.1 (x1.getD 0)).1,(atE x2.2.1.2.1 (x1.getD 0)).2.1,(atE x2.2.1.2.1 (x1.getD 0)).2.2.1,(atE x2.2.1.2.1 (x1.getD 0)).2.2.2.1,(atE x2.2.1.2.1 (x1.getD 0)).2.2.2.2.1,false,(atE x2.2.1.2.1 (x1.getD 0)).2.2.2.2.2.2),x2.2.1.2.2.1,x2.2.1.2.2.2),(),(),(),())) else none
theorem fe0_.ok:fe0_.Ctr (fe0_.f):=by
 intro x1 x2 ch_0_0 ch_1 r h0 mi w0 ok hm
 delta fe0_.f at h0
 refine c_enterZ (n:=4) ok hm func69 rfl rfl rfl fun b0 hb a S=>c_region' (s_ldF S (fun _=>ptrV ch_1.e5 x1) (fun _=>ptrR ch_1.e5 x1) rfl T111 (fun _=>rfl) rfl fun _ a S=>?_)
 obtain ⟨c1,h1⟩:=chk_of h0; clear h0
 have hl1:=S.slotPlt (u:=1) c1 rfl
 replace S:=S.slotP (u:=1) c1 rfl
 refine s_nilchk S rfl rfl fun a S=>s_fieldAddr S rfl I110_5 T4 (by decide) rfl rfl fun a S=>?_
 replace S:=S.famOpen (i:=(x1.getD 0)) hl1 .h2
 have hS:=S.structOpen (T:=(YE110 ch_1.e6 ch_1.e7)) (fun _=> .h) (((),(),(),(none,0),(none,0)),((),(),(),(none,0),(none,0)),(),(),(),(),())
 clear S; obtain ⟨ch1,S⟩:=hS
 refine s_storeJ S 13 rfl rfl rfl rfl .h T4 rfl rfl fun w S=>?_
 replace S:=S.structClose (T:=(YE110 ch_1.e6 ch_1.e7)) (e:=((atE x2.2.1.2.1 (x1.getD 0)).1,(atE x2.2.1.2.1 (x1.getD 0)).2.1,(atE x2.2.1.2.1 (x1.getD 0)).e3,(atE x2.2.1.2.1 (x1.getD 0)).e4,(atE x2.2.1.2.1 (x1.getD 0)).e5,false,(atE x2.2.1.2.1 (x1.getD 0)).t6)) (ch1:((YE110 ch_1.e6 ch_1.e7)).Ch) rfl .h
 replace S:=S.famClose hl1 .h .h2
 refine c_end' (b_end ?_)
 obtain rfl:=sI h1
 exact b_ret0 S rfl (S.retX (Hx:=[]) hb _ _ ((ch_1.e4,ch_1.e5,ch_1.e6,ch_1.e7):W11) (.c0 (.c0 (.c0 (.c0 (.c0 (.c0 (.c0 (.c0 .n)))))))) tv)
abbrev fb4_.Ty:Type:=(Option Nat)→(List Int)→W2→Option W10
def fb4_.Ctr (s:fb4_.Ty):Prop:=∀ {x1:Option Nat} {x2:List Int} {x3:W2} {ch_0_0:Addr} {ch_1_0:Addr} {ch_2:W3} {r:W10} (h0:s x1 x2 x3=some r) {mi:Mem} {w0:World},CtrB Tryz.prog 70 [(.pt ch_0_0 (At (Ty.pid ch_2.e5) ch_0_0 x1)),(.pt ch_1_0 (At (Ty.arr .u64 4) ch_1_0 x2))] (MS1 x3 ch_2) (fun (ch:W11)=>((.tup []):D)) (fun (ch:W11)=>(MS1 (x3.1,r.2.1,x3.e3,x3.e4,x3.e5,x3.t5) (ch_2.1,ch_2.2.1,ch_2.e3,ch.1,ch.2.1,ch.e3,ch.t3,ch_2.e8,ch_2.e9,ch_2.e10,ch_2.e11,ch_2.e12,ch_2.e13,ch_2.e14,ch_2.e15,ch_2.t15))) mi w0
def fb4_.f (x1:Option Nat)(x2:List Int)(x3:W2):Option W10:=if x1.isSome=true then (some ((),(x3.2.1.1,x3.2.1.2.1,x3.2.1.2.2.1,x3.2.1.2.2.2.set ((atE x3.2.1.2.1 (x1.getD 0)).2.2.2.2.2.2) (adel (atE x3.2.1.2.2.2 ((atE x3.2.1.2.1 (x1.getD 0)).2.2.2.2.2.2)) x2)),(),(),(),())) else none
theorem fb4_.ok:fb4_.Ctr (fb4_.f):=by
 intro x1 x2 x3 ch_0_0 ch_1_0 ch_2 r h0 mi w0 ok hm
 delta fb4_.f at h0
 refine c_enterZ (n:=7) ok hm func70 rfl rfl rfl fun b0 hb a S=>c_hS S (.take 0 (.take 4 (.alts (.run 1 true (.take 2 (.alts (.run 3 true (.alts (.run 5 true .done .nil)) .nil))) .nil)))) 6 .nil tv [(0,(.pt ch_0_0 (At (Ty.pid ch_2.e5) ch_0_0 x1))),(1,(.pt ch_1_0 (At (Ty.arr .u64 4) ch_1_0 x2)))] rfl (by kernel_rfl) fun w S CL hw le=>?_
 refine h_ldF S CL hw le (subR rfl) (fun _=>ptrV ch_2.e5 x1) (fun _=>ptrR ch_2.e5 x1) rfl T111 (fun _=>rfl) rfl rfl tv fun _ a S CL=>h_ldA S CL hw le (subR rfl) (fun (c:Unit)=>[.w4 x2]) rfl T43 (fun _=>rfl) rfl rfl tv fun ch1 a S CL=>?_
 refine h_run' S rfl tv ?_
 obtain ⟨c1,h1⟩:=chk_of h0; clear h0
 have hl1:=S.slotPlt (u:=2) c1 rfl
 replace S:=S.slotP (u:=2) c1 rfl
 replace CL:=CL.drop (lq':=[(6,(.a4 x2)),(0,(.pt ch_0_0 (At (Ty.pid ch_2.e5) ch_0_0 x1))),(1,(.pt ch_1_0 (At (Ty.arr .u64 4) ch_1_0 x2)))]) (subR rfl)
 refine s_nilchk S rfl rfl fun a S=>CL.bk hw S .nil le fun hw=>?_
 replace CL:=CL.add (t:=3) (d:=(.v (.pointer (some ⟨(bAt ch_2.e5 (x1.getD 0)),0,none⟩)))) S rfl rfl
 refine h_fieldAddr S CL hw le (subR rfl) rfl I110_6 T108 (by decide) rfl rfl rfl tv fun a S CL=>h_run' S rfl tv ?_
 replace S:=S.famOpen (i:=(x1.getD 0)) hl1 .h2
 have hS:=S.structOpen (T:=(YE110 ch_2.e6 ch_2.e7)) (fun _=> .h) (((),(),(),(none,0),(none,0)),((),(),(),(none,0),(none,0)),(),(),(),(),())
 clear S; obtain ⟨ch2,S⟩:=hS
 refine s_loadM S rfl .h T108 (v:=(.map (some (bAt ch_2.e7 ((atE x3.2.1.2.1 (x1.getD 0)).t6))))) rfl rfl fun a S=>?_
 replace S:=S.structClose (T:=(YE110 ch_2.e6 ch_2.e7)) (e:=atE x3.2.1.2.1 (x1.getD 0)) (ch2:((YE110 ch_2.e6 ch_2.e7)).Ch) rfl .h
 replace S:=S.famShut hl1 .h .h2
 refine CL.bk hw S .nil le fun hw=>h_run' S rfl tv ?_
 have hm1:=S.slotLt (u:=5) rfl
 replace S:=S.slotMid (u:=5) rfl
 replace S:=S.famOpen (i:=((atE x3.2.1.2.1 (x1.getD 0)).t6)) hm1 .h4
 refine s_delOn S (k:=x2) rfl .h rfl (fun h=>⟨(),rfl,h⟩) underlying108 KT43 fun w S=>?_
 replace S:=S.famClose hm1 .h .h4
 replace S:=S.slotMidB (u:=5) hm1 rfl
 refine CL.bk hw S .nil le fun hw=>?_
 refine h_done ?_; clear CL hw le
 refine b_end ?_
 obtain rfl:=sI h1
 exact b_ret0 S rfl (S.retX (Hx:=[]) hb _ _ ((ch_2.e4,ch_2.e5,ch_2.e6,ch_2.e7):W11) (.c0 (.c0 (.c0 (.c0 (.c0 (.c0 (.c0 (.c0 .n)))))))) tv)
abbrev ff8_.Ty:Type:=Bool→(List Int)→Nat→(List Int)→W2→Option W10
def ff8_.Ctr (s:ff8_.Ty):Prop:=∀ {x1:Bool} {x2:List Int} {x3:Nat} {x4:List Int} {x5:W2} {ch_0_0:Addr} {ch_1_0:Addr} {ch_2_0:Addr} {ch_3_0:Addr} {ch_4:W3} {r:W10} (h0:s x1 x2 x3 x4 x5=some r) {mi:Mem} {w0:World},CtrB Tryz.prog 72 [(.pt ch_0_0 (At Ty.bool ch_0_0 x1)),(.pt ch_1_0 (At (Ty.arr .u64 4) ch_1_0 x2)),(.pt ch_2_0 (At (Ty.mid ch_4.e6) ch_2_0 x3)),(.pt ch_3_0 (At (Ty.arr .u64 4) ch_3_0 x4))] (MS1 x5 ch_4) (fun (ch:W11)=>((.tup []):D)) (fun (ch:W11)=>(MS1 (x5.1,r.2.1,x5.e3,x5.e4,x5.e5,x5.t5) (ch_4.1,ch_4.2.1,ch_4.e3,ch.1,ch.2.1,ch.e3,ch.t3,ch_4.e8,ch_4.e9,ch_4.e10,ch_4.e11,ch_4.e12,ch_4.e13,ch_4.e14,ch_4.e15,ch_4.t15))) mi w0
def ff8_.f (x1:Bool)(x2:List Int)(x3:Nat)(x4:List Int)(x5:W2):Option W10:=if x1=true then (some ((),(x5.2.1.1,x5.2.1.2.1,x5.2.1.2.2.1.set x3 (aput (atE x5.2.1.2.2.1 x3) x4 x2),x5.2.1.2.2.2),(),(),(),())) else (some ((),(x5.2.1.1,x5.2.1.2.1,x5.2.1.2.2.1.set x3 (adel (atE x5.2.1.2.2.1 x3) x4),x5.2.1.2.2.2),(),(),(),()))
theorem ff8_.ok:ff8_.Ctr (ff8_.f):=by
 intro x1 x2 x3 x4 x5 ch_0_0 ch_1_0 ch_2_0 ch_3_0 ch_4 r h0 mi w0 ok hm
 delta ff8_.f at h0
 refine c_enterZ (n:=10) ok hm func72 rfl rfl rfl fun b0 hb a S=>c_region (s_ld1 S (v:=(.bool x1)) rfl T4 (fun _=>rfl) rfl fun a S=>c_end ?_)
 rcases ite_of h0 with ⟨c1,h1⟩ | ⟨c1,h1⟩
 ·refine c_condT S rfl c1 (c_region' (s_ldF S (fun _=> .map (some (bAt ch_4.e6 x3))) (fun _=>ltR x3 ch_4.e6) rfl T107 (fun _=>rfl) rfl fun _ a S=>s_ldA S (fun (c:Unit)=>[.w4 x4]) rfl T43 (fun _=>rfl) rfl fun ch1 a S=>?_))
  refine s_ldA S (fun (c:Unit)=>[.w4 x2]) rfl T43 (fun _=>rfl) rfl fun ch2 a S=>?_
  have hm1:=S.slotLt (u:=5) rfl
  replace S:=S.slotMid (u:=5) rfl
  replace S:=S.famOpen (i:=x3) hm1 .h3
  refine s_mapput S (k:=x4) (y:=x2) rfl .h rfl (fun h=>⟨(),rfl,h⟩) rfl (fun h=>⟨(),rfl,h⟩) underlying107 KT43 fun w S=>?_
  replace S:=S.famClose hm1 .h .h3
  replace S:=S.slotMidB (u:=5) hm1 rfl
  refine c_end' (b_end ?_)
  obtain rfl:=sI h1
  exact b_ret0 S rfl (S.retX (Hx:=[]) hb _ _ ((ch_4.e4,ch_4.e5,ch_4.e6,ch_4.e7):W11) (.c0 (.c0 (.c0 (.c0 (.c0 (.c0 (.c0 (.c0 .n)))))))) tv)
 ·refine c_condF S rfl c1 (c_region' (s_ldF S (fun _=> .map (some (bAt ch_4.e6 x3))) (fun _=>ltR x3 ch_4.e6) rfl T107 (fun _=>rfl) rfl fun _ a S=>s_ldA S (fun (c:Unit)=>[.w4 x4]) rfl T43 (fun _=>rfl) rfl fun ch3 a S=>?_))
  have hm2:=S.slotLt (u:=8) rfl
  replace S:=S.slotMid (u:=8) rfl
  replace S:=S.famOpen (i:=x3) hm2 .h3
  refine s_delOn S (k:=x4) rfl .h rfl (fun h=>⟨(),rfl,h⟩) underlying107 KT43 fun w S=>?_
  replace S:=S.famClose hm2 .h .h3
  replace S:=S.slotMidB (u:=8) hm2 rfl
  refine c_end' (b_end ?_)
  obtain rfl:=sI h1
  exact b_ret0 S rfl (S.retX (Hx:=[]) hb _ _ ((ch_4.e4,ch_4.e5,ch_4.e6,ch_4.e7):W11) (.c0 (.c0 (.c0 (.c0 (.c0 (.c0 (.c0 (.c0 .n)))))))) tv)
abbrev fc1_.Ty:Type:=Int→(Option Nat)→W2→Option W10
def fc1_.Ctr (s:fc1_.Ty):Prop:=∀ {x1:Int} {x2:Option Nat} {x3:W2} {ch_0_0:Addr} {ch_1_0:Addr} {ch_2:W3} {r:W10} (h0:s x1 x2 x3=some r) {mi:Mem} {w0:World},CtrB Tryz.prog 73 [(.pt ch_0_0 (At (Ty.int .u64) ch_0_0 x1)),(.pt ch_1_0 (At (Ty.pid ch_2.e5) ch_1_0 x2))] (MS1 x3 ch_2) (fun (ch:W11)=>((.tup []):D)) (fun (ch:W11)=>(MS1 (x3.1,r.2.1,x3.e3,x3.e4,x3.e5,x3.t5) (ch_2.1,ch_2.2.1,ch_2.e3,ch.1,ch.2.1,ch.e3,ch.t3,ch_2.e8,ch_2.e9,ch_2.e10,ch_2.e11,ch_2.e12,ch_2.e13,ch_2.e14,ch_2.e15,ch_2.t15))) mi w0
def fc1_.f (x1:Int)(x2:Option Nat)(x3:W2):Option W10:=if x2.isSome=true then (some ((),(x3.2.1.1,x3.2.1.2.1.set (x2.getD 0) ((atE x3.2.1.2.1 (x2.getD 0)).1,(((atE x3.2.1.2.1 (x2.getD 0)).2.1).1,x1,((atE x3.2.1.2.1 (x2.getD 0)).2.1).2.2.1,((atE x3.2.1.2.1 (x2.getD 0)).2.1).2.2.2.1,((atE x3.2.1.2.1 (x2.getD 0)).2.1).2.2.2.2),(atE x3.2.1.2.1 (x2.getD 0)).2.2.1,(atE x3.2.1.2.1 (x2.getD 0)).2.2.2.1,(atE x3.2.1.2.1 (x2.getD 0)).2.2.2.2.1,(atE x3.2.1.2.1 (x2.getD 0)).2.2.2.2.2.1,(atE x3.2.1.2.1 (x2.getD 0)).2.2.2.2.2.2),x3.2.1.2.2.1,x3.2.1.2.2.2),(),(),(),())) else none
theorem fc1_.ok:fc1_.Ctr (fc1_.f):=by
 intro x1 x2 x3 ch_0_0 ch_1_0 ch_2 r h0 mi w0 ok hm
 delta fc1_.f at h0
 refine c_enterZ (n:=7) ok hm func73 rfl rfl rfl fun b0 hb a S=>c_region' (s_ldF S (fun _=>ptrV ch_2.e5 x2) (fun _=>ptrR ch_2.e5 x2) rfl T111 (fun _=>rfl) rfl fun _ a S=>s_ld1 S (v:=(.int .u64 x1)) rfl T41 (fun _=>rfl) rfl fun a S=>?_)
 obtain ⟨c1,h1⟩:=chk_of h0; clear h0
 have hl1:=S.slotPlt (u:=2) c1 rfl
 replace S:=S.slotP (u:=2) c1 rfl
 refine s_nilchk S rfl rfl fun a S=>s_fieldAddr S rfl I110_1 T71 (by decide) rfl rfl fun a S=>s_fieldAddr S rfl I71_1 T41 (by decide) rfl rfl fun a S=>?_
 replace S:=S.famOpen (i:=(x2.getD 0)) hl1 .h2
 have hS:=S.structOpen (T:=(YE110 ch_2.e6 ch_2.e7)) (fun _=> .h) (((),(),(),(none,0),(none,0)),((),(),(),(none,0),(none,0)),(),(),(),(),())
 clear S; obtain ⟨ch1,S⟩:=hS
 refine s_storeJ S 6 rfl rfl rfl rfl .h T41 rfl rfl fun w S=>?_
 replace S:=S.structClose (T:=(YE110 ch_2.e6 ch_2.e7)) (e:=((atE x3.2.1.2.1 (x2.getD 0)).1,(((atE x3.2.1.2.1 (x2.getD 0)).2.1).1,x1,((atE x3.2.1.2.1 (x2.getD 0)).2.1).e3,((atE x3.2.1.2.1 (x2.getD 0)).2.1).e4,((atE x3.2.1.2.1 (x2.getD 0)).2.1).t4),(atE x3.2.1.2.1 (x2.getD 0)).e3,(atE x3.2.1.2.1 (x2.getD 0)).e4,(atE x3.2.1.2.1 (x2.getD 0)).e5,(atE x3.2.1.2.1 (x2.getD 0)).e6,(atE x3.2.1.2.1 (x2.getD 0)).t6)) (ch1:((YE110 ch_2.e6 ch_2.e7)).Ch) rfl .h
 replace S:=S.famClose hl1 .h .h2
 refine c_end' (b_end ?_)
 obtain rfl:=sI h1
 exact b_ret0 S rfl (S.retX (Hx:=[]) hb _ _ ((ch_2.e4,ch_2.e5,ch_2.e6,ch_2.e7):W11) (.c0 (.c0 (.c0 (.c0 (.c0 (.c0 (.c0 (.c0 .n)))))))) tv)
abbrev fb0_.Ty:Type:=(List Int)→(Option Nat)→W2→Option W10
def fb0_.Ctr (s:fb0_.Ty):Prop:=∀ {x1:List Int} {x2:Option Nat} {x3:W2} {ch_0_0:Addr} {ch_1_0:Addr} {ch_2:W3} {r:W10} (h0:s x1 x2 x3=some r) {mi:Mem} {w0:World},CtrB Tryz.prog 75 [(.pt ch_0_0 (At (Ty.arr .u64 4) ch_0_0 x1)),(.pt ch_1_0 (At (Ty.pid ch_2.e5) ch_1_0 x2))] (MS1 x3 ch_2) (fun (ch:W11)=>((.tup []):D)) (fun (ch:W11)=>(MS1 (x3.1,r.2.1,x3.e3,x3.e4,x3.e5,x3.t5) (ch_2.1,ch_2.2.1,ch_2.e3,ch.1,ch.2.1,ch.e3,ch.t3,ch_2.e8,ch_2.e9,ch_2.e10,ch_2.e11,ch_2.e12,ch_2.e13,ch_2.e14,ch_2.e15,ch_2.t15))) mi w0
def fb0_.f (x1:List Int)(x2:Option Nat)(x3:W2):Option W10:=if x2.isSome=true then (some ((),(x3.2.1.1,x3.2.1.2.1.set (x2.getD 0) ((atE x3.2.1.2.1 (x2.getD 0)).1,(((atE x3.2.1.2.1 (x2.getD 0)).2.1).1,((atE x3.2.1.2.1 (x2.getD 0)).2.1).2.1,x1,((atE x3.2.1.2.1 (x2.getD 0)).2.1).2.2.2.1,((atE x3.2.1.2.1 (x2.getD 0)).2.1).2.2.2.2),(atE x3.2.1.2.1 (x2.getD 0)).2.2.1,(atE x3.2.1.2.1 (x2.getD 0)).2.2.2.1,(atE x3.2.1.2.1 (x2.getD 0)).2.2.2.2.1,(atE x3.2.1.2.1 (x2.getD 0)).2.2.2.2.2.1,(atE x3.2.1.2.1 (x2.getD 0)).2.2.2.2.2.2),x3.2.1.2.2.1,x3.2.1.2.2.2),(),(),(),())) else none
theorem fb0_.ok:fb0_.Ctr (fb0_.f):=by
 intro x1 x2 x3 ch_0_0 ch_1_0 ch_2 r h0 mi w0 ok hm
 delta fb0_.f at h0
 refine c_enterZ (n:=7) ok hm func75 rfl rfl rfl fun b0 hb a S=>c_region' (s_ldF S (fun _=>ptrV ch_2.e5 x2) (fun _=>ptrR ch_2.e5 x2) rfl T111 (fun _=>rfl) rfl fun _ a S=>s_ldA S (fun (c:Unit)=>[.w4 x1]) rfl T43 (fun _=>rfl) rfl fun ch1 a S=>?_)
 obtain ⟨c1,h1⟩:=chk_of h0; clear h0
 have hl1:=S.slotPlt (u:=2) c1 rfl
 replace S:=S.slotP (u:=2) c1 rfl
 refine s_nilchk S rfl rfl fun a S=>s_fieldAddr S rfl I110_1 T71 (by decide) rfl rfl fun a S=>s_fieldAddr S rfl I71_2 T43 (by decide) rfl rfl fun a S=>?_
 replace S:=S.famOpen (i:=(x2.getD 0)) hl1 .h2
 have hS:=S.structOpen (T:=(YE110 ch_2.e6 ch_2.e7)) (fun _=> .h) (((),(),(),(none,0),(none,0)),((),(),(),(none,0),(none,0)),(),(),(),(),())
 clear S; obtain ⟨ch2,S⟩:=hS
 refine s_storeJ S 7 rfl rfl rfl rfl .h T43 rfl rfl fun w S=>?_
 replace S:=S.structClose (T:=(YE110 ch_2.e6 ch_2.e7)) (e:=((atE x3.2.1.2.1 (x2.getD 0)).1,(((atE x3.2.1.2.1 (x2.getD 0)).2.1).1,((atE x3.2.1.2.1 (x2.getD 0)).2.1).2.1,x1,((atE x3.2.1.2.1 (x2.getD 0)).2.1).e4,((atE x3.2.1.2.1 (x2.getD 0)).2.1).t4),(atE x3.2.1.2.1 (x2.getD 0)).e3,(atE x3.2.1.2.1 (x2.getD 0)).e4,(atE x3.2.1.2.1 (x2.getD 0)).e5,(atE x3.2.1.2.1 (x2.getD 0)).e6,(atE x3.2.1.2.1 (x2.getD 0)).t6)) (ch2:((YE110 ch_2.e6 ch_2.e7)).Ch) rfl .h
 replace S:=S.famClose hl1 .h .h2
 refine c_end' (b_end ?_)
 obtain rfl:=sI h1
 exact b_ret0 S rfl (S.retX (Hx:=[]) hb _ _ ((ch_2.e4,ch_2.e5,ch_2.e6,ch_2.e7):W11) (.c0 (.c0 (.c0 (.c0 (.c0 (.c0 (.c0 (.c0 .n)))))))) tv)
abbrev fd3_.Ty:Type:=(List Int)→(Option Nat)→W2→Option W10
def fd3_.Ctr (s:fd3_.Ty):Prop:=∀ {x1:List Int} {x2:Option Nat} {x3:W2} {ch_0_0:Addr} {ch_1_0:Addr} {ch_2:W3} {r:W10} (h0:s x1 x2 x3=some r) {mi:Mem} {w0:World},CtrB Tryz.prog 76 [(.pt ch_0_0 (At (Ty.slice yb) ch_0_0 x1)),(.pt ch_1_0 (At (Ty.pid ch_2.e5) ch_1_0 x2))] (MS1 x3 ch_2) (fun (ch:W11)=>((.tup []):D)) (fun (ch:W11)=>(MS1 (x3.1,r.2.1,x3.e3,x3.e4,x3.e5,x3.t5) (ch_2.1,ch_2.2.1,ch_2.e3,ch.1,ch.2.1,ch.e3,ch.t3,ch_2.e8,ch_2.e9,ch_2.e10,ch_2.e11,ch_2.e12,ch_2.e13,ch_2.e14,ch_2.e15,ch_2.t15))) mi w0
def fd3_.f (x1:List Int)(x2:Option Nat)(x3:W2):Option W10:=if x2.isSome=true then (some ((),(x3.2.1.1,x3.2.1.2.1.set (x2.getD 0) ((atE x3.2.1.2.1 (x2.getD 0)).1,(((atE x3.2.1.2.1 (x2.getD 0)).2.1).1,((atE x3.2.1.2.1 (x2.getD 0)).2.1).2.1,((atE x3.2.1.2.1 (x2.getD 0)).2.1).2.2.1,x1,((atE x3.2.1.2.1 (x2.getD 0)).2.1).2.2.2.2),(atE x3.2.1.2.1 (x2.getD 0)).2.2.1,(atE x3.2.1.2.1 (x2.getD 0)).2.2.2.1,(atE x3.2.1.2.1 (x2.getD 0)).2.2.2.2.1,(atE x3.2.1.2.1 (x2.getD 0)).2.2.2.2.2.1,(atE x3.2.1.2.1 (x2.getD 0)).2.2.2.2.2.2),x3.2.1.2.2.1,x3.2.1.2.2.2),(),(),(),())) else none
theorem fd3_.ok:fd3_.Ctr (fd3_.f):=by
 intro x1 x2 x3 ch_0_0 ch_1_0 ch_2 r h0 mi w0 ok hm
 delta fd3_.f at h0
 refine c_enterZ (n:=7) ok hm func76 rfl rfl rfl fun b0 hb a S=>c_region' (s_ldF S (fun _=>ptrV ch_2.e5 x2) (fun _=>ptrR ch_2.e5 x2) rfl T111 (fun _=>rfl) rfl fun _ a S=>s_ldS S (fun c=>c) rfl T44 (fun _=>rfl) rfl fun A1 cp1 a S=>?_)
 obtain ⟨c1,h1⟩:=chk_of h0; clear h0
 have hl1:=S.slotPlt (u:=2) c1 rfl
 replace S:=S.slotP (u:=2) c1 rfl
 refine s_nilchk S rfl rfl fun a S=>s_fieldAddr S rfl I110_1 T71 (by decide) rfl rfl fun a S=>s_fieldAddr S rfl I71_3 T44 (by decide) rfl rfl fun a S=>?_
 replace S:=S.famOpen (i:=(x2.getD 0)) hl1 .h2
 have hS:=S.structOpen (T:=(YE110 ch_2.e6 ch_2.e7)) (fun _=> .h) (((),(),(),(none,0),(none,0)),((),(),(),(none,0),(none,0)),(),(),(),(),())
 clear S; obtain ⟨ch1,S⟩:=hS
 refine s_storeJ S 8 rfl rfl rfl rfl .h T44 rfl rfl fun w S=>?_
 replace S:=S.structClose (T:=(YE110 ch_2.e6 ch_2.e7)) (e:=((atE x3.2.1.2.1 (x2.getD 0)).1,(((atE x3.2.1.2.1 (x2.getD 0)).2.1).1,((atE x3.2.1.2.1 (x2.getD 0)).2.1).2.1,((atE x3.2.1.2.1 (x2.getD 0)).2.1).e3,x1,((atE x3.2.1.2.1 (x2.getD 0)).2.1).t4),(atE x3.2.1.2.1 (x2.getD 0)).e3,(atE x3.2.1.2.1 (x2.getD 0)).e4,(atE x3.2.1.2.1 (x2.getD 0)).e5,(atE x3.2.1.2.1 (x2.getD 0)).e6,(atE x3.2.1.2.1 (x2.getD 0)).t6)) ((ch1.1,((),(),(),(A1,cp1),ch1.2.1.t4),(),(),(),(),()):((YE110 ch_2.e6 ch_2.e7)).Ch) rfl .h
 replace S:=S.famClose hl1 .h .h2
 refine c_end' (b_end ?_)
 obtain rfl:=sI h1
 exact b_ret0 S rfl (S.retX (Hx:=[]) hb _ _ ((ch_2.e4,ch_2.e5,ch_2.e6,ch_2.e7):W11) (.c0 (.c0 (.c0 (.c0 (.c0 (.c0 (.c0 (.c0 .n)))))))) tv)
abbrev fe7_.Ty:Type:=Bool→Nat→(Option Nat)→W2→Option W10
def fe7_.Ctr (s:fe7_.Ty):Prop:=∀ {x1:Bool} {x2:Nat} {x3:Option Nat} {x4:W2} {ch_0_0:Addr} {ch_1_0:Addr} {ch_2_0:Addr} {ch_3:W3} {r:W10} (h0:s x1 x2 x3 x4=some r) {mi:Mem} {w0:World},CtrB Tryz.prog 77 [(.pt ch_0_0 (At Ty.bool ch_0_0 x1)),(.pt ch_1_0 (At (Ty.mid ch_3.e6) ch_1_0 x2)),(.pt ch_2_0 (At (Ty.pid ch_3.e5) ch_2_0 x3))] (MS1 x4 ch_3) (fun (ch:W11)=>((.tup []):D)) (fun (ch:W11)=>(MS1 (x4.1,r.2.1,x4.e3,x4.e4,x4.e5,x4.t5) (ch_3.1,ch_3.2.1,ch_3.e3,ch.1,ch.2.1,ch.e3,ch.t3,ch_3.e8,ch_3.e9,ch_3.e10,ch_3.e11,ch_3.e12,ch_3.e13,ch_3.e14,ch_3.e15,ch_3.t15))) mi w0
def fe7_.f (x1:Bool)(x2:Nat)(x3:Option Nat)(x4:W2):Option W10:=if x3.isSome=true then (some ((),(x4.2.1.1,(x4.2.1.2.1.set (x3.getD 0) ((atE x4.2.1.2.1 (x3.getD 0)).1,(atE x4.2.1.2.1 (x3.getD 0)).2.1,x1,(atE x4.2.1.2.1 (x3.getD 0)).2.2.2.1,(atE x4.2.1.2.1 (x3.getD 0)).2.2.2.2.1,(atE x4.2.1.2.1 (x3.getD 0)).2.2.2.2.2.1,(atE x4.2.1.2.1 (x3.getD 0)).2.2.2.2.2.2)).set (x3.getD 0) ((atE (x4.2.1.2.1.set (x3.getD 0) ((atE x4.2.1.2.1 (x3.getD 0)).1,(atE x4.2.1.2.1 (x3.getD 0)).2.1,x1,(atE x4.2.1.2.1 (x3.getD 0)).2.2.2.1,(atE x4.2.1.2.1 (x3.getD 0)).2.2.2.2.1,(atE x4.2.1.2.1 (x3.getD 0)).2.2.2.2.2.1,(atE x4.2.1.2.1 (x3.getD 0)).2.2.2.2.2.2)) (x3.getD 0)).1,(atE (x4.2.1.2.1.set (x3.getD 0) ((atE x4.2.1.2.1 (x3.getD 0)).1,(atE x4.2.1.2.1 (x3.getD 0)).2.1,x1,(atE x4.2.1.2.1 (x3.getD 0)).2.2.2.1,(atE x4.2.1.2.1 (x3.getD 0)).2.2.2.2.1,(atE x4.2.1.2.1 (x3.getD 0)).2.2.2.2.2.1,(atE x4.2.1.2.1 (x3.getD 0)).2.2.2.2.2.2)) (x3.getD 0)).2.1,(atE (x4.2.1.2.1.set (x3.getD 0) ((atE x4.2.1.2.1 (x3.getD 0)).1,(atE x4.2.1.2.1 (x3.getD 0)).2.1,x1,(atE x4.2.1.2.1 (x3.getD 0)).2.2.2.1,(atE x4.2.1.2.1 (x3.getD 0)).2.2.2.2.1,(atE x4.2.1.2.1 (x3.getD 0)).2.2.2.2.2.1,(atE x4.2.1.2.1 (x3.getD 0)).2.2.2.2.2.2)) (x3.getD 0)).2.2.1,x2,(atE (x4.2.1.2.1.set (x3.getD 0) ((atE x4.2.1.2.1 (x3.getD 0)).1,(atE x4.2.1.2.1 (x3.getD 0)).2.1,x1,(atE x4.2.1.2.1 (x3.getD 0)).2.2.2.1,(atE x4.2.1.2.1 (x3.getD 0)).2.2.2.2.1,(atE x4.2.1.2.1 (x3.getD 0)).2.2.2.2.2.1,(atE x4.2.1.2.1 (x3.getD 0)).2.2.2.2.2.2)) (x3.getD 0)).2.2.2.2.1,(atE (x4.2.1.2.1.set (x3.getD 0) ((atE x4.2.1.2.1 (x3.getD 0)).1,(atE x4.2.1.2.1 (x3.getD 0)).2.1,x1,(atE x4.2.1.2.1 (x3.getD 0)).2.2.2.1,(atE x4.2.1.2.1 (x3.getD 0)).2.2.2.2.1,(atE x4.2.1.2.1 (x3.getD 0)).2.2.2.2.2.1,(atE x4.2.1.2.1 (x3.getD 0)).2.2.2.2.2.2)) (x3.getD 0)).2.2.2.2.2.1,(atE (x4.2.1.2.1.set (x3.getD 0) ((atE x4.2.1.2.1 (x3.getD 0)).1,(atE x4.2.1.2.1 (x3.getD 0)).2.1,x1,(atE x4.2.1.2.1 (x3.getD 0)).2.2.2.1,(atE x4.2.1.2.1 (x3.getD 0)).2.2.2.2.1,(atE x4.2.1.2.1 (x3.getD 0)).2.2.2.2.2.1,(atE x4.2.1.2.1 (x3.getD 0)).2.2.2.2.2.2)) (x3.getD 0)).2.2.2.2.2.2),x4.2.1.2.2.1,x4.2.1.2.2.2),(),(),(),())) else none
theorem fe7_.ok:fe7_.Ctr (fe7_.f):=by
 intro x1 x2 x3 x4 ch_0_0 ch_1_0 ch_2_0 ch_3 r h0 mi w0 ok hm
 delta fe7_.f at h0
 refine c_enterZ (n:=11) ok hm func77 rfl rfl rfl fun b0 hb a S=>c_hS S (.tk 0 4 (.alts (.run 4 true (.take 5 (.alts (.run 6 true (.alts (.run 7 true (.take 8 (.alts (.run 9 false .done .nil))) .nil)) .nil))) .nil))) 9 .nil tv [(0,(.pt ch_0_0 (At Ty.bool ch_0_0 x1))),(1,(.pt ch_1_0 (At (Ty.mid ch_3.e6) ch_1_0 x2))),(2,(.pt ch_2_0 (At (Ty.pid ch_3.e5) ch_2_0 x3)))] rfl (by kernel_rfl) fun w S CL hw le=>?_
 refine h_ldF S CL hw le (subR rfl) (fun _=>ptrV ch_3.e5 x3) (fun _=>ptrR ch_3.e5 x3) rfl T111 (fun _=>rfl) rfl rfl tv fun _ a S CL=>h_ldF S CL hw le (subR rfl) (fun _=>ptrV ch_3.e5 x3) (fun _=>ptrR ch_3.e5 x3) rfl T111 (fun _=>rfl) rfl rfl tv fun _ a S CL=>h_ld1 S CL hw le (subR rfl) (v:=(.bool x1)) rfl T4 (fun _=>rfl) rfl rfl tv fun a S CL=>h_ldF S CL hw le (subR rfl) (fun _=> .map (some (bAt ch_3.e6 x2))) (fun _=>ltR x2 ch_3.e6) rfl T107 (fun _=>rfl) rfl rfl tv fun _ a S CL=>h_run' S rfl tv ?_
 obtain ⟨c1,h1⟩:=chk_of h0; clear h0
 have hl1:=S.slotPlt (u:=3) c1 rfl
 replace S:=S.slotP (u:=3) c1 rfl
 replace CL:=CL.drop (lq':=[(6,(.rf (.map (some (bAt ch_3.e6 x2))) (ltR x2 ch_3.e6))),(5,(.b x1)),(4,(.rf (ptrV ch_3.e5 x3) (ptrR ch_3.e5 x3))),(0,(.pt ch_0_0 (At Ty.bool ch_0_0 x1))),(1,(.pt ch_1_0 (At (Ty.mid ch_3.e6) ch_1_0 x2))),(2,(.pt ch_2_0 (At (Ty.pid ch_3.e5) ch_2_0 x3)))]) (subR rfl)
 refine s_nilchk S rfl rfl fun a S=>CL.bk hw S .nil le fun hw=>?_
 replace CL:=CL.add (t:=7) (d:=(.v (.pointer (some ⟨(bAt ch_3.e5 (x3.getD 0)),0,none⟩)))) S rfl rfl
 refine h_fieldAddr S CL hw le (subR rfl) rfl I110_2 T4 (by decide) rfl rfl rfl tv fun a S CL=>h_run' S rfl tv ?_
 replace S:=S.famOpen (i:=(x3.getD 0)) hl1 .h2
 have hS:=S.structOpen (T:=(YE110 ch_3.e6 ch_3.e7)) (fun _=> .h) (((),(),(),(none,0),(none,0)),((),(),(),(none,0),(none,0)),(),(),(),(),())
 clear S; obtain ⟨ch1,S⟩:=hS
 refine s_storeJ S 10 rfl rfl rfl rfl .h T4 rfl rfl fun w S=>?_
 replace S:=S.structClose (T:=(YE110 ch_3.e6 ch_3.e7)) (e:=((atE x4.2.1.2.1 (x3.getD 0)).1,(atE x4.2.1.2.1 (x3.getD 0)).2.1,x1,(atE x4.2.1.2.1 (x3.getD 0)).e4,(atE x4.2.1.2.1 (x3.getD 0)).e5,(atE x4.2.1.2.1 (x3.getD 0)).e6,(atE x4.2.1.2.1 (x3.getD 0)).t6)) (ch1:((YE110 ch_3.e6 ch_3.e7)).Ch) rfl .h
 replace S:=S.famClose hl1 .h .h2
 refine CL.bk hw S .nil le fun hw=>h_run' S rfl tv ?_
 have hl1:=S.slotPlt (u:=4) c1 rfl
 replace S:=S.slotP (u:=4) c1 rfl
 replace CL:=CL.drop (lq':=[(8,(.v (.pointer (some ⟨(bAt ch_3.e5 (x3.getD 0)),54,none⟩)))),(7,(.v (.pointer (some ⟨(bAt ch_3.e5 (x3.getD 0)),0,none⟩)))),(6,(.rf (.map (some (bAt ch_3.e6 x2))) (ltR x2 ch_3.e6))),(5,(.b x1)),(0,(.pt ch_0_0 (At Ty.bool ch_0_0 x1))),(1,(.pt ch_1_0 (At (Ty.mid ch_3.e6) ch_1_0 x2))),(2,(.pt ch_2_0 (At (Ty.pid ch_3.e5) ch_2_0 x3)))]) (subR rfl)
 refine s_nilchk S rfl rfl fun a S=>CL.bk hw S .nil le fun hw=>?_
 replace CL:=CL.add (t:=9) (d:=(.v (.pointer (some ⟨(bAt ch_3.e5 (x3.getD 0)),0,none⟩)))) S rfl rfl
 refine h_fieldAddr S CL hw le (subR rfl) rfl I110_3 T107 (by decide) rfl rfl rfl tv fun a S CL=>h_run' S rfl tv ?_
 replace S:=S.famOpen (i:=(x3.getD 0)) hl1 .h2
 have hS:=S.structOpen (T:=(YE110 ch_3.e6 ch_3.e7)) (fun _=> .h) (((),(),(),(none,0),(none,0)),((),(),(),(none,0),(none,0)),(),(),(),(),())
 clear S; obtain ⟨ch2,S⟩:=hS
 refine s_storeJ S 11 rfl rfl rfl rfl .h T107 rfl rfl fun w S=>?_
 replace S:=S.structClose (T:=(YE110 ch_3.e6 ch_3.e7)) (e:=((atE (x4.2.1.2.1.set (x3.getD 0) ((atE x4.2.1.2.1 (x3.getD 0)).1,(atE x4.2.1.2.1 (x3.getD 0)).2.1,x1,(atE x4.2.1.2.1 (x3.getD 0)).e4,(atE x4.2.1.2.1 (x3.getD 0)).e5,(atE x4.2.1.2.1 (x3.getD 0)).e6,(atE x4.2.1.2.1 (x3.getD 0)).t6)) (x3.getD 0)).1,(atE (x4.2.1.2.1.set (x3.getD 0) ((atE x4.2.1.2.1 (x3.getD 0)).1,(atE x4.2.1.2.1 (x3.getD 0)).2.1,x1,(atE x4.2.1.2.1 (x3.getD 0)).e4,(atE x4.2.1.2.1 (x3.getD 0)).e5,(atE x4.2.1.2.1 (x3.getD 0)).e6,(atE x4.2.1.2.1 (x3.getD 0)).t6)) (x3.getD 0)).2.1,(atE (x4.2.1.2.1.set (x3.getD 0) ((atE x4.2.1.2.1 (x3.getD 0)).1,(atE x4.2.1.2.1 (x3.getD 0)).2.1,x1,(atE x4.2.1.2.1 (x3.getD 0)).e4,(atE x4.2.1.2.1 (x3.getD 0)).e5,(atE x4.2.1.2.1 (x3.getD 0)).e6,(atE x4.2.1.2.1 (x3.getD 0)).t6)) (x3.getD 0)).e3,x2,(atE (x4.2.1.2.1.set (x3.getD 0) ((atE x4.2.1.2.1 (x3.getD 0)).1,(atE x4.2.1.2.1 (x3.getD 0)).2.1,x1,(atE x4.2.1.2.1 (x3.getD 0)).e4,(atE x4.2.1.2.1 (x3.getD 0)).e5,(atE x4.2.1.2.1 (x3.getD 0)).e6,(atE x4.2.1.2.1 (x3.getD 0)).t6)) (x3.getD 0)).e5,(atE (x4.2.1.2.1.set (x3.getD 0) ((atE x4.2.1.2.1 (x3.getD 0)).1,(atE x4.2.1.2.1 (x3.getD 0)).2.1,x1,(atE x4.2.1.2.1 (x3.getD 0)).e4,(atE x4.2.1.2.1 (x3.getD 0)).e5,(atE x4.2.1.2.1 (x3.getD 0)).e6,(atE x4.2.1.2.1 (x3.getD 0)).t6)) (x3.getD 0)).e6,(atE (x4.2.1.2.1.set (x3.getD 0) ((atE x4.2.1.2.1 (x3.getD 0)).1,(atE x4.2.1.2.1 (x3.getD 0)).2.1,x1,(atE x4.2.1.2.1 (x3.getD 0)).e4,(atE x4.2.1.2.1 (x3.getD 0)).e5,(atE x4.2.1.2.1 (x3.getD 0)).e6,(atE x4.2.1.2.1 (x3.getD 0)).t6)) (x3.getD 0)).t6)) (ch2:((YE110 ch_3.e6 ch_3.e7)).Ch) rfl .h
 replace S:=S.famClose hl1 .h .h2
 refine h_back ⟨fun h=>(nomatch h),?_⟩
 refine h_done ?_; clear CL hw le
 refine b_end ?_
 obtain rfl:=sI h1
 exact b_ret0 S rfl (S.retX (Hx:=[]) hb _ _ ((ch_3.e4,ch_3.e5,ch_3.e6,ch_3.e7):W11) (.c0 (.c0 (.c0 (.c0 (.c0 (.c0 (.c0 (.c0 .n)))))))) tv)
abbrev fg_.Ty:Type:=Int→Unit→W2→Option W12
def fg_.Ctr (s:fg_.Ty):Prop:=∀ {x1:Int} {x2:Unit} {x3:W2} {ch_0_0:Addr} {ch_1_0:Addr} {ch_2:W3} {r:W12} (h0:s x1 x2 x3=some r) {mi:Mem} {w0:World},CtrB Tryz.prog 83 [(.pt ch_0_0 (At yi ch_0_0 x1)),(.pt ch_1_0 (At (Ty.own ch_2.1) ch_1_0 x2))] (MS1 x3 ch_2) (fun (ch:Unit)=>((.tup []):D)) (fun (ch:Unit)=>(MS1 (x3.1,x3.2.1,r.e3,x3.e4,x3.e5,x3.t5) ch_2)) mi w0
def fg_.f (x1:Int)(x2:Unit)(x3:W2):Option W12:=some ((),(),x1,(),(),())
theorem fg_.ok:fg_.Ctr (fg_.f):=by
 intro x1 x2 x3 ch_0_0 ch_1_0 ch_2 r h0 mi w0 ok hm
 delta fg_.f at h0
 refine c_enterZ (n:=6) ok hm func83 rfl rfl rfl fun b0 hb a S=>c_region' (s_ld1 S (v:=(.pointer (some ⟨ch_2.1,0,none⟩))) rfl T26 (fun _=>rfl) rfl fun a S=>s_ld1 S (v:=(.int .i64 x1)) rfl T2 (fun _=>rfl) rfl fun a S=>s_nilchk S rfl rfl fun a S=>s_fieldAddr S rfl I79_2 T2 (by decide) rfl rfl fun a S=>s_storeJ S 2 rfl rfl rfl rfl .h T2 rfl rfl fun w S=>c_end' (b_end ?_))
 obtain rfl:=sI h0
 exact b_ret0 S rfl (S.retX (Hx:=[]) hb _ _ (():Unit) (.c0 (.c0 (.c0 (.c0 (.c0 (.c0 (.c0 (.c0 .n)))))))) tv)
abbrev ff3_.Ty:Type:=Unit→Int→W2→Option W13
def ff3_.Ctr (s:ff3_.Ty):Prop:=∀ {x1:Unit} {x2:Int} {x3:W2} {ch_0_0:Addr} {ch_1_0:Addr} {ch_2:W3} {r:W13} (h0:s x1 x2 x3=some r) {mi:Mem} {w0:World},CtrB Tryz.prog 84 [(.pt ch_0_0 (At (Ty.own ch_2.1) ch_0_0 x1)),(.pt ch_1_0 (At yi ch_1_0 x2))] (MS1 x3 ch_2) (fun (ch:(Option Addr)×Nat×Nat)=>((.tup []):D)) (fun (ch:(Option Addr)×Nat×Nat)=>(MS1 (x3.1,x3.2.1,x3.e3,r.e4,x3.e5,x3.t5) (ch_2.1,ch_2.2.1,ch_2.e3,ch_2.e4,ch_2.e5,ch_2.e6,ch_2.e7,ch.1,ch.2.1,ch.t2,ch_2.e11,ch_2.e12,ch_2.e13,ch_2.e14,ch_2.e15,ch_2.t15))) mi w0
def ff3_.f (x1:Unit)(x2:Int)(x3:W2):Option W13:=if (0:Int)≤x2∧x2≤((x3.2.2.2.1).length:Int) then (some ((),(),(),x3.2.2.2.1.take (Int.toNat x2),(),())) else none
theorem ff3_.ok:ff3_.Ctr (ff3_.f):=by
 intro x1 x2 x3 ch_0_0 ch_1_0 ch_2 r h0 mi w0 ok hm
 delta ff3_.f at h0
 refine c_enterZ (n:=11) ok hm func84 rfl rfl rfl fun b0 hb a S=>c_hS S (.tk 0 6 (.alts (.run 6 true (.take 7 (.take 8 (.alts (.run 9 false .done .nil)))) .nil))) 9 (.c0 .n) ⟨Res.stay_cells,tv⟩ [(0,(.pt ch_0_0 (At (Ty.own ch_2.1) ch_0_0 x1))),(1,(.pt ch_1_0 (At yi ch_1_0 x2)))] rfl (by kernel_rfl) fun w S CL hw le=>?_
 refine h_ld1 S CL hw le (subR rfl) (v:=(.pointer (some ⟨ch_2.1,0,none⟩))) rfl T26 (fun _=>rfl) rfl rfl tv fun a S CL=>h_ld1 S CL hw le (subR rfl) (v:=(.pointer (some ⟨ch_2.1,0,none⟩))) rfl T26 (fun _=>rfl) rfl rfl tv fun a S CL=>h_nilchk S CL hw le (subR rfl) rfl rfl rfl rfl tv fun a S CL=>h_fieldAddr S CL hw le (subR rfl) rfl I79_3 T34 (by decide) rfl rfl rfl tv fun a S CL=>h_load1 S CL hw le (subR rfl) rfl .h T34 (v:=(.slice ch_2.e8 ch_2.e9 ch_2.e10)) rfl rfl rfl tv fun a S CL=>h_ld1 S CL hw le (subR rfl) (v:=(.int .i64 x2)) rfl T3 (fun _=>rfl) rfl rfl tv fun a S CL=>h_run' S rfl tv ?_
 obtain ⟨c1,h1⟩:=chk_of h0; clear h0
 refine s_cutO S (j:=x2) rfl .h5 underlying34 T100 (.inl rfl) rfl c1.1 c1.2 rfl fun a S=>CL.bk hw S (.c0 .n) le fun hw=>h_nilchk S CL hw le (subR rfl) rfl rfl rfl rfl tv fun a S CL=>h_fieldAddr S CL hw le (subR rfl) rfl I79_3 T34 (by decide) rfl rfl rfl tv fun a S CL=>h_run' S rfl tv (s_storeJ S 3 rfl rfl rfl rfl .h T34 rfl rfl fun w S=>?_)
 refine h_back ⟨fun h=>(nomatch h),?_⟩
 refine h_done ?_; clear CL hw le
 refine b_end ?_
 obtain rfl:=sI h1
 exact b_ret0 S rfl (S.retX (Hx:=[]) hb _ _ ((ch_2.e8,Int.toNat x2,ch_2.e10):(Option Addr)×Nat×Nat) (.c0 (.c0 (.c0 (.c0 (.c0 (.c0 (.c0 (.c0 .n)))))))) tv)
abbrev fc8_.Ty:Type:=Bool→(Option Nat)→W2→Option W10
def fc8_.Ctr (s:fc8_.Ty):Prop:=∀ {x1:Bool} {x2:Option Nat} {x3:W2} {ch_0_0:Addr} {ch_1_0:Addr} {ch_2:W3} {r:W10} (h0:s x1 x2 x3=some r) {mi:Mem} {w0:World},CtrB Tryz.prog 85 [(.pt ch_0_0 (At Ty.bool ch_0_0 x1)),(.pt ch_1_0 (At (Ty.pid ch_2.e5) ch_1_0 x2))] (MS1 x3 ch_2) (fun (ch:W11)=>((.tup []):D)) (fun (ch:W11)=>(MS1 (x3.1,r.2.1,x3.e3,x3.e4,x3.e5,x3.t5) (ch_2.1,ch_2.2.1,ch_2.e3,ch.1,ch.2.1,ch.e3,ch.t3,ch_2.e8,ch_2.e9,ch_2.e10,ch_2.e11,ch_2.e12,ch_2.e13,ch_2.e14,ch_2.e15,ch_2.t15))) mi w0
def fc8_.f (x1:Bool)(x2:Option Nat)(x3:W2):Option W10:=if x2.isSome=true then (some ((),(x3.2.1.1,x3.2.1.2.1.set (x2.getD 0) ((atE x3.2.1.2.1 (x2.getD 0)).1,(atE x3.2.1.2.1 (x2.getD 0)).2.1,(atE x3.2.1.2.1 (x2.getD 0)).2.2.1,(atE x3.2.1.2.1 (x2.getD 0)).2.2.2.1,x1,(atE x3.2.1.2.1 (x2.getD 0)).2.2.2.2.2.1,(atE x3.2.1.2.1 (x2.getD 0)).2.2.2.2.2.2),x3.2.1.2.2.1,x3.2.1.2.2.2),(),(),(),())) else none
theorem fc8_.ok:fc8_.Ctr (fc8_.f):=by
 intro x1 x2 x3 ch_0_0 ch_1_0 ch_2 r h0 mi w0 ok hm
 delta fc8_.f at h0
 refine c_enterZ (n:=6) ok hm func85 rfl rfl rfl fun b0 hb a S=>c_region' (s_ldF S (fun _=>ptrV ch_2.e5 x2) (fun _=>ptrR ch_2.e5 x2) rfl T111 (fun _=>rfl) rfl fun _ a S=>s_ld1 S (v:=(.bool x1)) rfl T4 (fun _=>rfl) rfl fun a S=>?_)
 obtain ⟨c1,h1⟩:=chk_of h0; clear h0
 have hl1:=S.slotPlt (u:=2) c1 rfl
 replace S:=S.slotP (u:=2) c1 rfl
 refine s_nilchk S rfl rfl fun a S=>s_fieldAddr S rfl I110_4 T4 (by decide) rfl rfl fun a S=>?_
 replace S:=S.famOpen (i:=(x2.getD 0)) hl1 .h2
 have hS:=S.structOpen (T:=(YE110 ch_2.e6 ch_2.e7)) (fun _=> .h) (((),(),(),(none,0),(none,0)),((),(),(),(none,0),(none,0)),(),(),(),(),())
 clear S; obtain ⟨ch1,S⟩:=hS
 refine s_storeJ S 12 rfl rfl rfl rfl .h T4 rfl rfl fun w S=>?_
 replace S:=S.structClose (T:=(YE110 ch_2.e6 ch_2.e7)) (e:=((atE x3.2.1.2.1 (x2.getD 0)).1,(atE x3.2.1.2.1 (x2.getD 0)).2.1,(atE x3.2.1.2.1 (x2.getD 0)).e3,(atE x3.2.1.2.1 (x2.getD 0)).e4,x1,(atE x3.2.1.2.1 (x2.getD 0)).e6,(atE x3.2.1.2.1 (x2.getD 0)).t6)) (ch1:((YE110 ch_2.e6 ch_2.e7)).Ch) rfl .h
 replace S:=S.famClose hl1 .h .h2
 refine c_end' (b_end ?_)
 obtain rfl:=sI h1
 exact b_ret0 S rfl (S.retX (Hx:=[]) hb _ _ ((ch_2.e4,ch_2.e5,ch_2.e6,ch_2.e7):W11) (.c0 (.c0 (.c0 (.c0 (.c0 (.c0 (.c0 (.c0 .n)))))))) tv)
def fj_.f:Clo→W2→Option W2
  | .nil,_=>none
  | .c69 x0_,x1=>(fe0_.f x0_ x1).bind fun r=>some (x1.1,r.2.1,x1.2.2.1,x1.2.2.2.1,x1.2.2.2.2.1,x1.2.2.2.2.2)
  | .c70 x0_ x1_,x1=>(fb4_.f x0_ x1_ x1).bind fun r=>some (x1.1,r.2.1,x1.2.2.1,x1.2.2.2.1,x1.2.2.2.2.1,x1.2.2.2.2.2)
  | .c72 x0_ x1_ x2_ x3_,x1=>(ff8_.f x0_ x1_ x2_ x3_ x1).bind fun r=>some (x1.1,r.2.1,x1.2.2.1,x1.2.2.2.1,x1.2.2.2.2.1,x1.2.2.2.2.2)
  | .c73 x0_ x1_,x1=>(fc1_.f x0_ x1_ x1).bind fun r=>some (x1.1,r.2.1,x1.2.2.1,x1.2.2.2.1,x1.2.2.2.2.1,x1.2.2.2.2.2)
  | .c75 x0_ x1_,x1=>(fb0_.f x0_ x1_ x1).bind fun r=>some (x1.1,r.2.1,x1.2.2.1,x1.2.2.2.1,x1.2.2.2.2.1,x1.2.2.2.2.2)
  | .c76 x0_ x1_,x1=>(fd3_.f x0_ x1_ x1).bind fun r=>some (x1.1,r.2.1,x1.2.2.1,x1.2.2.2.1,x1.2.2.2.2.1,x1.2.2.2.2.2)
  | .c77 x0_ x1_ x2_,x1=>(fe7_.f x0_ x1_ x2_ x1).bind fun r=>some (x1.1,r.2.1,x1.2.2.1,x1.2.2.2.1,x1.2.2.2.2.1,x1.2.2.2.2.2)
  | .c83 x0_ x1_,x1=>(fg_.f x0_ x1_ x1).bind fun r=>some (x1.1,x1.2.1,r.2.2.1,x1.2.2.2.1,x1.2.2.2.2.1,x1.2.2.2.2.2)
  | .c84 x0_ x1_,x1=>(ff3_.f x0_ x1_ x1).bind fun r=>some (x1.1,x1.2.1,x1.2.2.1,r.2.2.2.1,x1.2.2.2.2.1,x1.2.2.2.2.2)
  | .c85 x0_ x1_,x1=>(fc8_.f x0_ x1_ x1).bind fun r=>some (x1.1,r.2.1,x1.2.2.1,x1.2.2.2.1,x1.2.2.2.2.1,x1.2.2.2.2.2)
theorem fj_.ok:∀ {c:Clo} {cc:List Addr} {x1:W2} {ch_0:W3} {r:W2} (h0:fj_.f c x1=some r) {mi:Mem} {w0:World},CtrV Tryz.prog (cloV c cc) (cloR ch_0.1 ch_0.e5 ch_0.e6 ch_0.e7 c cc) (MS1 x1 ch_0) (fun (ch:W14)=>(MS1 r (ch_0.1,ch.1,ch.2.1,ch.e3,ch.e4,ch.e5,ch.e6,ch.e7,ch.e8,ch.e9,ch.e10,ch.e11,ch.e12,ch.e13,ch.e14,ch.t14))) mi w0:=by
  intro c cc x1 ch_0 r h0 mi w0 hR hm
  cases c with
  | nil=>exact (nomatch h0)
  | c69 x0_ =>
    delta fj_.f at h0; obtain ⟨r1,e1,h1⟩:=bind_of h0
    obtain rfl:=sI h1
    exact ⟨69,[.pt (cA cc 0) (At (Ty.pid ch_0.e5) (cA cc 0) x0_)],rfl,N69,(fe0_.ok e1 ⟨⟨hR.1,At.mono _ _ _⟩,tv⟩ hm).mono fun e w' h=>h.conv fun ch=>⟨((ch_0.2.1,ch_0.e3,ch.1,ch.2.1,ch.e3,ch.t3,ch_0.e8,ch_0.e9,ch_0.e10,ch_0.e11,ch_0.e12,ch_0.e13,ch_0.e14,ch_0.e15,ch_0.t15):W14),rfl,rfl⟩⟩
  | c70 x0_ x1_ =>
    delta fj_.f at h0; obtain ⟨r1,e1,h1⟩:=bind_of h0
    obtain rfl:=sI h1
    exact ⟨70,[.pt (cA cc 0) (At (Ty.pid ch_0.e5) (cA cc 0) x0_), .pt (cA cc 1) (At (Ty.arr .u64 4) (cA cc 1) x1_)],rfl,N70,(fb4_.ok e1 ⟨⟨hR.1,At.mono _ _ _⟩,⟨hR.2.1,At.mono _ _ _⟩,tv⟩ hm).mono fun e w' h=>h.conv fun ch=>⟨((ch_0.2.1,ch_0.e3,ch.1,ch.2.1,ch.e3,ch.t3,ch_0.e8,ch_0.e9,ch_0.e10,ch_0.e11,ch_0.e12,ch_0.e13,ch_0.e14,ch_0.e15,ch_0.t15):W14),rfl,rfl⟩⟩
  | c72 x0_ x1_ x2_ x3_ =>
    delta fj_.f at h0; obtain ⟨r1,e1,h1⟩:=bind_of h0
    obtain rfl:=sI h1
    exact ⟨72,[.pt (cA cc 0) (At Ty.bool (cA cc 0) x0_), .pt (cA cc 1) (At (Ty.arr .u64 4) (cA cc 1) x1_), .pt (cA cc 2) (At (Ty.mid ch_0.e6) (cA cc 2) x2_), .pt (cA cc 3) (At (Ty.arr .u64 4) (cA cc 3) x3_)],rfl,N72,(ff8_.ok e1 ⟨⟨hR.1,At.mono _ _ _⟩,⟨hR.2.1,At.mono _ _ _⟩,⟨hR.2.2.1,At.mono _ _ _⟩,⟨hR.2.2.2.1,At.mono _ _ _⟩,tv⟩ hm).mono fun e w' h=>h.conv fun ch=>⟨((ch_0.2.1,ch_0.e3,ch.1,ch.2.1,ch.e3,ch.t3,ch_0.e8,ch_0.e9,ch_0.e10,ch_0.e11,ch_0.e12,ch_0.e13,ch_0.e14,ch_0.e15,ch_0.t15):W14),rfl,rfl⟩⟩
  | c73 x0_ x1_ =>
    delta fj_.f at h0; obtain ⟨r1,e1,h1⟩:=bind_of h0
    obtain rfl:=sI h1
    exact ⟨73,[.pt (cA cc 0) (At (Ty.int .u64) (cA cc 0) x0_), .pt (cA cc 1) (At (Ty.pid ch_0.e5) (cA cc 1) x1_)],rfl,N73,(fc1_.ok e1 ⟨⟨hR.1,At.mono _ _ _⟩,⟨hR.2.1,At.mono _ _ _⟩,tv⟩ hm).mono fun e w' h=>h.conv fun ch=>⟨((ch_0.2.1,ch_0.e3,ch.1,ch.2.1,ch.e3,ch.t3,ch_0.e8,ch_0.e9,ch_0.e10,ch_0.e11,ch_0.e12,ch_0.e13,ch_0.e14,ch_0.e15,ch_0.t15):W14),rfl,rfl⟩⟩
  | c75 x0_ x1_ =>
    delta fj_.f at h0; obtain ⟨r1,e1,h1⟩:=bind_of h0
    obtain rfl:=sI h1
    exact ⟨75,[.pt (cA cc 0) (At (Ty.arr .u64 4) (cA cc 0) x0_), .pt (cA cc 1) (At (Ty.pid ch_0.e5) (cA cc 1) x1_)],rfl,N75,(fb0_.ok e1 ⟨⟨hR.1,At.mono _ _ _⟩,⟨hR.2.1,At.mono _ _ _⟩,tv⟩ hm).mono fun e w' h=>h.conv fun ch=>⟨((ch_0.2.1,ch_0.e3,ch.1,ch.2.1,ch.e3,ch.t3,ch_0.e8,ch_0.e9,ch_0.e10,ch_0.e11,ch_0.e12,ch_0.e13,ch_0.e14,ch_0.e15,ch_0.t15):W14),rfl,rfl⟩⟩
  | c76 x0_ x1_ =>
    delta fj_.f at h0; obtain ⟨r1,e1,h1⟩:=bind_of h0
    obtain rfl:=sI h1
    exact ⟨76,[.pt (cA cc 0) (At (Ty.slice yb) (cA cc 0) x0_), .pt (cA cc 1) (At (Ty.pid ch_0.e5) (cA cc 1) x1_)],rfl,N76,(fd3_.ok e1 ⟨⟨hR.1,At.mono _ _ _⟩,⟨hR.2.1,At.mono _ _ _⟩,tv⟩ hm).mono fun e w' h=>h.conv fun ch=>⟨((ch_0.2.1,ch_0.e3,ch.1,ch.2.1,ch.e3,ch.t3,ch_0.e8,ch_0.e9,ch_0.e10,ch_0.e11,ch_0.e12,ch_0.e13,ch_0.e14,ch_0.e15,ch_0.t15):W14),rfl,rfl⟩⟩
  | c77 x0_ x1_ x2_ =>
    delta fj_.f at h0; obtain ⟨r1,e1,h1⟩:=bind_of h0
    obtain rfl:=sI h1
    exact ⟨77,[.pt (cA cc 0) (At Ty.bool (cA cc 0) x0_), .pt (cA cc 1) (At (Ty.mid ch_0.e6) (cA cc 1) x1_), .pt (cA cc 2) (At (Ty.pid ch_0.e5) (cA cc 2) x2_)],rfl,N77,(fe7_.ok e1 ⟨⟨hR.1,At.mono _ _ _⟩,⟨hR.2.1,At.mono _ _ _⟩,⟨hR.2.2.1,At.mono _ _ _⟩,tv⟩ hm).mono fun e w' h=>h.conv fun ch=>⟨((ch_0.2.1,ch_0.e3,ch.1,ch.2.1,ch.e3,ch.t3,ch_0.e8,ch_0.e9,ch_0.e10,ch_0.e11,ch_0.e12,ch_0.e13,ch_0.e14,ch_0.e15,ch_0.t15):W14),rfl,rfl⟩⟩
  | c83 x0_ x1_ =>
    delta fj_.f at h0; obtain ⟨r1,e1,h1⟩:=bind_of h0
    obtain rfl:=sI h1
    exact ⟨83,[.pt (cA cc 0) (At yi (cA cc 0) x0_), .pt (cA cc 1) (At (Ty.own ch_0.1) (cA cc 1) x1_)],rfl,N83,(fg_.ok e1 ⟨⟨hR.1,At.mono _ _ _⟩,⟨hR.2.1,At.mono _ _ _⟩,tv⟩ hm).mono fun e w' h=>h.conv fun ch=>⟨((ch_0.2.1,ch_0.e3,ch_0.e4,ch_0.e5,ch_0.e6,ch_0.e7,ch_0.e8,ch_0.e9,ch_0.e10,ch_0.e11,ch_0.e12,ch_0.e13,ch_0.e14,ch_0.e15,ch_0.t15):W14),rfl,rfl⟩⟩
  | c84 x0_ x1_ =>
    delta fj_.f at h0; obtain ⟨r1,e1,h1⟩:=bind_of h0
    obtain rfl:=sI h1
    exact ⟨84,[.pt (cA cc 0) (At (Ty.own ch_0.1) (cA cc 0) x0_), .pt (cA cc 1) (At yi (cA cc 1) x1_)],rfl,N84,(ff3_.ok e1 ⟨⟨hR.1,At.mono _ _ _⟩,⟨hR.2.1,At.mono _ _ _⟩,tv⟩ hm).mono fun e w' h=>h.conv fun ch=>⟨((ch_0.2.1,ch_0.e3,ch_0.e4,ch_0.e5,ch_0.e6,ch_0.e7,ch.1,ch.2.1,ch.t2,ch_0.e11,ch_0.e12,ch_0.e13,ch_0.e14,ch_0.e15,ch_0.t15):W14),rfl,rfl⟩⟩
  | c85 x0_ x1_ =>
    delta fj_.f at h0; obtain ⟨r1,e1,h1⟩:=bind_of h0
    obtain rfl:=sI h1
    exact ⟨85,[.pt (cA cc 0) (At Ty.bool (cA cc 0) x0_), .pt (cA cc 1) (At (Ty.pid ch_0.e5) (cA cc 1) x1_)],rfl,N85,(fc8_.ok e1 ⟨⟨hR.1,At.mono _ _ _⟩,⟨hR.2.1,At.mono _ _ _⟩,tv⟩ hm).mono fun e w' h=>h.conv fun ch=>⟨((ch_0.2.1,ch_0.e3,ch.1,ch.2.1,ch.e3,ch.t3,ch_0.e8,ch_0.e9,ch_0.e10,ch_0.e11,ch_0.e12,ch_0.e13,ch_0.e14,ch_0.e15,ch_0.t15):W14),rfl,rfl⟩⟩
abbrev fg8_.Ty:Type:=W2→Int→Option W2
def fg8_.Ctr (s:fg8_.Ty):Prop:=∀ {x1:W2} {x2:Int} {ch_0:W3} {r:W2} (h0:s x1 x2=some r) {mi:Mem} {w0:World},CtrB Tryz.prog 14 [(.v (.pointer (some ⟨ch_0.1,0,none⟩))),(.i x2)] (MS1 x1 ch_0) (fun (ch:W14)=>((.tup []):D)) (fun (ch:W14)=>(MS1 r (ch_0.1,ch.1,ch.2.1,ch.e3,ch.e4,ch.e5,ch.e6,ch.e7,ch.e8,ch.e9,ch.e10,ch.e11,ch.e12,ch.e13,ch.e14,ch.t14))) mi w0
def fg8_.b1 (x2:Int)(rec1:Int→(List L71)→W15→(List L110)→W16→W17→Int→(List L100)→(List Clo)→(List (List Int))→Option W2)(y1:Int)(y2:List L71)(y3:W15)(y4:List L110)(y5:W16)(y6:W17)(y7:Int)(y8:List L100)(y9:List Clo)(y10:List (List Int)):Option W2:=if (decide (x2<y1))=true then (if (0:Int)≤(wr .i64 (y1 - 1))∧(wr .i64 (y1 - 1))<((y9).length:Int) then ((fj_.f (gt y9 (wr .i64 (y1 - 1))) (y2,(y3,y4,y5,y6),y7,y8,y9,y10)).bind fun t4=>(if (0:Int)≤(wr .i64 (y1 - 1))∧(wr .i64 (y1 - 1))≤((t4.2.2.2.2.1).length:Int) then (rec1 (wr .i64 (y1 - 1)) t4.1 t4.2.1.1 t4.2.1.2.1 t4.2.1.2.2.1 t4.2.1.2.2.2 t4.2.2.1 t4.2.2.2.1 (t4.2.2.2.2.1.take (Int.toNat (wr .i64 (y1 - 1)))) t4.2.2.2.2.2) else none)) else none) else (some (y2,(y3,y4,y5,y6),y7,y8,y9,y10))
def fg8_.l1 (x2:Int):Nat→Int→(List L71)→W15→(List L110)→W16→W17→Int→(List L100)→(List Clo)→(List (List Int))→Option W2
  | 0,_,_,_,_,_,_,_,_,_,_=>none
  | q+1,y1,y2,y3,y4,y5,y6,y7,y8,y9,y10=>fg8_.b1 x2 (fg8_.l1 x2 q) y1 y2 y3 y4 y5 y6 y7 y8 y9 y10
def fg8_.f (k:Nat)(x1:W2)(x2:Int):Option W2:=if (decide (x2<0))=true then (some x1) else ((fg7_.f x1).bind fun t1=>(fg8_.l1 x2 k t1 x1.1 x1.2.1.1 x1.2.1.2.1 x1.2.1.2.2.1 x1.2.1.2.2.2 x1.2.2.1 x1.2.2.2.1 x1.2.2.2.2.1 x1.2.2.2.2.2))
theorem fg8_.ok (k:Nat):fg8_.Ctr (fg8_.f k):=by
 intro x1 x2 ch_0 r h0 mi w0 ok hm
 delta fg8_.f at h0
 refine c_enterZ (n:=33) ok hm func14 rfl rfl rfl fun b0 hb a S=>wp_seq (c_region (s_mv1 S rfl fun a S=>s_bi S rfl fun a S=>c_end ?_))
 rcases ite_of h0 with ⟨c1,h1⟩ | ⟨c1,h1⟩
 ·refine c_condT S rfl c1 (wp_ret (x_thenR ?_))
  obtain rfl:=sI h1
  exact b_ret0 S rfl (S.retX (Hx:=[]) hb _ _ (ch_0.2:W14) (.c0 (.c0 (.c0 (.c0 (.c0 (.c0 (.c0 (.c0 .n)))))))) tv)
 ·refine c_condF S rfl c1 (wp_skip (x_thenN (c_region (s_mv1 S rfl fun a S=>bindX h1 fun t1 et1 h2=>s_callK S (fg7_.ok (ch_0:=ch_0) et1) N13 rfl .pre (fun _=> .c8) rfl fun ch1 m le1 a w S=>s_as1 S rfl fun a S=>c_end (wp_block ?_)))))
  refine c_loop (fun q1 a w=>∃ (m:Mem) (y1:Int) (A1:Option Addr) (cp1:Nat) (y2:List L71) (g1:Nat) (y3:List ((List Int)×Option Nat)) (G1:List Nat) (G2:List Nat) (G3:List Nat) (y4:List L110) (y5:List (List ((List Int)×(List Int)))) (y6:List (List ((List Int)×Bool))) (y7:Int) (A2:Option Addr) (nn1:Nat) (cp2:Nat) (y8:List L100) (A3:Option Addr) (nn2:Nat) (cp3:Nat) (y9:List Clo) (A4:Option Addr) (nn3:Nat) (cp4:Nat) (y10:List (List Int)),St 33 m b0 [(4,(.i y1)),(0,(.v (.pointer (some ⟨ch_0.1,0,none⟩)))),(1,(.i x2))] (MS1 (y2,(y3,y4,y5,y6),y7,y8,y9,y10) (ch_0.1,A1,cp1,g1,G1,G2,G3,A2,nn1,cp2,A3,nn2,cp3,A4,nn3,cp4)) a w∧fg8_.l1 x2 q1 y1 y2 y3 y4 y5 y6 y7 y8 y9 y10=some r) ?_ ?_ (k:=k) ⟨_,t1,ch_0.2.1,ch_0.e3,x1.1,ch_0.e4,x1.2.1.1,ch_0.e5,ch_0.e6,ch_0.e7,x1.2.1.2.1,x1.2.1.e3,x1.2.1.t3,x1.e3,ch_0.e8,ch_0.e9,ch_0.e10,x1.e4,ch_0.e11,ch_0.e12,ch_0.e13,x1.e5,ch_0.e14,ch_0.e15,ch_0.t15,x1.t5,(S.sb rfl (.c0 (.c0 (.c0 (.c0 (.c0 (.c0 (.c0 (.c0 .n))))))))),h2⟩
  ·rintro a w ⟨m,y1,A1,cp1,y2,g1,y3,G1,G2,G3,y4,y5,y6,y7,A2,nn1,cp2,y8,A3,nn2,cp3,y9,A4,nn3,cp4,y10,S,h0⟩
   exact (nomatch (show (none:Option W2)=some r from h0))
  ·clear S h2
   rintro q1 a w ⟨m,y1,A1,cp1,y2,g1,y3,G1,G2,G3,y4,y5,y6,y7,A2,nn1,cp2,y8,A3,nn2,cp3,y9,A4,nn3,cp4,y10,S,h0⟩
   replace h0:fg8_.b1 x2 (fg8_.l1 x2 q1) y1 y2 y3 y4 y5 y6 y7 y8 y9 y10=some r:=h0
   delta fg8_.b1 at h0
   refine wp_seq (c_region (s_mv2 S rfl fun a S=>s_bi S rfl fun a S=>c_end ?_))
   rcases ite_of h0 with ⟨c2,h1⟩ | ⟨c2,h1⟩
   ·refine c_condT S rfl c2 (wp_skip (x_thenN (wp_seq (wp_block (c_region (s_mv1 S rfl fun a S=>s_nilchk S rfl rfl fun a S=>s_fieldAddr S rfl I79_4 T77 (by decide) rfl rfl fun a S=>s_load1 S rfl .h T77 (v:=(.slice A3 nn2 cp3)) rfl rfl fun a S=>s_mv1 S rfl fun a S=>s_bi S rfl fun a S=>?_))))))
    obtain ⟨c3,h2⟩:=chk_of h1; clear h1
    refine s_iaddrO S (ty':=(YC ch_0.1 G1 G2 G3)) rfl .h6 rfl underlying77 T1 c3.1 c3.2 rfl fun g2 a hA1 S=>s_ldRF S (ty':=(YC ch_0.1 G1 G2 G3)) (i:=(wr .i64 (y1 - 1))) (off:=0) (fun (c:List Addr)=>cloV (gt y9 (wr .i64 (y1 - 1))) c) (fun (c:List Addr)=>cloR ch_0.1 G1 G2 G3 (gt y9 (wr .i64 (y1 - 1))) c) rfl hA1 .h6 T1 c3.1 c3.2 rfl (fun _=>rfl) rfl fun ch6 a S=>bindX h2 fun t4 et4 h3=>s_callKV S (fj_.ok et4) rfl .pre (fun _=> .c8) rfl fun ch7 m le1 a w S=>c_end (c_region' (s_mv2 S rfl fun a S=>s_nilchk S rfl rfl fun a S=>s_fieldAddr S rfl I79_4 T77 (by decide) rfl rfl fun a S=>s_load1 S rfl .h T77 (v:=(.slice ch7.e10 ch7.e11 ch7.e12)) rfl rfl fun a S=>s_mv1 S rfl fun a S=>s_bi S rfl fun a S=>?_))
    obtain ⟨c4,h4⟩:=chk_of h3; clear h3
    refine s_cutO S (j:=(wr .i64 (y1 - 1))) rfl .h6 underlying77 T1 (.inl rfl) rfl c4.1 c4.2 rfl fun a S=>s_nilchk S rfl rfl fun a S=>s_fieldAddr S rfl I79_4 T77 (by decide) rfl rfl fun a S=>s_storeJ S 4 rfl rfl rfl rfl .h T77 rfl rfl fun w S=>c_end' (x_blockN (x_thenN (c_region' (s_mv1 S rfl fun a S=>s_bi S rfl fun a S=>s_as1 S rfl fun a S=>c_end' (x_thenN ?_)))))
    exact ⟨_,(wr .i64 (y1 - 1)),ch7.1,ch7.2.1,t4.1,ch7.e3,t4.2.1.1,ch7.e4,ch7.e5,ch7.e6,t4.2.1.2.1,t4.2.1.e3,t4.2.1.t3,t4.e3,ch7.e7,ch7.e8,ch7.e9,t4.e4,ch7.e10,(Int.toNat (wr .i64 (y1 - 1))),ch7.e12,(t4.e5.take (Int.toNat (wr .i64 (y1 - 1)))),ch7.e13,ch7.e14,ch7.t14,t4.t5,(S.sb rfl (.c0 (.c0 (.c0 (.c0 (.c0 (.c0 (.c0 (.c0 .n))))))))),h4⟩
   ·refine c_condF S rfl c2 (wp_exit (x_thenX (x_thenX (x_blockX (b_end ?_)))))
    obtain rfl:=sI h1
    exact b_ret0 S rfl (S.retX (Hx:=[]) hb _ _ ((A1,cp1,g1,G1,G2,G3,A2,nn1,cp2,A3,nn2,cp3,A4,nn3,cp4):W14) (.c0 (.c0 (.c0 (.c0 (.c0 (.c0 (.c0 (.c0 .n)))))))) tv)
abbrev fi3_.Ty:Type:=(List Int)→(List Int)→Option Int
def fi3_.Ctr (s:fi3_.Ty):Prop:=∀ {x1:List Int} {x2:List Int} {r:Int} (h0:s x1 x2=some r) {mi:Mem} {w0:World},CtrB Tryz.prog 91 [(.a4 x1),(.a4 x2)] [] (fun (ch:Unit)=>((.i r):D)) (fun (ch:Unit)=>[]) mi w0
def fi3_.j1 (x1:List Int)(x2:List Int)(y1:Int):Option Int:=if (0:Int)≤y1∧y1<4 then (if (decide ((rd x1 y1)<(rd x2 y1)))=true then (some (-1)) else (some 1)) else none
def fi3_.b1 (x1:List Int)(x2:List Int)(rec1:Int→Option Int)(y3:Int):Option Int:=if (0:Int)≤y3∧y3<4 then (if ((rd x1 y3)==(rd x2 y3))=true then (rec1 (wr .i64 (y3 - 1))) else (fi3_.j1 x1 x2 y3)) else none
def fi3_.l1 (x1:List Int)(x2:List Int):Nat→Int→Option Int
  | 0,_=>none
  | q+1,y3=>fi3_.b1 x1 x2 (fi3_.l1 x1 x2 q) y3
def fi3_.f (k:Nat)(x1:List Int)(x2:List Int):Option Int:=if (decide (x1=x2))=true then (some 0) else (fi3_.l1 x1 x2 k 3)
theorem fi3_.ok (k:Nat):fi3_.Ctr (fi3_.f k):=by
 intro x1 x2 r h0 mi w0 ok hm
 delta fi3_.f at h0
 refine c_enterZ (n:=25) ok hm func91 rfl rfl rfl fun b0 hb a S=>c_region (s_box S rfl rfl rfl fun g1 a w S=>s_box S rfl rfl rfl fun g2 a w S=>s_as1 S rfl fun a S=>c_end (wp_seq (c_region (s_loada S rfl .h1 T43 (s':=[.w4 x1]) rfl rfl fun a S=>s_loada S rfl .h T43 (s':=[.w4 x2]) rfl rfl fun a S=>s_eqa S rfl rfl underlying43 underlying41 T41 Q43 rfl fun a S=>c_end ?_))))
 rcases ite_of h0 with ⟨c1,h1⟩ | ⟨c1,h1⟩
 ·refine c_condT S rfl c1 (c_region (s_as1 S rfl fun a S=>c_end (wp_ret (x_thenR ?_))))
  obtain rfl:=sI h1
  exact b_ret1 (d:=(.i 0)) S rfl rfl (S.rt hb)
 ·refine c_condF S rfl c1 (wp_skip (x_thenN (c_region (s_as1 S rfl fun a S=>c_end (wp_seq_k fun K1 hK1=>?_)))))
  have j1:∀ m y1 g9 g10 a w,St 25 m b0 [(5,(.i y1)),(3,(.p g9)),(2,(.p g10))] [Res.cells g9 43 [.w4 x2],Res.cells g10 43 [.w4 x1]] a w→fi3_.j1 x1 x2 y1=some r→K1 a w:=by
   intro m y1 g9 g10 a w S h0
   delta fi3_.j1 at h0
   refine hK1 a w (wp_seq ?_)
   refine wp_seq (c_hS S (.tk 0 7 .done) 7 (.c0 (.c0 .n)) ⟨Res.stay_cells,Res.stay_cells,tv⟩ [(5,(.i y1)),(3,(.p g9)),(2,(.p g10))] rfl (by kernel_rfl) ?_); clear S; intro w S CL hw le
   refine h_mv1 S CL hw le rfl tv fun a S CL=>?_
   obtain ⟨c2,h1⟩:=chk_of h0; clear h0
   refine h_iaddr S CL hw le (subR rfl) rfl rfl underlying43 T41 c2.1 c2.2 (mul1 _ _) rfl rfl tv fun a S CL=>h_loadi S CL hw le (subR rfl) (i:=y1) rfl .h1 T41 .h rfl c2.1 c2.2 rfl rfl tv fun a S CL=>h_mv1 S CL hw le rfl tv fun a S CL=>h_iaddr S CL hw le (subR rfl) rfl rfl underlying43 T41 c2.1 c2.2 (mul1 _ _) rfl rfl tv fun a S CL=>h_loadi S CL hw le (subR rfl) (i:=y1) rfl .h T41 .h rfl c2.1 c2.2 rfl rfl tv fun a S CL=>h_bin S CL hw le (subR rfl) rfl rfl rfl rfl rfl tv fun a S CL=>?_
   refine h_done ?_; clear CL hw le
   refine x_thenN ?_
   rcases ite_of h1 with ⟨c3,h2⟩ | ⟨c3,h2⟩
   ·refine c_condT S rfl c3 (c_region (s_as1 S rfl fun a S=>c_end (wp_ret (x_thenR ?_))))
    obtain rfl:=sI h2
    exact b_ret1 (d:=(.i (-1))) S rfl rfl (S.rt hb)
   ·refine c_condF S rfl c3 (wp_skip (x_thenN (c_region (s_as1 S rfl fun a S=>c_end (wp_ret ?_)))))
    obtain rfl:=sI h2
    exact b_ret1 (d:=(.i 1)) S rfl rfl (S.rt hb)
  refine wp_block ?_
  refine c_loop (fun q1 a w=>∃ m y3 g15 g16,St 25 m b0 [(5,(.i y3)),(3,(.p g15)),(2,(.p g16))] [Res.cells g15 43 [.w4 x2],Res.cells g16 43 [.w4 x1]] a w∧fi3_.l1 x1 x2 q1 y3=some r) ?_ ?_ (k:=k) ⟨_,3,g2,g1,(S.sb rfl (.c0 (.c0 .n))),h1⟩
  ·rintro a w ⟨m,y3,g15,g16,S,h0⟩
   exact (nomatch (show (none:Option Int)=some r from h0))
  ·clear S h1
   rintro q1 a w ⟨m,y3,g15,g16,S,h0⟩
   replace h0:fi3_.b1 x1 x2 (fi3_.l1 x1 x2 q1) y3=some r:=h0
   delta fi3_.b1 at h0
   refine wp_seq ?_
   refine wp_seq (c_hS S (.tk 0 7 .done) 7 (.c0 (.c0 .n)) ⟨Res.stay_cells,Res.stay_cells,tv⟩ [(5,(.i y3)),(3,(.p g15)),(2,(.p g16))] rfl (by kernel_rfl) ?_); clear S; intro w S CL hw le
   refine h_mv1 S CL hw le rfl tv fun a S CL=>?_
   obtain ⟨c4,h1⟩:=chk_of h0; clear h0
   refine h_iaddr S CL hw le (subR rfl) rfl rfl underlying43 T41 c4.1 c4.2 (mul1 _ _) rfl rfl tv fun a S CL=>h_loadi S CL hw le (subR rfl) (i:=y3) rfl .h1 T41 .h rfl c4.1 c4.2 rfl rfl tv fun a S CL=>h_mv1 S CL hw le rfl tv fun a S CL=>h_iaddr S CL hw le (subR rfl) rfl rfl underlying43 T41 c4.1 c4.2 (mul1 _ _) rfl rfl tv fun a S CL=>h_loadi S CL hw le (subR rfl) (i:=y3) rfl .h T41 .h rfl c4.1 c4.2 rfl rfl tv fun a S CL=>h_bin S CL hw le (subR rfl) rfl rfl rfl rfl rfl tv fun a S CL=>?_
   refine h_done ?_; clear CL hw le
   refine x_thenN ?_
   rcases ite_of h1 with ⟨c5,h2⟩ | ⟨c5,h2⟩
   ·refine c_condT S rfl c5 (wp_skip (x_thenN (wp_block (c_region' (s_mv1 S rfl fun a S=>s_bi S rfl fun a S=>s_as1 S rfl fun a S=>c_end' (x_blockN (x_thenN ?_)))))))
    exact ⟨_,(wr .i64 (y3 - 1)),g15,g16,(S.sb rfl (.c0 (.c0 .n))),h2⟩
   ·refine c_condF S rfl c5 (wp_exit (x_thenX (x_thenX (x_blockX (x_thenN ?_)))))
    exact j1 _ y3 g15 g16 a w (S.sb rfl (.c0 (.c0 .n))) h2
abbrev fh7_.Ty:Type:=((List Int)×(List Int))→(List Int)→Option Int
def fh7_.Ctr (s:fh7_.Ty):Prop:=∀ {x1:(List Int)×(List Int)} {x2:List Int} {r:Int} (h0:s x1 x2=some r) {mi:Mem} {w0:World},CtrB Tryz.prog 90 [(.agg [.w4 x1.1, .w4 x1.2]),(.a4 x2)] [] (fun (ch:Unit)=>((.i r):D)) (fun (ch:Unit)=>[]) mi w0
def fh7_.f (k:Nat)(x1:(List Int)×(List Int))(x2:List Int):Option Int:=(fi3_.f k x1.1 x2).bind fun t1=>(some t1)
theorem fh7_.ok (k:Nat):fh7_.Ctr (fh7_.f k):=by
 intro x1 x2 r h0 mi w0 ok hm
 delta fh7_.f at h0
 refine c_enterZ (n:=9) ok hm func90 rfl rfl rfl fun b0 hb a S=>c_region (s_box S rfl rfl rfl fun g1 a w S=>s_box S rfl rfl rfl fun g2 a w S=>s_as1 S rfl fun a S=>c_end (c_region (s_fieldAddr S rfl I83_0 T43 (by decide) rfl rfl fun a S=>s_loada S rfl .h1 T43 (s':=[.w4 x1.1]) rfl rfl fun a S=>s_loada S rfl .h T43 (s':=[.w4 x2]) rfl rfl fun a S=>bindX h0 fun t1 et1 h1=>s_callK S (fi3_.ok k et1) N91 rfl .pre (fun _=> .n) rfl fun ch1 m le1 a w S=>s_as1 S rfl fun a S=>c_end (wp_ret ?_))))
 obtain rfl:=sI h1
 exact b_ret1 (d:=(.i t1)) S rfl rfl (S.rt hb)
abbrev ff9_.Ty:Type:=W18→(List Int)→Option (Int×Bool)
def ff9_.Ctr (s:ff9_.Ty):Prop:=∀ {x1:W18} {x2:List Int} {ch_0_0:Option Addr} {ch_0_1:Nat} {r:Int×Bool} (h0:s x1 x2=some r) {mi:Mem} {w0:World},CtrB Tryz.prog 89 [(.q Y83 ch_0_0 ch_0_1 x1),(.a4 x2),(.v (.func (.func 90) #[] #[]))] [] (fun (ch:Unit)=>((.tup [(false,[.i r.1]),(false,[.b r.2])]):D)) (fun (ch:Unit)=>[]) mi w0
def ff9_.j1 (k:Nat)(x1:W18)(x2:List Int)(y1:Int):Option (Int×Bool):=if (decide (y1<((x1).length:Int)))=true then (if (0:Int)≤y1∧y1<((x1).length:Int) then ((fh7_.f k (gt x1 y1) x2).bind fun t1=>(some (y1,t1==0))) else none) else (some (y1,false))
def ff9_.b1 (k:Nat)(x1:W18)(x2:List Int)(rec1:Int→Int→Option (Int×Bool))(y4:Int)(y5:Int):Option (Int×Bool):=if (decide (y5<y4))=true then (if (0:Int)≤(wr .i64 (shr (wr .u64 (wr .i64 (y5+y4))) 1))∧(wr .i64 (shr (wr .u64 (wr .i64 (y5+y4))) 1))<((x1).length:Int) then ((fh7_.f k (gt x1 (wr .i64 (shr (wr .u64 (wr .i64 (y5+y4))) 1))) x2).bind fun t4=>(if (decide (t4<0))=true then (rec1 y4 (wr .i64 ((wr .i64 (shr (wr .u64 (wr .i64 (y5+y4))) 1))+1))) else (rec1 (wr .i64 (shr (wr .u64 (wr .i64 (y5+y4))) 1)) y5))) else none) else (ff9_.j1 k x1 x2 y5)
def ff9_.l1 (k:Nat)(x1:W18)(x2:List Int):Nat→Int→Int→Option (Int×Bool)
  | 0,_,_=>none
  | q+1,y4,y5=>ff9_.b1 k x1 x2 (ff9_.l1 k x1 x2 q) y4 y5
def ff9_.f (k:Nat)(x1:W18)(x2:List Int):Option (Int×Bool):=ff9_.l1 k x1 x2 k ((x1).length:Int) 0
theorem ff9_.ok (k:Nat):ff9_.Ctr (ff9_.f k):=by
 intro x1 x2 ch_0_0 ch_0_1 r h0 mi w0 ok hm
 delta ff9_.f at h0
 refine c_enterZ (n:=49) ok hm func89 rfl rfl rfl fun b0 hb a S=>c_region (s_box S rfl rfl rfl fun g1 a w S=>s_as2 S rfl fun a S=>c_end (c_region (s_mv1 S rfl fun a S=>s_lenS S rfl underlying69 rfl fun a S=>s_as1 S rfl fun a S=>c_end (c_region (s_mv1 S rfl fun a S=>s_as2 S rfl fun a S=>c_end (wp_seq_k fun K1 hK1=>?_))))))
 have j1:∀ m y1 g5 a w,St 49 m b0 [(9,(.i y1)),(8,(.i ((x1).length:Int))),(4,(.p g5)),(0,(.q Y83 ch_0_0 ch_0_1 x1)),(2,(.v (.func (.func 90) #[] #[])))] [Res.cells g5 43 [.w4 x2]] a w→ff9_.j1 k x1 x2 y1=some r→K1 a w:=by
  intro m y1 g5 a w S h0
  delta ff9_.j1 at h0
  refine hK1 a w ?_
  refine wp_seq (c_hS S (.tk 0 11 (.alts (.run 11 true (.tk 12 4 .done) .nil))) 16 (.c0 .n) ⟨Res.stay_cells,tv⟩ [(9,(.i y1)),(8,(.i ((x1).length:Int))),(4,(.p g5)),(0,(.q Y83 ch_0_0 ch_0_1 x1)),(2,(.v (.func (.func 90) #[] #[])))] rfl (by kernel_rfl) ?_); clear S; intro w S CL hw le
  refine h_mv3 S CL hw le rfl tv tv tv fun a S CL=>h_bin S CL hw le (subR rfl) rfl rfl rfl rfl rfl tv fun a S CL=>h_mv1 S CL hw le rfl tv fun a S CL=>?_
  rcases ite_of h0 with ⟨c1,h1⟩ | ⟨c1,h1⟩
  ·refine h_mv3 S CL hw le rfl ⟨_,_,rfl,rfl,c1⟩ ⟨_,_,rfl,rfl,c1⟩ ⟨_,_,rfl,rfl,c1⟩ fun a S CL=>?_
   obtain ⟨c2,h2⟩:=chk_of h1; clear h1
   refine h_iaddrS S CL hw le (subR rfl) rfl rfl rfl underlying69 T83 c2.1 c2.2 rfl rfl ⟨_,_,rfl,rfl,c1⟩ fun p1 a S CL=>h_ldA S CL hw le (subR rfl) (fun (c:Unit×Unit)=>[.w4 ((gt x1 y1).1), .w4 ((gt x1 y1).2)]) rfl T83 (fun _=>rfl) rfl rfl ⟨_,_,rfl,rfl,c1⟩ fun ch1 a S CL=>?_
   refine h_loada S CL hw le (subR rfl) rfl .h T43 (s':=[.w4 x2]) rfl rfl rfl ⟨_,_,rfl,rfl,c1⟩ fun a S CL=>h_run' S rfl ⟨_,_,rfl,rfl,c1⟩ (bindX h2 fun t1 et1 h3=>s_callK S (fh7_.ok k et1) N90 rfl .pre (fun _=> .n) rfl fun ch2 m le1 a w S=>?_)
   replace le:=le.trans le1
   refine CL.bk hw S (.c0 .n) le fun hw=>?_
   replace CL:=CL.add (t:=46) (d:=(.i t1)) S rfl rfl
   refine h_bin S CL hw le (subR rfl) rfl rfl rfl rfl rfl ⟨_,_,rfl,rfl,c1⟩ fun a S CL=>h_pick S CL hw le (subR rfl) (b:=true) (hc_of rfl c1) rfl rfl rfl tv fun a S CL=>h_assign S CL hw le (subR rfl) rfl rfl rfl tv fun a S CL=>h_assign S CL hw le (subR rfl) rfl rfl rfl tv fun a S CL=>?_
   refine h_done ?_; clear CL hw le
   refine x_thenN (wp_ret ?_)
   obtain rfl:=sI h3
   exact b_ret2 (d1:=(.i y1)) (d2:=(.b (t1==0))) S rfl rfl rfl fun ok1 ok2=>S.retX (Hx:=[]) hb _ _ (():Unit) .nil ⟨⟨ok1,tv⟩,⟨ok2,tv⟩,tv⟩
  ·refine h_sk4 S CL rfl (ne_bool c1) fun a S CL=>h_sk2 S CL rfl (ne_bool c1) fun a S CL=>h_skipRt S rfl rfl rfl (ne_bool c1) rfl fun a S=>CL.bk hw S (.c0 .n) le fun hw=>?_
   replace CL:=CL.add (t:=46) (d:= .u) S rfl rfl
   refine h_sk1 S CL rfl (ne_bool c1) fun a S CL=>h_pick S CL hw le (subR rfl) (b:=false) (hc_of rfl c1) rfl rfl rfl tv fun a S CL=>h_assign S CL hw le (subR rfl) rfl rfl rfl tv fun a S CL=>h_assign S CL hw le (subR rfl) rfl rfl rfl tv fun a S CL=>?_
   refine h_done ?_; clear CL hw le
   refine x_thenN (wp_ret ?_)
   obtain rfl:=sI h1
   exact b_ret2 (d1:=(.i y1)) (d2:=(.b false)) S rfl rfl rfl fun ok1 ok2=>S.retX (Hx:=[]) hb _ _ (():Unit) .nil ⟨⟨ok1,tv⟩,⟨ok2,tv⟩,tv⟩
 refine wp_block ?_
 refine c_loop (fun q1 a w=>∃ m y4 y5 g8,St 49 m b0 [(10,(.i y4)),(9,(.i y5)),(8,(.i ((x1).length:Int))),(4,(.p g8)),(0,(.q Y83 ch_0_0 ch_0_1 x1)),(2,(.v (.func (.func 90) #[] #[])))] [Res.cells g8 43 [.w4 x2]] a w∧ff9_.l1 k x1 x2 q1 y4 y5=some r) ?_ ?_ (k:=k) ⟨_,((x1).length:Int),0,g1,(S.sb rfl (.c0 .n)),h0⟩
 ·rintro a w ⟨m,y4,y5,g8,S,h0⟩
  exact (nomatch (show (none:Option (Int×Bool))=some r from h0))
 ·clear S h0
  rintro q1 a w ⟨m,y4,y5,g8,S,h0⟩
  replace h0:ff9_.b1 k x1 x2 (ff9_.l1 k x1 x2 q1) y4 y5=some r:=h0
  delta ff9_.b1 at h0
  refine wp_seq (c_region (s_mv2 S rfl fun a S=>s_bi S rfl fun a S=>c_end ?_))
  rcases ite_of h0 with ⟨c3,h1⟩ | ⟨c3,h1⟩
  ·refine c_condT S rfl c3 (wp_skip (x_thenN (wp_block (c_region (s_mv2 S rfl fun a S=>s_bi S rfl fun a S=>s_conv S rfl rfl underlying150 rfl fun a S=>s_shr S (e:=1) rfl rfl (by decide) rfl rfl fun a S=>s_conv S rfl rfl underlying3 rfl fun a S=>s_as1 S rfl fun a S=>c_end ?_)))))
   refine wp_seq (c_hS S (.tk 0 6 (.alts (.run 6 true (.take 7 .done) .nil))) 8 (.c0 .n) ⟨Res.stay_cells,tv⟩ [(11,(.i (wr .i64 (shr (wr .u64 (wr .i64 (y5+y4))) 1)))),(4,(.p g8)),(0,(.q Y83 ch_0_0 ch_0_1 x1)),(2,(.v (.func (.func 90) #[] #[])))] rfl (by kernel_rfl) ?_); clear S; intro w S CL hw le
   refine h_mv3 S CL hw le rfl tv tv tv fun a S CL=>?_
   obtain ⟨c4,h2⟩:=chk_of h1; clear h1
   refine h_iaddrS S CL hw le (subR rfl) rfl rfl rfl underlying69 T83 c4.1 c4.2 rfl rfl tv fun p4 a S CL=>h_ldA S CL hw le (subR rfl) (fun (c:Unit×Unit)=>[.w4 ((gt x1 (wr .i64 (shr (wr .u64 (wr .i64 (y5+y4))) 1))).1), .w4 ((gt x1 (wr .i64 (shr (wr .u64 (wr .i64 (y5+y4))) 1))).2)]) rfl T83 (fun _=>rfl) rfl rfl tv fun ch3 a S CL=>?_
   refine h_loada S CL hw le (subR rfl) rfl .h T43 (s':=[.w4 x2]) rfl rfl rfl tv fun a S CL=>h_run' S rfl tv (bindX h2 fun t4 et4 h3=>s_callK S (fh7_.ok k et4) N90 rfl .pre (fun _=> .n) rfl fun ch4 m le1 a w S=>?_)
   replace le:=le.trans le1
   refine CL.bk hw S (.c0 .n) le fun hw=>?_
   replace CL:=CL.add (t:=30) (d:=(.i t4)) S rfl rfl
   refine h_bin S CL hw le (subR rfl) rfl rfl rfl rfl rfl tv fun a S CL=>?_
   refine h_done ?_; clear CL hw le
   refine x_thenN ?_
   rcases ite_of h3 with ⟨c5,h4⟩ | ⟨c5,h4⟩
   ·refine c_condT S rfl c5 (c_region' (s_mv1 S rfl fun a S=>s_bi S rfl fun a S=>s_as1 S rfl fun a S=>c_end' (x_blockN (x_thenN ?_))))
    exact ⟨_,y4,(wr .i64 ((wr .i64 (shr (wr .u64 (wr .i64 (y5+y4))) 1))+1)),g8,(S.sb rfl (.c0 .n)),h4⟩
   ·refine c_condF S rfl c5 (c_region' (s_mv1 S rfl fun a S=>s_as1 S rfl fun a S=>c_end' (x_blockN (x_thenN ?_))))
    exact ⟨_,(wr .i64 (shr (wr .u64 (wr .i64 (y5+y4))) 1)),y5,g8,(S.sb rfl (.c0 .n)),h4⟩
  ·refine c_condF S rfl c3 (wp_exit (x_thenX (x_thenX (x_blockX (x_thenN ?_)))))
   exact j1 _ y5 g8 a w (S.sb rfl (.c0 .n)) h1
abbrev fi_.Ty:Type:=W1→(List Int)→Option (List Int)
def fi_.Ctr (s:fi_.Ty):Prop:=∀ {x1:W1} {x2:List Int} {ch_0_0:Option Addr} {ch_0_1:Nat} {ch_0_2:Option Addr} {ch_0_3:Nat} {r:List Int} (h0:s x1 x2=some r) {mi:Mem} {w0:World},CtrB Tryz.prog 57 [(.agg (Y71.segs x1 ((),(),(),(ch_0_0,ch_0_1),(ch_0_2,ch_0_3)))),(.a4 x2)] [] (fun (ch:Unit)=>((.a4 r):D)) (fun (ch:Unit)=>[]) mi w0
def fi_.f (k:Nat)(x1:W1)(x2:List Int):Option (List Int):=(ff9_.f k x1.2.2.2.2 x2).bind fun t1=>(if (!t1.2)=true then (some [0,0,0,0]) else (if (0:Int)≤t1.1∧t1.1<((x1.2.2.2.2).length:Int) then (some ((gt x1.2.2.2.2 t1.1).2)) else none))
theorem fi_.ok (k:Nat):fi_.Ctr (fi_.f k):=by
 intro x1 x2 ch_0_0 ch_0_1 ch_0_2 ch_0_3 r h0 mi w0 ok hm
 delta fi_.f at h0
 refine c_enterZ (n:=23) ok hm func57 rfl rfl rfl fun b0 hb a S=>c_region (s_box S rfl rfl rfl fun g1 a w S=>s_box S rfl rfl rfl fun g2 a w S=>s_alloc S Z43 rfl ⟨rfl,tv⟩ rfl fun g3 a w S=>c_end (c_region (s_fieldAddr S rfl I71_4 T69 (by decide) rfl rfl fun a S=>s_loadSl S rfl .h2 T69 (A:=ch_0_2) (len:=(x1.t4).length) (cap:=ch_0_3) rfl rfl fun a S=>s_loada S rfl .h1 T43 (s':=[.w4 x2]) rfl rfl fun a S=>bindX h0 fun t1 et1 h1=>s_callK S (ff9_.ok k et1) N89 rfl .pre (fun _=> .n) rfl fun ch1 m le1 a w S=>s_mv1 S rfl fun a S=>s_extract S rfl rfl rfl rfl fun a S=>s_extract S rfl rfl rfl rfl fun a S=>s_as2 S rfl fun a S=>c_end (wp_seq (c_region (s_mv1 S rfl fun a S=>s_not S rfl rfl fun a S=>c_end ?_))))))
 rcases ite_of h1 with ⟨c1,h2⟩ | ⟨c1,h2⟩
 ·refine c_condT S rfl c1 (c_region (s_build S (ds:=[]) (dv:=(.a4 [0,0,0,0])) rfl (fun _=>by kernel_rfl) ⟨rfl,tv⟩ rfl fun a S=>s_storeJ S 0 rfl rfl rfl rfl .h T43 rfl rfl fun w S=>c_end (wp_ret (x_thenR ?_))))
  obtain rfl:=sI h2
  exact b_ret1 (d:=(.a4 [0,0,0,0])) S rfl (resD_cell rfl .h T43 rfl rfl) (S.rt hb)
 ·refine c_condF S rfl c1 (wp_skip (x_thenN (c_region (s_fieldAddr S rfl I71_4 T69 (by decide) rfl rfl fun a S=>s_loadSl S rfl .h2 T69 (A:=ch_0_2) (len:=(x1.t4).length) (cap:=ch_0_3) rfl rfl fun a S=>s_mv1 S rfl fun a S=>?_))))
  obtain ⟨c2,h3⟩:=chk_of h2; clear h2
  refine s_iaddrS S rfl rfl rfl underlying69 T83 c2.1 c2.2 rfl fun p1 a S=>s_faddrP S (tF:=(Ty.arr .u64 4)) (y:=(gt x1.t4 t1.1).2) rfl I83_1 T43 (by decide) (fun m h=>(at_snd (at_0 h))) rfl fun a S=>s_ldA S (fun (c:Unit)=>[.w4 ((gt x1.t4 t1.1).2)]) rfl T43 (fun _=>rfl) rfl fun ch2 a S=>?_
  refine s_storeJ S 0 rfl rfl rfl rfl .h T43 rfl rfl fun w S=>c_end (wp_ret ?_)
  obtain rfl:=sI h3
  exact b_ret1 (d:=(.a4 ((gt x1.t4 t1.1).2))) S rfl (resD_cell rfl .h T43 rfl rfl) (S.rt hb)
abbrev fg0_.Ty:Type:=W2→(List Int)→(List Int)→Option W19
def fg0_.Ctr (s:fg0_.Ty):Prop:=∀ {x1:W2} {x2:List Int} {x3:List Int} {ch_0:W3} {r:W19} (h0:s x1 x2 x3=some r) {mi:Mem} {w0:World},CtrB Tryz.prog 22 [(.v (.pointer (some ⟨ch_0.1,0,none⟩))),(.agg [.b20 x2]),(.a4 x3)] (MS1 x1 ch_0) (fun (ch:W7)=>((.a4 r.1):D)) (fun (ch:W7)=>(MS1 (x1.1,r.e3,x1.e3,r.e5,r.e6,r.t6) (ch_0.1,ch_0.2.1,ch_0.e3,ch.1,ch.2.1,ch.e3,ch.e4,ch.e5,ch.e6,ch.e7,ch.e8,ch.e9,ch.e10,ch.e11,ch.e12,ch.t12))) mi w0
def fg0_.f (k:Nat)(x1:W2)(x2:List Int)(x3:List Int):Option W19:=(fh6_.f k x1 x2).bind fun t1=>(if t1.1.isSome=true then (if ((atE t1.2.2.1.2.1 (t1.1.getD 0)).2.2.1)=true then (some ([0,0,0,0],((),t1.2.2.1,(),t1.2.2.2.2.1,t1.2.2.2.2.2.1,t1.2.2.2.2.2.2))) else ((fi_.f k ((atE t1.2.2.1.2.1 (t1.1.getD 0)).1) x3).bind fun t2=>(some (t2,((),t1.2.2.1,(),t1.2.2.2.2.1,t1.2.2.2.2.2.1,t1.2.2.2.2.2.2))))) else none)
theorem fg0_.ok (k:Nat):fg0_.Ctr (fg0_.f k):=by
 intro x1 x2 x3 ch_0 r h0 mi w0 ok hm
 delta fg0_.f at h0
 refine c_enterZ (n:=25) ok hm func22 rfl rfl rfl fun b0 hb a S=>c_region (s_box S rfl rfl rfl fun g1 a w S=>s_box S rfl rfl rfl fun g2 a w S=>s_alloc S Z43 rfl ⟨rfl,tv⟩ rfl fun g3 a w S=>c_end (wp_seq (c_region (s_mv1 S rfl fun a S=>s_eqp S (b:=false) rfl rfl underlying26 rfl rfl fun a S=>c_end (c_condF S rfl rfl (wp_skip (x_thenN (c_region (s_mv1 S rfl fun a S=>s_loada S rfl .h2 T40 (s':=[.b20 x2]) rfl rfl fun a S=>bindX h0 fun t1 et1 h1=>s_callK S (fh6_.ok k (ch_0:=ch_0) et1) N56 rfl (.sk (.sk (.sk .pre))) (fun _=> .c8) rfl fun ch1 m le1 a w S=>s_as1 S rfl fun a S=>c_end (wp_seq (c_region (s_mv1 S rfl fun a S=>?_))))))))))))
 obtain ⟨c1,h2⟩:=chk_of h1; clear h1
 have hl1:=S.slotPlt (u:=14) c1 rfl
 replace S:=S.slotP (u:=14) c1 rfl
 refine s_nilchk S rfl rfl fun a S=>s_fieldAddr S rfl I110_2 T4 (by decide) rfl rfl fun a S=>?_
 replace S:=S.famOpen (i:=(t1.1.getD 0)) hl1 .h2
 have hS:=S.structOpen (T:=(YE110 ch1.e3 ch1.e4)) (fun _=> .h) (((),(),(),(none,0),(none,0)),((),(),(),(none,0),(none,0)),(),(),(),(),())
 clear S; obtain ⟨ch2,S⟩:=hS
 refine s_load1 S rfl .h T4 (v:=(.bool ((atE t1.e3.2.1 (t1.1.getD 0)).e3))) rfl rfl fun a S=>?_
 replace S:=S.structClose (T:=(YE110 ch1.e3 ch1.e4)) (e:=atE t1.e3.2.1 (t1.1.getD 0)) (ch2:((YE110 ch1.e3 ch1.e4)).Ch) rfl .h
 replace S:=S.famShut hl1 .h .h2
 refine c_end ?_
 rcases ite_of h2 with ⟨c2,h3⟩ | ⟨c2,h3⟩
 ·refine c_condT S rfl c2 (c_region (s_build S (ds:=[]) (dv:=(.a4 [0,0,0,0])) rfl (fun _=>by kernel_rfl) ⟨rfl,tv⟩ rfl fun a S=>s_storeJ S 0 rfl rfl rfl rfl .h8 T43 rfl rfl fun w S=>c_end (wp_ret (x_thenR ?_))))
  obtain rfl:=sI h3
  exact b_ret1 (d:=(.a4 [0,0,0,0])) S rfl (resD_cell rfl .h8 T43 rfl rfl) fun ok=>S.retX (Hx:=[]) hb _ _ (ch1:W7) (.c0 (.c0 (.c0 (.c0 (.c0 (.c0 (.c0 (.c0 .n)))))))) ok
 ·refine c_condF S rfl c2 (wp_skip (x_thenN ?_))
  refine wp_seq (c_hS S (.take 0 (.take 4 (.alts (.run 1 true (.take 2 (.alts (.run 3 true (.alts (.run 5 true (.alts (.run 6 false .done .nil)) .nil)) .nil))) .nil)))) 6 (.c9 .n) ⟨Res.stay_cells,tv⟩ [(7,(.rf (ptrV ch1.2.1 t1.1) (ptrR ch1.2.1 t1.1))),(5,(.p g2))] rfl (by kernel_rfl) ?_); clear S; intro w S CL hw le
  refine h_mv1 S CL hw le rfl tv fun a S CL=>h_loada S CL hw le (subR rfl) rfl .h T43 (s':=[.w4 x3]) rfl rfl rfl tv fun a S CL=>h_run' S rfl tv ?_
  have hl1:=S.slotPlt (u:=19) c1 rfl
  replace S:=S.slotP (u:=19) c1 rfl
  replace CL:=CL.drop (lq':=[(23,(.a4 x3)),(7,(.rf (ptrV ch1.2.1 t1.1) (ptrR ch1.2.1 t1.1))),(5,(.p g2))]) (subR rfl)
  refine s_nilchk S rfl rfl fun a S=>CL.bk hw S (.c9 .n) le fun hw=>?_
  replace CL:=CL.add (t:=20) (d:=(.v (.pointer (some ⟨(bAt ch1.2.1 (t1.1.getD 0)),0,none⟩)))) S rfl rfl
  refine h_fieldAddr S CL hw le (subR rfl) rfl I110_0 T71 (by decide) rfl rfl rfl tv fun a S CL=>h_run' S rfl tv ?_
  replace S:=S.famOpen (i:=(t1.1.getD 0)) hl1 .h2
  have hS:=S.structOpen (T:=(YE110 ch1.e3 ch1.e4)) (fun _=> .h) (((),(),(),(none,0),(none,0)),((),(),(),(none,0),(none,0)),(),(),(),(),())
  clear S; obtain ⟨ch3,S⟩:=hS
  refine s_loada S rfl .h T71 (s':=(Y71.segs ((atE t1.e3.2.1 (t1.1.getD 0)).1) ch3.1)) rfl rfl fun a S=>?_
  replace S:=S.structClose (T:=(YE110 ch1.e3 ch1.e4)) (e:=atE t1.e3.2.1 (t1.1.getD 0)) (ch3:((YE110 ch1.e3 ch1.e4)).Ch) rfl .h
  replace S:=S.famShut hl1 .h .h2
  refine CL.bk hw S (.c9 .n) le fun hw=>h_run' S rfl tv (bindX h3 fun t2 et2 h4=>s_callK S (fi_.ok k et2) N57 rfl .pre (fun _=> .n) rfl fun ch4 m le1 a w S=>?_)
  replace le:=le.trans le1
  refine CL.bk hw S (.c9 .n) le fun hw=>h_run' S rfl tv (s_store S rfl rfl rfl (s':=[.w4 t2]) .h8 T43 rfl rfl fun w S=>?_)
  refine h_back ⟨fun h=>(nomatch h),?_⟩
  refine h_done ?_; clear CL hw le
  refine x_thenN (wp_ret ?_)
  obtain rfl:=sI h4
  exact b_ret1 (d:=(.a4 t2)) S rfl (resD_cell rfl .h8 T43 rfl rfl) fun ok=>S.retX (Hx:=[]) hb _ _ (ch1:W7) (.c0 (.c0 (.c0 (.c0 (.c0 (.c0 (.c0 (.c0 .n)))))))) ok
end
end GW

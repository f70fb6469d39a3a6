/- Own texts, merged: Types, VcK, VcR, VcG, VcQ, CdMath. -/
import Derived.Test.YtjlogcfggfmacaaDoorM3
import Derived.Test.YtjlogcfggfmacaaDoorProg
set_option linter.unusedVariables false
set_option linter.unusedSimpArgs false
open Nat (reduceEqDiff reduceAdd reduceLeDiff)
set_option maxRecDepth 100000
set_option maxHeartbeats 4000000
namespace Go.Proofs.YtjlogcfggfmacaaDoor
section
open Go.Abs
structure z08 where
 Kind:Int
 Rec:Int
 Once:Bool
 deriving DecidableEq,Inhabited
def z08.cells (x:z08):List AV:=[.int .i64 x.Kind,.int .i64 x.Rec,.bool x.Once]
def z08.ok (x:z08):Prop:=okI x.Kind/\okI x.Rec/\okT x.Once
theorem z08.of {cs:List AV} (h:TyA Tryd.prog 46 cs):∃ x:z08,cs=x.cells/\x.ok:=by
 obtain ⟨parts,rfl,hp⟩:=h.z7i Tryd.underlying46;simp only [List.map_cons,List.map_nil] at hp;obtain ⟨p0,r0,rfl,t0,hp⟩:=hp.cons_inv;obtain ⟨p1,r1,rfl,t1,hp⟩:=hp.cons_inv;obtain ⟨p2,r2,rfl,t2,hp⟩:=hp.cons_inv;obtain rfl:=hp.zbq;obtain ⟨x0,rfl,k0⟩:=((λ_ h=>h.z7b Tryd.underlying3:∀ cs,TyA Tryd.prog 3 cs->∃ x:Int,cs=(encI) x/\(okI) x)) _ t0;obtain ⟨x1,rfl,k1⟩:=((λ_ h=>h.z7b Tryd.underlying3:∀ cs,TyA Tryd.prog 3 cs->∃ x:Int,cs=(encI) x/\(okI) x)) _ t1;obtain ⟨x2,rfl,k2⟩:=((λ_ h=>h.bool_of Tryd.underlying4:∀ cs,TyA Tryd.prog 4 cs->∃ x:Bool,cs=(encT) x/\(okT) x)) _ t2;exact ⟨⟨x0,x1,x2⟩,rfl,⟨k0,k1,k2⟩⟩
theorem z08.c0 (x:z08) (K:AV->Prop):z03 none x.cells 0 K=K (.int .i64 x.Kind):=by simp [z03,z08.cells]
theorem z08.c1 (x:z08) (K:AV->Prop):z03 none x.cells 1 K=K (.int .i64 x.Rec):=by simp [z03,z08.cells]
theorem z08.c2 (x:z08) (K:AV->Prop):z03 none x.cells 2 K=K (.bool x.Once):=by simp [z03,z08.cells]
theorem z08.call (x:z08) (K:AV->Prop):z03 (some 3) x.cells 0 K=K (.agg x.cells):=by simp [z03,z08.cells]
theorem z08.put (x:z08) (h:z00) (ty:TypeId) (K:z00->Prop):z14 3 (.ptr h.next 0) (.agg x.cells) (h.push (.row ty [.int .i64 0,.int .i64 0,.bool false])) K=K (h.push (.row ty x.cells)):=z1j (by rfl) (by rfl) K
theorem z08.r:(type_of% @z08.c0)/\(type_of% @z08.c1)/\(type_of% @z08.c2)/\(type_of% @z08.call)/\(type_of% @z08.put):=⟨@z08.c0,@z08.c1,@z08.c2,@z08.call,@z08.put⟩
structure z0e where
 Op:Int
 Bin:Int
 N:Nat
 deriving DecidableEq,Inhabited
def z0e.cells (x:z0e):List AV:=[.int .i64 x.Op,.int .i64 x.Bin,.int .u64 (x.N:Nat)]
def z0e.ok (x:z0e):Prop:=okI x.Op/\okI x.Bin/\okN x.N
theorem z0e.of {cs:List AV} (h:TyA Tryd.prog 103 cs):∃ x:z0e,cs=x.cells/\x.ok:=by
 obtain ⟨parts,rfl,hp⟩:=h.z7i Tryd.underlying103;simp only [List.map_cons,List.map_nil] at hp;obtain ⟨p0,r0,rfl,t0,hp⟩:=hp.cons_inv;obtain ⟨p1,r1,rfl,t1,hp⟩:=hp.cons_inv;obtain ⟨p2,r2,rfl,t2,hp⟩:=hp.cons_inv;obtain rfl:=hp.zbq;obtain ⟨x0,rfl,k0⟩:=((λ_ h=>h.z7b Tryd.underlying3:∀ cs,TyA Tryd.prog 3 cs->∃ x:Int,cs=(encI) x/\(okI) x)) _ t0;obtain ⟨x1,rfl,k1⟩:=((λ_ h=>h.z7b Tryd.underlying3:∀ cs,TyA Tryd.prog 3 cs->∃ x:Int,cs=(encI) x/\(okI) x)) _ t1;obtain ⟨x2,rfl,k2⟩:=((λ_ h=>h.u64_of Tryd.underlying89:∀ cs,TyA Tryd.prog 89 cs->∃ x:Nat,cs=(encN) x/\(okN) x)) _ t2;exact ⟨⟨x0,x1,x2⟩,rfl,⟨k0,k1,k2⟩⟩
theorem z0e.c0 (x:z0e) (K:AV->Prop):z03 none x.cells 0 K=K (.int .i64 x.Op):=by simp [z03,z0e.cells]
theorem z0e.c1 (x:z0e) (K:AV->Prop):z03 none x.cells 1 K=K (.int .i64 x.Bin):=by simp [z03,z0e.cells]
theorem z0e.c2 (x:z0e) (K:AV->Prop):z03 none x.cells 2 K=K (.int .u64 (x.N:Nat)):=by simp [z03,z0e.cells]
theorem z0e.call (x:z0e) (K:AV->Prop):z03 (some 3) x.cells 0 K=K (.agg x.cells):=by simp [z03,z0e.cells]
theorem z0e.put (x:z0e) (h:z00) (ty:TypeId) (K:z00->Prop):z14 3 (.ptr h.next 0) (.agg x.cells) (h.push (.row ty [.int .i64 0,.int .i64 0,.int .u64 0])) K=K (h.push (.row ty x.cells)):=z1j (by rfl) (by rfl) K
theorem z0e.r:(type_of% @z0e.c0)/\(type_of% @z0e.c1)/\(type_of% @z0e.c2)/\(type_of% @z0e.call)/\(type_of% @z0e.put):=⟨@z0e.c0,@z0e.c1,@z0e.c2,@z0e.call,@z0e.put⟩
structure z0a where
 Op:Int
 Dst:Int
 Src:Int
 Rec:Int
 N:Int
 To:Int
 Items:Option (List z0e)
 Index:Option (List z0e)
 deriving DecidableEq,Inhabited
def z0a.cells (x:z0a):List AV:=[.int .i64 x.Op,.int .i64 x.Dst,.int .i64 x.Src,.int .i64 x.Rec,.int .i64 x.N,.int .i64 x.To,slAV 3 (z0e.cells) x.Items,slAV 3 (z0e.cells) x.Index]
def z0a.ok (x:z0a):Prop:=okI x.Op/\okI x.Dst/\okI x.Src/\okI x.Rec/\okI x.N/\okI x.To/\(okSl (z0e.ok)) x.Items/\(okSl (z0e.ok)) x.Index
theorem z0a.of {cs:List AV} (h:TyA Tryd.prog 49 cs):∃ x:z0a,cs=x.cells/\x.ok:=by
 obtain ⟨parts,rfl,hp⟩:=h.z7i Tryd.underlying49;simp only [List.map_cons,List.map_nil] at hp;obtain ⟨p0,r0,rfl,t0,hp⟩:=hp.cons_inv;obtain ⟨p1,r1,rfl,t1,hp⟩:=hp.cons_inv;obtain ⟨p2,r2,rfl,t2,hp⟩:=hp.cons_inv;obtain ⟨p3,r3,rfl,t3,hp⟩:=hp.cons_inv;obtain ⟨p4,r4,rfl,t4,hp⟩:=hp.cons_inv;obtain ⟨p5,r5,rfl,t5,hp⟩:=hp.cons_inv;obtain ⟨p6,r6,rfl,t6,hp⟩:=hp.cons_inv;obtain ⟨p7,r7,rfl,t7,hp⟩:=hp.cons_inv;obtain rfl:=hp.zbq;obtain ⟨x0,rfl,k0⟩:=((λ_ h=>h.z7b Tryd.underlying3:∀ cs,TyA Tryd.prog 3 cs->∃ x:Int,cs=(encI) x/\(okI) x)) _ t0;obtain ⟨x1,rfl,k1⟩:=((λ_ h=>h.z7b Tryd.underlying3:∀ cs,TyA Tryd.prog 3 cs->∃ x:Int,cs=(encI) x/\(okI) x)) _ t1;obtain ⟨x2,rfl,k2⟩:=((λ_ h=>h.z7b Tryd.underlying3:∀ cs,TyA Tryd.prog 3 cs->∃ x:Int,cs=(encI) x/\(okI) x)) _ t2;obtain ⟨x3,rfl,k3⟩:=((λ_ h=>h.z7b Tryd.underlying3:∀ cs,TyA Tryd.prog 3 cs->∃ x:Int,cs=(encI) x/\(okI) x)) _ t3;obtain ⟨x4,rfl,k4⟩:=((λ_ h=>h.z7b Tryd.underlying3:∀ cs,TyA Tryd.prog 3 cs->∃ x:Int,cs=(encI) x/\(okI) x)) _ t4;obtain ⟨x5,rfl,k5⟩:=((λ_ h=>h.z7b Tryd.underlying3:∀ cs,TyA Tryd.prog 3 cs->∃ x:Int,cs=(encI) x/\(okI) x)) _ t5;obtain ⟨x6,rfl,k6⟩:=((λ_ h=>h.zmm Tryd.underlying47 (show Tryd.prog.cellsOf 103=3 by kernel_rfl) (by omega) (λ_ h=>z0e.of h):∀ cs,TyA Tryd.prog 47 cs->∃ x:Option (List z0e),cs=(λo=>[slAV 3 (z0e.cells) o]) x/\(okSl (z0e.ok)) x)) _ t6;obtain ⟨x7,rfl,k7⟩:=((λ_ h=>h.zmm Tryd.underlying47 (show Tryd.prog.cellsOf 103=3 by kernel_rfl) (by omega) (λ_ h=>z0e.of h):∀ cs,TyA Tryd.prog 47 cs->∃ x:Option (List z0e),cs=(λo=>[slAV 3 (z0e.cells) o]) x/\(okSl (z0e.ok)) x)) _ t7
 exact ⟨⟨x0,x1,x2,x3,x4,x5,x6,x7⟩,rfl,⟨k0,k1,k2,k3,k4,k5,k6,k7⟩⟩
theorem z0a.c0 (x:z0a) (K:AV->Prop):z03 none x.cells 0 K=K (.int .i64 x.Op):=by simp [z03,z0a.cells]
theorem z0a.c1 (x:z0a) (K:AV->Prop):z03 none x.cells 1 K=K (.int .i64 x.Dst):=by simp [z03,z0a.cells]
theorem z0a.c2 (x:z0a) (K:AV->Prop):z03 none x.cells 2 K=K (.int .i64 x.Src):=by simp [z03,z0a.cells]
theorem z0a.c3 (x:z0a) (K:AV->Prop):z03 none x.cells 3 K=K (.int .i64 x.Rec):=by simp [z03,z0a.cells]
theorem z0a.c4 (x:z0a) (K:AV->Prop):z03 none x.cells 4 K=K (.int .i64 x.N):=by simp [z03,z0a.cells]
theorem z0a.c5 (x:z0a) (K:AV->Prop):z03 none x.cells 5 K=K (.int .i64 x.To):=by simp [z03,z0a.cells]
theorem z0a.c6 (x:z0a) (K:AV->Prop):z03 none x.cells 6 K=K (slAV 3 (z0e.cells) x.Items):=by simp [z03,z0a.cells]
theorem z0a.c7 (x:z0a) (K:AV->Prop):z03 none x.cells 7 K=K (slAV 3 (z0e.cells) x.Index):=by simp [z03,z0a.cells]
theorem z0a.call (x:z0a) (K:AV->Prop):z03 (some 8) x.cells 0 K=K (.agg x.cells):=by simp [z03,z0a.cells]
theorem z0a.put (x:z0a) (h:z00) (ty:TypeId) (K:z00->Prop):z14 8 (.ptr h.next 0) (.agg x.cells) (h.push (.row ty [.int .i64 0,.int .i64 0,.int .i64 0,.int .i64 0,.int .i64 0,.int .i64 0,.nils,.nils])) K=K (h.push (.row ty x.cells)):=z1j (by rfl) (by rfl) K
theorem z0a.r:(type_of% @z0a.c0)/\(type_of% @z0a.c1)/\(type_of% @z0a.c2)/\(type_of% @z0a.c3)/\(type_of% @z0a.c4)/\(type_of% @z0a.c5)/\(type_of% @z0a.c6)/\(type_of% @z0a.c7)/\(type_of% @z0a.call)/\(type_of% @z0a.put):=⟨@z0a.c0,@z0a.c1,@z0a.c2,@z0a.c3,@z0a.c4,@z0a.c5,@z0a.c6,@z0a.c7,@z0a.call,@z0a.put⟩
structure z0m where
 Slots:Option (List z08)
 Code:Option (List z0a)
 Most:Int
 deriving DecidableEq,Inhabited
def z0m.cells (x:z0m):List AV:=[slAV 3 (z08.cells) x.Slots,slAV 8 (z0a.cells) x.Code,.int .i64 x.Most]
def z0m.ok (x:z0m):Prop:=(okSl (z08.ok)) x.Slots/\(okSl (z0a.ok)) x.Code/\okI x.Most
theorem z0m.of {cs:List AV} (h:TyA Tryd.prog 52 cs):∃ x:z0m,cs=x.cells/\x.ok:=by
 obtain ⟨parts,rfl,hp⟩:=h.z7i Tryd.underlying52;simp only [List.map_cons,List.map_nil] at hp;obtain ⟨p0,r0,rfl,t0,hp⟩:=hp.cons_inv;obtain ⟨p1,r1,rfl,t1,hp⟩:=hp.cons_inv;obtain ⟨p2,r2,rfl,t2,hp⟩:=hp.cons_inv;obtain rfl:=hp.zbq;obtain ⟨x0,rfl,k0⟩:=((λ_ h=>h.zmm Tryd.underlying23 (show Tryd.prog.cellsOf 46=3 by kernel_rfl) (by omega) (λ_ h=>z08.of h):∀ cs,TyA Tryd.prog 23 cs->∃ x:Option (List z08),cs=(λo=>[slAV 3 (z08.cells) o]) x/\(okSl (z08.ok)) x)) _ t0;obtain ⟨x1,rfl,k1⟩:=((λ_ h=>h.zmm Tryd.underlying50 (show Tryd.prog.cellsOf 49=8 by kernel_rfl) (by omega) (λ_ h=>z0a.of h):∀ cs,TyA Tryd.prog 50 cs->∃ x:Option (List z0a),cs=(λo=>[slAV 8 (z0a.cells) o]) x/\(okSl (z0a.ok)) x)) _ t1;obtain ⟨x2,rfl,k2⟩:=((λ_ h=>h.z7b Tryd.underlying3:∀ cs,TyA Tryd.prog 3 cs->∃ x:Int,cs=(encI) x/\(okI) x)) _ t2;exact ⟨⟨x0,x1,x2⟩,rfl,⟨k0,k1,k2⟩⟩
theorem z0m.c0 (x:z0m) (K:AV->Prop):z03 none x.cells 0 K=K (slAV 3 (z08.cells) x.Slots):=by simp [z03,z0m.cells]
theorem z0m.c1 (x:z0m) (K:AV->Prop):z03 none x.cells 1 K=K (slAV 8 (z0a.cells) x.Code):=by simp [z03,z0m.cells]
theorem z0m.c2 (x:z0m) (K:AV->Prop):z03 none x.cells 2 K=K (.int .i64 x.Most):=by simp [z03,z0m.cells]
theorem z0m.call (x:z0m) (K:AV->Prop):z03 (some 3) x.cells 0 K=K (.agg x.cells):=by simp [z03,z0m.cells]
theorem z0m.put (x:z0m) (h:z00) (ty:TypeId) (K:z00->Prop):z14 3 (.ptr h.next 0) (.agg x.cells) (h.push (.row ty [.nils,.nils,.int .i64 0])) K=K (h.push (.row ty x.cells)):=z1j (by rfl) (by rfl) K
theorem z0m.r:(type_of% @z0m.c0)/\(type_of% @z0m.c1)/\(type_of% @z0m.c2)/\(type_of% @z0m.call)/\(type_of% @z0m.put):=⟨@z0m.c0,@z0m.c1,@z0m.c2,@z0m.call,@z0m.put⟩
structure z0s where
 Thread:Int
 At:Int
 Rec:Int
 deriving DecidableEq,Inhabited
def z0s.cells (x:z0s):List AV:=[.int .i64 x.Thread,.int .i64 x.At,.int .i64 x.Rec]
def z0s.ok (x:z0s):Prop:=okI x.Thread/\okI x.At/\okI x.Rec
theorem z0s.of {cs:List AV} (h:TyA Tryd.prog 59 cs):∃ x:z0s,cs=x.cells/\x.ok:=by
 obtain ⟨parts,rfl,hp⟩:=h.z7i Tryd.underlying59;simp only [List.map_cons,List.map_nil] at hp;obtain ⟨p0,r0,rfl,t0,hp⟩:=hp.cons_inv;obtain ⟨p1,r1,rfl,t1,hp⟩:=hp.cons_inv;obtain ⟨p2,r2,rfl,t2,hp⟩:=hp.cons_inv;obtain rfl:=hp.zbq;obtain ⟨x0,rfl,k0⟩:=((λ_ h=>h.z7b Tryd.underlying3:∀ cs,TyA Tryd.prog 3 cs->∃ x:Int,cs=(encI) x/\(okI) x)) _ t0;obtain ⟨x1,rfl,k1⟩:=((λ_ h=>h.z7b Tryd.underlying3:∀ cs,TyA Tryd.prog 3 cs->∃ x:Int,cs=(encI) x/\(okI) x)) _ t1;obtain ⟨x2,rfl,k2⟩:=((λ_ h=>h.z7b Tryd.underlying3:∀ cs,TyA Tryd.prog 3 cs->∃ x:Int,cs=(encI) x/\(okI) x)) _ t2;exact ⟨⟨x0,x1,x2⟩,rfl,⟨k0,k1,k2⟩⟩
theorem z0s.c0 (x:z0s) (K:AV->Prop):z03 none x.cells 0 K=K (.int .i64 x.Thread):=by simp [z03,z0s.cells]
theorem z0s.c1 (x:z0s) (K:AV->Prop):z03 none x.cells 1 K=K (.int .i64 x.At):=by simp [z03,z0s.cells]
theorem z0s.c2 (x:z0s) (K:AV->Prop):z03 none x.cells 2 K=K (.int .i64 x.Rec):=by simp [z03,z0s.cells]
theorem z0s.call (x:z0s) (K:AV->Prop):z03 (some 3) x.cells 0 K=K (.agg x.cells):=by simp [z03,z0s.cells]
theorem z0s.put (x:z0s) (h:z00) (ty:TypeId) (K:z00->Prop):z14 3 (.ptr h.next 0) (.agg x.cells) (h.push (.row ty [.int .i64 0,.int .i64 0,.int .i64 0])) K=K (h.push (.row ty x.cells)):=z1j (by rfl) (by rfl) K
theorem z0s.r:(type_of% @z0s.c0)/\(type_of% @z0s.c1)/\(type_of% @z0s.c2)/\(type_of% @z0s.call)/\(type_of% @z0s.put):=⟨@z0s.c0,@z0s.c1,@z0s.c2,@z0s.call,@z0s.put⟩
structure z04 where
 Thread:Int
 From:Int
 To:Int
 deriving DecidableEq,Inhabited
def z04.cells (x:z04):List AV:=[.int .i64 x.Thread,.int .i64 x.From,.int .i64 x.To]
def z04.ok (x:z04):Prop:=okI x.Thread/\okI x.From/\okI x.To
theorem z04.of {cs:List AV} (h:TyA Tryd.prog 54 cs):∃ x:z04,cs=x.cells/\x.ok:=by
 obtain ⟨parts,rfl,hp⟩:=h.z7i Tryd.underlying54;simp only [List.map_cons,List.map_nil] at hp;obtain ⟨p0,r0,rfl,t0,hp⟩:=hp.cons_inv;obtain ⟨p1,r1,rfl,t1,hp⟩:=hp.cons_inv;obtain ⟨p2,r2,rfl,t2,hp⟩:=hp.cons_inv;obtain rfl:=hp.zbq;obtain ⟨x0,rfl,k0⟩:=((λ_ h=>h.z7b Tryd.underlying3:∀ cs,TyA Tryd.prog 3 cs->∃ x:Int,cs=(encI) x/\(okI) x)) _ t0;obtain ⟨x1,rfl,k1⟩:=((λ_ h=>h.z7b Tryd.underlying3:∀ cs,TyA Tryd.prog 3 cs->∃ x:Int,cs=(encI) x/\(okI) x)) _ t1;obtain ⟨x2,rfl,k2⟩:=((λ_ h=>h.z7b Tryd.underlying3:∀ cs,TyA Tryd.prog 3 cs->∃ x:Int,cs=(encI) x/\(okI) x)) _ t2;exact ⟨⟨x0,x1,x2⟩,rfl,⟨k0,k1,k2⟩⟩
theorem z04.c0 (x:z04) (K:AV->Prop):z03 none x.cells 0 K=K (.int .i64 x.Thread):=by simp [z03,z04.cells]
theorem z04.c1 (x:z04) (K:AV->Prop):z03 none x.cells 1 K=K (.int .i64 x.From):=by simp [z03,z04.cells]
theorem z04.c2 (x:z04) (K:AV->Prop):z03 none x.cells 2 K=K (.int .i64 x.To):=by simp [z03,z04.cells]
theorem z04.call (x:z04) (K:AV->Prop):z03 (some 3) x.cells 0 K=K (.agg x.cells):=by simp [z03,z04.cells]
theorem z04.put (x:z04) (h:z00) (ty:TypeId) (K:z00->Prop):z14 3 (.ptr h.next 0) (.agg x.cells) (h.push (.row ty [.int .i64 0,.int .i64 0,.int .i64 0])) K=K (h.push (.row ty x.cells)):=z1j (by rfl) (by rfl) K
theorem z04.r:(type_of% @z04.c0)/\(type_of% @z04.c1)/\(type_of% @z04.c2)/\(type_of% @z04.call)/\(type_of% @z04.put):=⟨@z04.c0,@z04.c1,@z04.c2,@z04.call,@z04.put⟩
structure z0f where
 Records:Option (List (Option (List z08)))
 Globals:Option (List z08)
 Threads:Option (List z0m)
 Sites:Option (List z0s)
 Sections:Option (List z04)
 deriving DecidableEq,Inhabited
def z0f.cells (x:z0f):List AV:=[slAV 1 (λo=>[slAV 3 (z08.cells) o]) x.Records,slAV 3 (z08.cells) x.Globals,slAV 3 (z0m.cells) x.Threads,slAV 3 (z0s.cells) x.Sites,slAV 3 (z04.cells) x.Sections]
def z0f.ok (x:z0f):Prop:=(okSl (okSl (z08.ok))) x.Records/\(okSl (z08.ok)) x.Globals/\(okSl (z0m.ok)) x.Threads/\(okSl (z0s.ok)) x.Sites/\(okSl (z04.ok)) x.Sections
theorem z0f.of {cs:List AV} (h:TyA Tryd.prog 28 cs):∃ x:z0f,cs=x.cells/\x.ok:=by
 obtain ⟨parts,rfl,hp⟩:=h.z7i Tryd.underlying28;simp only [List.map_cons,List.map_nil] at hp;obtain ⟨p0,r0,rfl,t0,hp⟩:=hp.cons_inv;obtain ⟨p1,r1,rfl,t1,hp⟩:=hp.cons_inv;obtain ⟨p2,r2,rfl,t2,hp⟩:=hp.cons_inv;obtain ⟨p3,r3,rfl,t3,hp⟩:=hp.cons_inv;obtain ⟨p4,r4,rfl,t4,hp⟩:=hp.cons_inv;obtain rfl:=hp.zbq;obtain ⟨x0,rfl,k0⟩:=((λ_ h=>h.zmm Tryd.underlying22 (show Tryd.prog.cellsOf 23=1 by kernel_rfl) (by omega) (λ_ h=>h.zmm Tryd.underlying23 (show Tryd.prog.cellsOf 46=3 by kernel_rfl) (by omega) (λ_ h=>z08.of h)):∀ cs,TyA Tryd.prog 22 cs->∃ x:Option (List (Option (List z08))),cs=(λo=>[slAV 1 (λo=>[slAV 3 (z08.cells) o]) o]) x/\(okSl (okSl (z08.ok))) x)) _ t0;obtain ⟨x1,rfl,k1⟩:=((λ_ h=>h.zmm Tryd.underlying23 (show Tryd.prog.cellsOf 46=3 by kernel_rfl) (by omega) (λ_ h=>z08.of h):∀ cs,TyA Tryd.prog 23 cs->∃ x:Option (List z08),cs=(λo=>[slAV 3 (z08.cells) o]) x/\(okSl (z08.ok)) x)) _ t1;obtain ⟨x2,rfl,k2⟩:=((λ_ h=>h.zmm Tryd.underlying24 (show Tryd.prog.cellsOf 52=3 by kernel_rfl) (by omega) (λ_ h=>z0m.of h):∀ cs,TyA Tryd.prog 24 cs->∃ x:Option (List z0m),cs=(λo=>[slAV 3 (z0m.cells) o]) x/\(okSl (z0m.ok)) x)) _ t2;obtain ⟨x3,rfl,k3⟩:=((λ_ h=>h.zmm Tryd.underlying25 (show Tryd.prog.cellsOf 59=3 by kernel_rfl) (by omega) (λ_ h=>z0s.of h):∀ cs,TyA Tryd.prog 25 cs->∃ x:Option (List z0s),cs=(λo=>[slAV 3 (z0s.cells) o]) x/\(okSl (z0s.ok)) x)) _ t3;obtain ⟨x4,rfl,k4⟩:=((λ_ h=>h.zmm Tryd.underlying26 (show Tryd.prog.cellsOf 54=3 by kernel_rfl) (by omega) (λ_ h=>z04.of h):∀ cs,TyA Tryd.prog 26 cs->∃ x:Option (List z04),cs=(λo=>[slAV 3 (z04.cells) o]) x/\(okSl (z04.ok)) x)) _ t4
 exact ⟨⟨x0,x1,x2,x3,x4⟩,rfl,⟨k0,k1,k2,k3,k4⟩⟩
theorem z0f.c0 (x:z0f) (K:AV->Prop):z03 none x.cells 0 K=K (slAV 1 (λo=>[slAV 3 (z08.cells) o]) x.Records):=by simp [z03,z0f.cells]
theorem z0f.c1 (x:z0f) (K:AV->Prop):z03 none x.cells 1 K=K (slAV 3 (z08.cells) x.Globals):=by simp [z03,z0f.cells]
theorem z0f.c2 (x:z0f) (K:AV->Prop):z03 none x.cells 2 K=K (slAV 3 (z0m.cells) x.Threads):=by simp [z03,z0f.cells]
theorem z0f.c3 (x:z0f) (K:AV->Prop):z03 none x.cells 3 K=K (slAV 3 (z0s.cells) x.Sites):=by simp [z03,z0f.cells]
theorem z0f.c4 (x:z0f) (K:AV->Prop):z03 none x.cells 4 K=K (slAV 3 (z04.cells) x.Sections):=by simp [z03,z0f.cells]
theorem z0f.call (x:z0f) (K:AV->Prop):z03 (some 5) x.cells 0 K=K (.agg x.cells):=by simp [z03,z0f.cells]
theorem z0f.put (x:z0f) (h:z00) (ty:TypeId) (K:z00->Prop):z14 5 (.ptr h.next 0) (.agg x.cells) (h.push (.row ty [.nils,.nils,.nils,.nils,.nils])) K=K (h.push (.row ty x.cells)):=z1j (by rfl) (by rfl) K
theorem z0f.r:(type_of% @z0f.c0)/\(type_of% @z0f.c1)/\(type_of% @z0f.c2)/\(type_of% @z0f.c3)/\(type_of% @z0f.c4)/\(type_of% @z0f.call)/\(type_of% @z0f.put):=⟨@z0f.c0,@z0f.c1,@z0f.c2,@z0f.c3,@z0f.c4,@z0f.call,@z0f.put⟩
structure z0w where
 Fine:Int
 Coarse:Int
 Tries:Int
 deriving DecidableEq,Inhabited
def z0w.cells (x:z0w):List AV:=[.int .i64 x.Fine,.int .i64 x.Coarse,.int .i64 x.Tries]
theorem z0w.c0 (x:z0w) (K:AV->Prop):z03 none x.cells 0 K=K (.int .i64 x.Fine):=by simp [z03,z0w.cells]
theorem z0w.c1 (x:z0w) (K:AV->Prop):z03 none x.cells 1 K=K (.int .i64 x.Coarse):=by simp [z03,z0w.cells]
theorem z0w.c2 (x:z0w) (K:AV->Prop):z03 none x.cells 2 K=K (.int .i64 x.Tries):=by simp [z03,z0w.cells]
theorem z0w.call (x:z0w) (K:AV->Prop):z03 (some 3) x.cells 0 K=K (.agg x.cells):=by simp [z03,z0w.cells]
theorem z0w.put (x:z0w) (h:z00) (ty:TypeId) (K:z00->Prop):z14 3 (.ptr h.next 0) (.agg x.cells) (h.push (.row ty [.int .i64 0,.int .i64 0,.int .i64 0])) K=K (h.push (.row ty x.cells)):=z1j (by rfl) (by rfl) K
theorem z0w.r:(type_of% @z0w.c0)/\(type_of% @z0w.c1)/\(type_of% @z0w.c2)/\(type_of% @z0w.call)/\(type_of% @z0w.put):=⟨@z0w.c0,@z0w.c1,@z0w.c2,@z0w.call,@z0w.put⟩
theorem PlanAll_args {xs:List AV} (h:TyVs Tryd.prog Tryd.f4.params.toList xs):∃ (x0:z0f) (x1:Int),xs=[.agg x0.cells,.int .i64 x1]/\(z0f.ok) x0/\(okI) x1:=by
 rw [Tryd.params4] at h;obtain ⟨a0,b0,rfl,h0,h⟩:=h.cons_inv;obtain ⟨a1,b1,rfl,h1,h⟩:=h.cons_inv;obtain rfl:=h.zbq;obtain ⟨x0,rfl,k0⟩:=h0.agg_of (by kernel_rfl) (λ_ h=>z0f.of h:∀ cs,TyA Tryd.prog 28 cs->∃ x:z0f,cs=(z0f.cells) x/\(z0f.ok) x);obtain ⟨x1,rfl,k1⟩:=h1.one_of (enc:=λx=>.int .i64 x) (by kernel_rfl) (λ_ h=>h.z7b Tryd.underlying3:∀ cs,TyA Tryd.prog 3 cs->∃ x:Int,cs=(encI) x/\(okI) x);exact ⟨x0,x1,rfl,k0,k1⟩
structure z0c where
 Code:z0f
 thread:Int
 body:z0m
 deriving DecidableEq,Inhabited
def z0c.cells (x:z0c):List AV:=[slAV 1 (λo=>[slAV 3 (z08.cells) o]) x.Code.Records,slAV 3 (z08.cells) x.Code.Globals,slAV 3 (z0m.cells) x.Code.Threads,slAV 3 (z0s.cells) x.Code.Sites,slAV 3 (z04.cells) x.Code.Sections,.int .i64 x.thread,slAV 3 (z08.cells) x.body.Slots,slAV 8 (z0a.cells) x.body.Code,.int .i64 x.body.Most]
def z0c.ok (x:z0c):Prop:=z0f.ok x.Code/\okI x.thread/\z0m.ok x.body
theorem z0c.c0 (x:z0c) (K:AV->Prop):z03 none x.cells 0 K=K (slAV 1 (λo=>[slAV 3 (z08.cells) o]) x.Code.Records):=by simp [z03,z0c.cells,z0f.cells,z0m.cells]
theorem z0c.c1 (x:z0c) (K:AV->Prop):z03 none x.cells 1 K=K (slAV 3 (z08.cells) x.Code.Globals):=by simp [z03,z0c.cells,z0f.cells,z0m.cells]
theorem z0c.c2 (x:z0c) (K:AV->Prop):z03 none x.cells 2 K=K (slAV 3 (z0m.cells) x.Code.Threads):=by simp [z03,z0c.cells,z0f.cells,z0m.cells]
theorem z0c.c3 (x:z0c) (K:AV->Prop):z03 none x.cells 3 K=K (slAV 3 (z0s.cells) x.Code.Sites):=by simp [z03,z0c.cells,z0f.cells,z0m.cells]
theorem z0c.c4 (x:z0c) (K:AV->Prop):z03 none x.cells 4 K=K (slAV 3 (z04.cells) x.Code.Sections):=by simp [z03,z0c.cells,z0f.cells,z0m.cells]
theorem z0c.c5 (x:z0c) (K:AV->Prop):z03 none x.cells 5 K=K (.int .i64 x.thread):=by simp [z03,z0c.cells,z0f.cells,z0m.cells]
theorem z0c.c6 (x:z0c) (K:AV->Prop):z03 none x.cells 6 K=K (slAV 3 (z08.cells) x.body.Slots):=by simp [z03,z0c.cells,z0f.cells,z0m.cells]
theorem z0c.c7 (x:z0c) (K:AV->Prop):z03 none x.cells 7 K=K (slAV 8 (z0a.cells) x.body.Code):=by simp [z03,z0c.cells,z0f.cells,z0m.cells]
theorem z0c.c8 (x:z0c) (K:AV->Prop):z03 none x.cells 8 K=K (.int .i64 x.body.Most):=by simp [z03,z0c.cells,z0f.cells,z0m.cells]
theorem z0c.call (x:z0c) (K:AV->Prop):z03 (some 9) x.cells 0 K=K (.agg x.cells):=by simp [z03,z0c.cells,z0f.cells,z0m.cells]
theorem z0c.cs0_5 (x:z0c) (K:AV->Prop):z03 (some 5) x.cells 0 K=K (.agg x.Code.cells):=by simp [z03,z0c.cells,z0f.cells,z0m.cells]
theorem z0c.cs6_3 (x:z0c) (K:AV->Prop):z03 (some 3) x.cells 6 K=K (.agg x.body.cells):=by simp [z03,z0c.cells,z0f.cells,z0m.cells]
theorem z0c.put (x:z0c) (h:z00) (ty:TypeId) (K:z00->Prop):z14 9 (.ptr h.next 0) (.agg x.cells) (h.push (.row ty [.nils,.nils,.nils,.nils,.nils,.int .i64 0,.nils,.nils,.int .i64 0])) K=K (h.push (.row ty x.cells)):=z1j (by rfl) (by rfl) K
theorem z0c.r:(type_of% @z0c.c0)/\(type_of% @z0c.c1)/\(type_of% @z0c.c2)/\(type_of% @z0c.c3)/\(type_of% @z0c.c4)/\(type_of% @z0c.c5)/\(type_of% @z0c.c6)/\(type_of% @z0c.c7)/\(type_of% @z0c.c8)/\(type_of% @z0c.call)/\(type_of% @z0c.cs0_5)/\(type_of% @z0c.cs6_3)/\(type_of% @z0c.put):=⟨@z0c.c0,@z0c.c1,@z0c.c2,@z0c.c3,@z0c.c4,@z0c.c5,@z0c.c6,@z0c.c7,@z0c.c8,@z0c.call,@z0c.cs0_5,@z0c.cs6_3,@z0c.put⟩
structure z0l where
 Global:Bool
 N:Int
 Fields:Option (List Int)
 deriving DecidableEq,Inhabited
def z0l.cells (x:z0l):List AV:=[.bool x.Global,.int .i64 x.N,slAV 1 (encI) x.Fields]
theorem z0l.c0 (x:z0l) (K:AV->Prop):z03 none x.cells 0 K=K (.bool x.Global):=by simp [z03,z0l.cells]
theorem z0l.c1 (x:z0l) (K:AV->Prop):z03 none x.cells 1 K=K (.int .i64 x.N):=by simp [z03,z0l.cells]
theorem z0l.c2 (x:z0l) (K:AV->Prop):z03 none x.cells 2 K=K (slAV 1 (encI) x.Fields):=by simp [z03,z0l.cells]
theorem z0l.call (x:z0l) (K:AV->Prop):z03 (some 3) x.cells 0 K=K (.agg x.cells):=by simp [z03,z0l.cells]
theorem z0l.put (x:z0l) (h:z00) (ty:TypeId) (K:z00->Prop):z14 3 (.ptr h.next 0) (.agg x.cells) (h.push (.row ty [.bool false,.int .i64 0,.nils])) K=K (h.push (.row ty x.cells)):=z1j (by rfl) (by rfl) K
theorem z0l.r:(type_of% @z0l.c0)/\(type_of% @z0l.c1)/\(type_of% @z0l.c2)/\(type_of% @z0l.call)/\(type_of% @z0l.put):=⟨@z0l.c0,@z0l.c1,@z0l.c2,@z0l.call,@z0l.put⟩
structure z0n where
 Kind:Int
 Path:z0l
 deriving DecidableEq,Inhabited
def z0n.cells (x:z0n):List AV:=[.int .i64 x.Kind,.bool x.Path.Global,.int .i64 x.Path.N,slAV 1 (encI) x.Path.Fields]
theorem z0n.c0 (x:z0n) (K:AV->Prop):z03 none x.cells 0 K=K (.int .i64 x.Kind):=by simp [z03,z0n.cells,z0l.cells]
theorem z0n.c1 (x:z0n) (K:AV->Prop):z03 none x.cells 1 K=K (.bool x.Path.Global):=by simp [z03,z0n.cells,z0l.cells]
theorem z0n.c2 (x:z0n) (K:AV->Prop):z03 none x.cells 2 K=K (.int .i64 x.Path.N):=by simp [z03,z0n.cells,z0l.cells]
theorem z0n.c3 (x:z0n) (K:AV->Prop):z03 none x.cells 3 K=K (slAV 1 (encI) x.Path.Fields):=by simp [z03,z0n.cells,z0l.cells]
theorem z0n.call (x:z0n) (K:AV->Prop):z03 (some 4) x.cells 0 K=K (.agg x.cells):=by simp [z03,z0n.cells,z0l.cells]
theorem z0n.cs1_3 (x:z0n) (K:AV->Prop):z03 (some 3) x.cells 1 K=K (.agg x.Path.cells):=by simp [z03,z0n.cells,z0l.cells]
theorem z0n.put (x:z0n) (h:z00) (ty:TypeId) (K:z00->Prop):z14 4 (.ptr h.next 0) (.agg x.cells) (h.push (.row ty [.int .i64 0,.bool false,.int .i64 0,.nils])) K=K (h.push (.row ty x.cells)):=z1j (by rfl) (by rfl) K
theorem z0n.r:(type_of% @z0n.c0)/\(type_of% @z0n.c1)/\(type_of% @z0n.c2)/\(type_of% @z0n.c3)/\(type_of% @z0n.call)/\(type_of% @z0n.cs1_3)/\(type_of% @z0n.put):=⟨@z0n.c0,@z0n.c1,@z0n.c2,@z0n.c3,@z0n.call,@z0n.cs1_3,@z0n.put⟩
structure z0u where
 Slots:Option (List (Option (List Nat)))
 Globals:Option (List Nat)
 Fields:Option (List (Option (List Nat)))
 deriving DecidableEq,Inhabited
def z0u.cells (x:z0u):List AV:=[slAV 1 (λo=>[slAV 1 (encN) o]) x.Slots,slAV 1 (encN) x.Globals,slAV 1 (λo=>[slAV 1 (encN) o]) x.Fields]
theorem z0u.c0 (x:z0u) (K:AV->Prop):z03 none x.cells 0 K=K (slAV 1 (λo=>[slAV 1 (encN) o]) x.Slots):=by simp [z03,z0u.cells]
theorem z0u.c1 (x:z0u) (K:AV->Prop):z03 none x.cells 1 K=K (slAV 1 (encN) x.Globals):=by simp [z03,z0u.cells]
theorem z0u.c2 (x:z0u) (K:AV->Prop):z03 none x.cells 2 K=K (slAV 1 (λo=>[slAV 1 (encN) o]) x.Fields):=by simp [z03,z0u.cells]
theorem z0u.call (x:z0u) (K:AV->Prop):z03 (some 3) x.cells 0 K=K (.agg x.cells):=by simp [z03,z0u.cells]
theorem z0u.put (x:z0u) (h:z00) (ty:TypeId) (K:z00->Prop):z14 3 (.ptr h.next 0) (.agg x.cells) (h.push (.row ty [.nils,.nils,.nils])) K=K (h.push (.row ty x.cells)):=z1j (by rfl) (by rfl) K
theorem z0u.r:(type_of% @z0u.c0)/\(type_of% @z0u.c1)/\(type_of% @z0u.c2)/\(type_of% @z0u.call)/\(type_of% @z0u.put):=⟨@z0u.c0,@z0u.c1,@z0u.c2,@z0u.call,@z0u.put⟩
structure z05 where
 Op:Int
 Path:z0l
 N:Int
 Const:Bool
 At:Int
 Index:z0l
 Class:Int
 Mode:Int
 deriving DecidableEq,Inhabited
def z05.cells (x:z05):List AV:=[.int .i64 x.Op,.bool x.Path.Global,.int .i64 x.Path.N,slAV 1 (encI) x.Path.Fields,.int .i64 x.N,.bool x.Const,.int .i64 x.At,.bool x.Index.Global,.int .i64 x.Index.N,slAV 1 (encI) x.Index.Fields,.int .i64 x.Class,.int .i64 x.Mode]
theorem z05.c0 (x:z05) (K:AV->Prop):z03 none x.cells 0 K=K (.int .i64 x.Op):=by simp [z03,z05.cells,z0l.cells,z0l.cells]
theorem z05.c1 (x:z05) (K:AV->Prop):z03 none x.cells 1 K=K (.bool x.Path.Global):=by simp [z03,z05.cells,z0l.cells,z0l.cells]
theorem z05.c2 (x:z05) (K:AV->Prop):z03 none x.cells 2 K=K (.int .i64 x.Path.N):=by simp [z03,z05.cells,z0l.cells,z0l.cells]
theorem z05.c3 (x:z05) (K:AV->Prop):z03 none x.cells 3 K=K (slAV 1 (encI) x.Path.Fields):=by simp [z03,z05.cells,z0l.cells,z0l.cells]
theorem z05.c4 (x:z05) (K:AV->Prop):z03 none x.cells 4 K=K (.int .i64 x.N):=by simp [z03,z05.cells,z0l.cells,z0l.cells]
theorem z05.c5 (x:z05) (K:AV->Prop):z03 none x.cells 5 K=K (.bool x.Const):=by simp [z03,z05.cells,z0l.cells,z0l.cells]
theorem z05.c6 (x:z05) (K:AV->Prop):z03 none x.cells 6 K=K (.int .i64 x.At):=by simp [z03,z05.cells,z0l.cells,z0l.cells]
theorem z05.c7 (x:z05) (K:AV->Prop):z03 none x.cells 7 K=K (.bool x.Index.Global):=by simp [z03,z05.cells,z0l.cells,z0l.cells]
theorem z05.c8 (x:z05) (K:AV->Prop):z03 none x.cells 8 K=K (.int .i64 x.Index.N):=by simp [z03,z05.cells,z0l.cells,z0l.cells]
theorem z05.c9 (x:z05) (K:AV->Prop):z03 none x.cells 9 K=K (slAV 1 (encI) x.Index.Fields):=by simp [z03,z05.cells,z0l.cells,z0l.cells]
theorem z05.c10 (x:z05) (K:AV->Prop):z03 none x.cells 10 K=K (.int .i64 x.Class):=by simp [z03,z05.cells,z0l.cells,z0l.cells]
theorem z05.c11 (x:z05) (K:AV->Prop):z03 none x.cells 11 K=K (.int .i64 x.Mode):=by simp [z03,z05.cells,z0l.cells,z0l.cells]
theorem z05.call (x:z05) (K:AV->Prop):z03 (some 12) x.cells 0 K=K (.agg x.cells):=by simp [z03,z05.cells,z0l.cells,z0l.cells]
theorem z05.cs1_3 (x:z05) (K:AV->Prop):z03 (some 3) x.cells 1 K=K (.agg x.Path.cells):=by simp [z03,z05.cells,z0l.cells,z0l.cells]
theorem z05.cs7_3 (x:z05) (K:AV->Prop):z03 (some 3) x.cells 7 K=K (.agg x.Index.cells):=by simp [z03,z05.cells,z0l.cells,z0l.cells]
theorem z05.put (x:z05) (h:z00) (ty:TypeId) (K:z00->Prop):z14 12 (.ptr h.next 0) (.agg x.cells) (h.push (.row ty [.int .i64 0,.bool false,.int .i64 0,.nils,.int .i64 0,.bool false,.int .i64 0,.bool false,.int .i64 0,.nils,.int .i64 0,.int .i64 0])) K=K (h.push (.row ty x.cells)):=z1j (by rfl) (by rfl) K
theorem z05.r:(type_of% @z05.c0)/\(type_of% @z05.c1)/\(type_of% @z05.c2)/\(type_of% @z05.c3)/\(type_of% @z05.c4)/\(type_of% @z05.c5)/\(type_of% @z05.c6)/\(type_of% @z05.c7)/\(type_of% @z05.c8)/\(type_of% @z05.c9)/\(type_of% @z05.c10)/\(type_of% @z05.c11)/\(type_of% @z05.call)/\(type_of% @z05.cs1_3)/\(type_of% @z05.cs7_3)/\(type_of% @z05.put):=⟨@z05.c0,@z05.c1,@z05.c2,@z05.c3,@z05.c4,@z05.c5,@z05.c6,@z05.c7,@z05.c8,@z05.c9,@z05.c10,@z05.c11,@z05.call,@z05.cs1_3,@z05.cs7_3,@z05.put⟩
structure z02 where
 code:z0f
 sets:z0u
 classes:Option (List Int)
 section_:z04
 known:Option (List z0n)
 deriving DecidableEq,Inhabited
def z02.cells (x:z02):List AV:=[slAV 1 (λo=>[slAV 3 (z08.cells) o]) x.code.Records,slAV 3 (z08.cells) x.code.Globals,slAV 3 (z0m.cells) x.code.Threads,slAV 3 (z0s.cells) x.code.Sites,slAV 3 (z04.cells) x.code.Sections,slAV 1 (λo=>[slAV 1 (encN) o]) x.sets.Slots,slAV 1 (encN) x.sets.Globals,slAV 1 (λo=>[slAV 1 (encN) o]) x.sets.Fields,slAV 1 (encI) x.classes,.int .i64 x.section_.Thread,.int .i64 x.section_.From,.int .i64 x.section_.To,slAV 4 (z0n.cells) x.known]
theorem z02.c0 (x:z02) (K:AV->Prop):z03 none x.cells 0 K=K (slAV 1 (λo=>[slAV 3 (z08.cells) o]) x.code.Records):=by simp [z03,z02.cells,z0f.cells,z0u.cells,z04.cells]
theorem z02.c1 (x:z02) (K:AV->Prop):z03 none x.cells 1 K=K (slAV 3 (z08.cells) x.code.Globals):=by simp [z03,z02.cells,z0f.cells,z0u.cells,z04.cells]
theorem z02.c2 (x:z02) (K:AV->Prop):z03 none x.cells 2 K=K (slAV 3 (z0m.cells) x.code.Threads):=by simp [z03,z02.cells,z0f.cells,z0u.cells,z04.cells]
theorem z02.c3 (x:z02) (K:AV->Prop):z03 none x.cells 3 K=K (slAV 3 (z0s.cells) x.code.Sites):=by simp [z03,z02.cells,z0f.cells,z0u.cells,z04.cells]
theorem z02.c4 (x:z02) (K:AV->Prop):z03 none x.cells 4 K=K (slAV 3 (z04.cells) x.code.Sections):=by simp [z03,z02.cells,z0f.cells,z0u.cells,z04.cells]
theorem z02.c5 (x:z02) (K:AV->Prop):z03 none x.cells 5 K=K (slAV 1 (λo=>[slAV 1 (encN) o]) x.sets.Slots):=by simp [z03,z02.cells,z0f.cells,z0u.cells,z04.cells]
theorem z02.c6 (x:z02) (K:AV->Prop):z03 none x.cells 6 K=K (slAV 1 (encN) x.sets.Globals):=by simp [z03,z02.cells,z0f.cells,z0u.cells,z04.cells]
theorem z02.c7 (x:z02) (K:AV->Prop):z03 none x.cells 7 K=K (slAV 1 (λo=>[slAV 1 (encN) o]) x.sets.Fields):=by simp [z03,z02.cells,z0f.cells,z0u.cells,z04.cells]
theorem z02.c8 (x:z02) (K:AV->Prop):z03 none x.cells 8 K=K (slAV 1 (encI) x.classes):=by simp [z03,z02.cells,z0f.cells,z0u.cells,z04.cells]
theorem z02.c9 (x:z02) (K:AV->Prop):z03 none x.cells 9 K=K (.int .i64 x.section_.Thread):=by simp [z03,z02.cells,z0f.cells,z0u.cells,z04.cells]
theorem z02.c10 (x:z02) (K:AV->Prop):z03 none x.cells 10 K=K (.int .i64 x.section_.From):=by simp [z03,z02.cells,z0f.cells,z0u.cells,z04.cells]
theorem z02.c11 (x:z02) (K:AV->Prop):z03 none x.cells 11 K=K (.int .i64 x.section_.To):=by simp [z03,z02.cells,z0f.cells,z0u.cells,z04.cells]
theorem z02.c12 (x:z02) (K:AV->Prop):z03 none x.cells 12 K=K (slAV 4 (z0n.cells) x.known):=by simp [z03,z02.cells,z0f.cells,z0u.cells,z04.cells]
theorem z02.call (x:z02) (K:AV->Prop):z03 (some 13) x.cells 0 K=K (.agg x.cells):=by simp [z03,z02.cells,z0f.cells,z0u.cells,z04.cells]
theorem z02.cs0_5 (x:z02) (K:AV->Prop):z03 (some 5) x.cells 0 K=K (.agg x.code.cells):=by simp [z03,z02.cells,z0f.cells,z0u.cells,z04.cells]
theorem z02.cs5_3 (x:z02) (K:AV->Prop):z03 (some 3) x.cells 5 K=K (.agg x.sets.cells):=by simp [z03,z02.cells,z0f.cells,z0u.cells,z04.cells]
theorem z02.cs9_3 (x:z02) (K:AV->Prop):z03 (some 3) x.cells 9 K=K (.agg x.section_.cells):=by simp [z03,z02.cells,z0f.cells,z0u.cells,z04.cells]
theorem z02.put (x:z02) (h:z00) (ty:TypeId) (K:z00->Prop):z14 13 (.ptr h.next 0) (.agg x.cells) (h.push (.row ty [.nils,.nils,.nils,.nils,.nils,.nils,.nils,.nils,.nils,.int .i64 0,.int .i64 0,.int .i64 0,.nils])) K=K (h.push (.row ty x.cells)):=z1j (by rfl) (by rfl) K
theorem z02.r:(type_of% @z02.c0)/\(type_of% @z02.c1)/\(type_of% @z02.c2)/\(type_of% @z02.c3)/\(type_of% @z02.c4)/\(type_of% @z02.c5)/\(type_of% @z02.c6)/\(type_of% @z02.c7)/\(type_of% @z02.c8)/\(type_of% @z02.c9)/\(type_of% @z02.c10)/\(type_of% @z02.c11)/\(type_of% @z02.c12)/\(type_of% @z02.call)/\(type_of% @z02.cs0_5)/\(type_of% @z02.cs5_3)/\(type_of% @z02.cs9_3)/\(type_of% @z02.put):=⟨@z02.c0,@z02.c1,@z02.c2,@z02.c3,@z02.c4,@z02.c5,@z02.c6,@z02.c7,@z02.c8,@z02.c9,@z02.c10,@z02.c11,@z02.c12,@z02.call,@z02.cs0_5,@z02.cs5_3,@z02.cs9_3,@z02.put⟩
theorem tyr:(type_of% @z08.r)/\(type_of% @z0e.r)/\(type_of% @z0a.r)/\(type_of% @z0m.r)/\(type_of% @z0s.r)/\(type_of% @z04.r)/\(type_of% @z0f.r)/\(type_of% @z0w.r)/\(type_of% @z0c.r)/\(type_of% @z0l.r)/\(type_of% @z0n.r)/\(type_of% @z0u.r)/\(type_of% @z05.r)/\(type_of% @z02.r):=⟨@z08.r,@z0e.r,@z0a.r,@z0m.r,@z0s.r,@z04.r,@z0f.r,@z0w.r,@z0c.r,@z0l.r,@z0n.r,@z0u.r,@z05.r,@z02.r⟩
end
section
open Go.Abs
theorem z0d:Tryd.prog.follows .mixedOrders=true:=by kernel_rfl
noncomputable abbrev P_:=Tryd.prog
section
variable (a0 a1 a2 a3 a4 a5 a6 a7 s0 s1 s2 s3 s4 s5 s6 s7 s8 s9 s10 s11 s12 s35 s36 s37 s38 s39 s40 s47 s48 s49 s50 s51 s53 s54 s55 s66 s67 s68 s94 s95 s96:AV) (h:z00) (R:AV->z00->Prop) (Q:z1z->Fr->z00->Prop)
def z2u:=mkG [7,16] [(2,[0,1,7,8])] [] []
noncomputable def z2o:=lpOf 2 Tryd.f65
theorem z5v (H:qn a0 λa=>qw P_ 19 z2o [(0,a0),(1,a1),(7,a),(8,n0)] h (λa _ b=>q5 a
 (R (n6 (-1)) b)) λa b=>R (a 4) b):z01 P_ 65 [a0,a1] h R:=cI z2u z0d Tryd.func65 Tryd.ntmps65 Tryd.call65 (by kernel_rfl)
 (by kernel_rfl) H
theorem z4v (H:qC .lss s8 s7 (qY 3 s0 s8 h λa=>z7d P_ s1 [a] h (later (λa b=>qI a (Q .ret (frOf [(4,s8)]) b) (qB .add
 s8 (n6 1) λa=>Q .normal (frOf [(0,s0),(1,s1),(7,s7),(8,a)]) b)) ())) (Q (.exit 0) (frOf []) h)):WP P_ 19 z2o (frOf [(0,s0),(1,s1),(7,s7),(8,s8)])
 h Q:=z15 z2u [0] [0,1,7,8] [] [4] z0d (by kernel_rfl) (Eq.mpr (by kernel_rfl) H)
def z5a:=mkG [7] [] [] []
theorem z2g (H:qS P_ 65 [a0,a1] h λa b=>qB .geq a n0 λa=>R a b):z01 P_ 45 [a0,a1] h R:=cI z5a
 z0d Tryd.func45 Tryd.ntmps45 Tryd.call45 (by kernel_rfl) (by kernel_rfl) H
def zm2:=mkG [] [] [] []
theorem zjz (H:qB .geq a0 n0 λa=>qU a true 3 h (λa=>qB .lss a0 a1 λb=>a [a0,a1,b] h) λb c=>qP a (nth b 2) bF λa=>R a c):z01 P_ 48 [a0,a1]
 h R:=cI zm2 z0d Tryd.func48 Tryd.ntmps48 Tryd.call48 (by kernel_rfl) (by kernel_rfl) H
def zqq:=mkG [2,3,12,13] [] [] []
theorem zo6 (H:qM true 28 a0 h λa b=>qM true 46 a1 b λb c=>qG 0 b c λd=>qC .eql d (n6 4) (qG 1 b c λb=>qG 0 a c λa=>qn a λa=>qS P_ 48
 [b,a] c λa b=>R a b) (qG 0 b c λa=>qB .geq a (n6 1) λa=>qU a true 3 c (λa=>qH 0 b c λb d=>qB .leq d (n6 3) λe=>a [b,d,e] c) λc d=>qP a (nth c
 2) bF λa=>qU a true 3 d (λa=>qH 1 b d λb c=>qE c n0 λe=>a [b,c,e] d) λb c=>qP a (nth b 2) bF λa=>R a c)):z01 P_ 47 [a0,a1] h R:=cI zqq
 z0d Tryd.func47 Tryd.ntmps47 Tryd.call47 (by kernel_rfl) (by kernel_rfl) H
def zm3:=mkG [2,9] [] [] []
theorem zk0 (H:qM true 46 a0 h λa b=>qG 2 a b λc=>qU c false 4 b (λc=>qK 5 a1 b λd=>qK 3 a b λa=>qS P_ 47 [d,a] b λb e=>qN b λf=>c
 [d,a,b,f] e) λa b=>qP c bT (nth a 3) λa=>R a b):z01 P_ 46 [a0,a1] h R:=cI zm3 z0d Tryd.func46 Tryd.ntmps46 Tryd.call46 (by kernel_rfl) (by
 kernel_rfl) H
def zqp:=mkG [3,8,14] [] [] []
theorem zo5 (H:qM true 28 a0 h λa b=>qn a1 λc=>qB .leq c a2 λc=>qU c true 4 b (λc=>qS P_ 45 [a1,.fn (Fn.func 46) [] [a]] b λb d=>qN b fun
 e=>c [a1,.fn (Fn.func 46) [] [a],b,e] d) λa b=>qP c (nth a 3) bF λa=>R a b):z01 P_ 27 [a0,a1,a2] h R:=cI zqp z0d Tryd.func27 Tryd.ntmps27 Tryd.call27
 (by kernel_rfl) (by kernel_rfl) H
def z96:=mkG [1,10,20,21,45,95,123] [(2,[1,9,10,11]),(10,[1,4,9,10,11,94,95,96])] [] [(7,[(11,[1,3,4,5,9,10,11,72,79])])]
noncomputable def zar:=lpOf 2 Tryd.f28
noncomputable def z6k:=lpOf 10 Tryd.f28
theorem ziz (H:qM true 28 a0 h λa b=>qG 4 a b λc=>qn c λd=>qw P_ 125 zar [(1,a),(9,c),(10,d),(11,n0)] b (λa b c=>q5 a (qG 4
 (b 1) c λa=>qn a λa=>qB .leq a (n6 32) λa=>R a c)) λa b=>R (a 2) b):z01 P_ 28 [a0] h R:=cI z96 z0d Tryd.func28 Tryd.ntmps28 Tryd.call28
 (by kernel_rfl) (by kernel_rfl) H
theorem zey (H:qC .lss s11 s10 (qY 3 s9 s11 h λa=>qA 54 [n0,n0,n0] h λb c=>qT 3 b a c λa=>q1 (qG 0 b a λc=>qG 2 s1 a λd=>qn d λd=>qS
 P_ 48 [c,d] a λa c=>q2 (qN a λa=>qV a false 1 c (λa=>qF 1 b λb=>a [b] c) λc d=>qV a false 1 d (λa=>qL (nth c 0) d λb=>a [b] d) λc d=>qV a
 false 1 d (λa=>qB .lss (nth c 0) n0 λb=>a [b] d) λc d=>qP a bT (nth c 0) λa=>qV a false 1 d (λa=>qF 1 b λb=>a [b] d) λc d=>qV a false 1 d (fun
 a=>qL (nth c 0) d λb=>a [b] d) λc d=>qV a false 1 d (λa=>qF 2 b λb=>a [b] d) λd e=>qV a false 1 e (λa=>qL (nth d 0) e λb=>a [b] e) λd e=>qV
 a false 1 e (λa=>qB .geq (nth c 0) (nth d 0) λb=>a [b] e) λc d=>qP a bT (nth c 0) λa=>qV a false 1 d (λa=>qF 2 b λb=>a [b] d) λc d=>qV a false
 1 d (λa=>qL (nth c 0) d λb=>a [b] d) λc d=>qV a false 1 d (λa=>qF 2 s1 λb=>a [b] d) λd e=>qV a false 1 e (λa=>qL (nth d 0) e λb=>a [b] e)
 λd e=>qV a false 1 e (λa=>qF 0 b λb=>a [b] e) λe f=>qV a false 1 f (λa=>qL (nth e 0) f λb=>a [b] f) λe f=>qV a false 1 f (λa=>qX 3 (nth d
 0) (nth e 0) λb=>a [b] f) λd e=>qV a false 1 e (λa=>qF 1 (nth d 0) λb=>a [b] e) λd e=>qV a false 1 e (λa=>qL (nth d 0) e λb=>a [b] e) λd e=>qV
 a false 1 e (λa=>qn (nth d 0) λb=>a [b] e) λd e=>qV a false 1 e (λa=>qB .geq (nth c 0) (nth d 0) λb=>a [b] e) λc d=>qP a bT (nth c 0) λa=>qI
 a (Q .ret (frOf [(2,bF)]) d) (qG 2 s1 d λa=>qG 0 b d λc=>qX 3 a c λa=>qG 1 a d λa=>qG 1 b d λc=>qX 8 a c λc=>qG 0 c d λc=>qB .neq c (n6 15) fun
 c=>qU c false 8 d (λc=>qH 1 b d λb e=>qX 8 a e λf=>qH 4 f d λg i=>qB .neq i s11 λj=>c [a,b,e,f,g,i,s11,j] d) λd e=>qP c bT (nth d 7) λc=>qU c
 false 7 e (λc=>qH 2 b e λb d=>qX 8 a d λf=>qH 0 f e λg i=>qB .neq i (n6 16) λj=>c [a,b,d,f,g,i,j] e) λd e=>z4r [s1,s11,b,a,s9,s10,s11,c,nth d
 6] (later (λa=>qP (nth a 7) bT (nth a 8) λb=>qU b false 8 e (λb=>qH 2 (nth a 2) e λc d=>qX 8 (nth a 3) d λf=>qH 4 f e λg i=>qB .neq i (nth a 1)
 λj=>b [nth a 3,c,d,f,g,i,nth a 1,j] e) λc d=>qP b bT (nth c 7) λb=>qI b (Q .ret (frOf [(2,bF)]) d) (qG 4 (nth a 0) d λb=>qs 3 b none (some (nth a 1))
 λb=>qn b λc=>qw P_ 125 z6k [(1,nth a 0),(4,nth a 2),(9,nth a 4),(10,nth a 5),(11,nth a 6),(94,b),(95,c),(96,n0)] d (λa b c=>pIdx a 2 (pIdx
 2 2 (qB .add (b 11) (n6 1) λa=>Q .normal (frOf (kq b [1,9,10] [(11,a)])) c) (pIdx 2 1 (qB .add (b 11) (n6 1) λa=>Q .normal (frOf (kq b [1,9,10] [(11,a)])) c)
 (Q (.exit 2) (frOf [(1,b 1)]) c))) False) λa b=>Q .ret (frOf [(2,a 2)]) b)) ()))))) (Q (.exit 0) (frOf [(1,s1)]) h)):WP P_ 125 zar (frOf [(1,s1),(9,s9),(10,s10),(11,s11)])
 h Q:=z15 z96 [0] [1,9,10,11] [1] [2] z0d (by kernel_rfl) (Eq.mpr (by kernel_rfl) H)
theorem zdz (H:qC .lss s96 s95 (qY 3 s94 s96 h λa=>qA 54 [n0,n0,n0] h λb c=>qT 3 b a c λa=>qG 0 b a λc=>qG 0 s4 a λd=>qE c d λc=>qU
 c true 5 a (λc=>qH 1 b a λb d=>qH 2 s4 a λe f=>qB .leq d f λg=>c [b,d,e,f,g] a) λa d=>qP c (nth a 4) bF λa=>qU a true 5 d (λa=>qH 1 s4 d fun
 c e=>qH 2 b d λb f=>qB .leq e f λg=>a [c,e,b,f,g] d) λb c=>qP a (nth b 4) bF λa=>qI a (Q .ret (frOf [(2,bF)]) c) (qB .add s96 (n6 1) λa=>Q .normal
 (frOf [(1,s1),(4,s4),(9,s9),(10,s10),(11,s11),(94,s94),(95,s95),(96,a)]) c)) (Q (.exit 2) (frOf [(1,s1),(9,s9),(10,s10),(11,s11)]) h)):WP P_ 125 z6k
 (frOf [(1,s1),(4,s4),(9,s9),(10,s10),(11,s11),(94,s94),(95,s95),(96,s96)]) h Q:=z15 z96 [2,1,0] [1,4,9,10,11,94,95,96] [1,9,10,11] [2] z0d (by
 kernel_rfl) (Eq.mpr (by kernel_rfl) H)
def zia:=mkG [1,8,18,19,31,32,63] [(2,[1,7,8,9])] [] []
noncomputable def zec:=lpOf 2 Tryd.f29
theorem zo7 (H:qM true 28 a0 h λa b=>qG 3 a b λc=>qn c λd=>qw P_ 65 zec [(1,a),(7,c),(8,d),(9,n0)] b (λa b c=>q5 a (qG 3 (b 1) c
 λa=>qn a λa=>qB .leq a (n6 32) λa=>R a c)) λa b=>R (a 2) b):z01 P_ 29 [a0] h R:=cI zia z0d Tryd.func29 Tryd.ntmps29 Tryd.call29 (by kernel_rfl)
 (by kernel_rfl) H
theorem zj0 (H:qC .lss s9 s8 (qY 3 s7 s9 h λa=>qA 59 [n0,n0,n0] h λb c=>qT 3 b a c λa=>q1 (qG 0 b a λc=>qG 2 s1 a λd=>qn d λd=>qS P_
 48 [c,d] a λa c=>q2 (qN a λa=>qV a false 1 c (λa=>qF 1 b λb=>a [b] c) λc d=>qV a false 1 d (λa=>qL (nth c 0) d λb=>a [b] d) λc d=>qV a false
 1 d (λa=>qF 2 s1 λb=>a [b] d) λd e=>qV a false 1 e (λa=>qL (nth d 0) e λb=>a [b] e) λd e=>qV a false 1 e (λa=>qF 0 b λb=>a [b] e) λe f=>qV
 a false 1 f (λa=>qL (nth e 0) f λb=>a [b] f) λe f=>qV a false 1 f (λa=>qX 3 (nth d 0) (nth e 0) λb=>a [b] f) λd e=>qV a false 1 e (λa=>qF 1 (nth
 d 0) λb=>a [b] e) λd e=>qV a false 1 e (λa=>qL (nth d 0) e λb=>a [b] e) λd e=>qV a false 1 e (λa=>qn (nth d 0) λb=>a [b] e) λd e=>qV a false
 1 e (λa=>qS P_ 48 [nth c 0,nth d 0] e λb c=>a [b] c) λc d=>q2 (qV a false 1 d (λa=>qN (nth c 0) λb=>a [b] d) λc d=>qP a bT (nth c 0) λa=>qI a
 (Q .ret (frOf [(2,bF)]) d) (q1 (qH 2 s1 d λa c=>qH 0 b d λe f=>qX 3 c f λg=>qH 1 g d λg i=>qH 1 b d λb j=>qX 8 i j λk=>qK 8 k d λl=>qA 49 [n0,n0,n0,n0,n0,n0,.nils,.nils]
 d λd m=>(q4 8 k l m/\q3 b j m/\q3 g i m/\q3 e f m/\q3 a c m)/\qT 8 d l m λa=>q2 (qG 4 d a λb=>qB .neq b s9 λb=>qU b false 4 a (λb=>qH 0 d a λc d=>qB
 .neq d (n6 8) λe=>b [c,d,e,e] a) λa c=>qU (nth a 3) true 3 c (λa=>qH 0 d c λb d=>qB .neq d (n6 9) λe=>a [b,d,e] c) λc d=>qU b false 1 d (λb=>qP
 (nth a 3) (nth c 2) bF λa=>b [a] d) λa c=>qP b bT (nth a 0) λa=>qI a (Q .ret (frOf [(2,bF)]) c) (qB .add s9 (n6 1) λa=>Q .normal (frOf [(1,s1),(7,s7),(8,s8),(9,a)])
 c)))))))) (Q (.exit 0) (frOf [(1,s1)]) h)):WP P_ 65 zec (frOf [(1,s1),(7,s7),(8,s8),(9,s9)]) h Q:=z15 zia [0] [1,7,8,9] [1] [2] z0d (by
 kernel_rfl) (Eq.mpr (by kernel_rfl) H)
def zg3:=mkG [2,7] [] [] []
theorem zet (H:qM true 46 a0 h λa b=>qF 0 a1 λc=>qK 5 c b λc=>qK 3 a b λa=>qS P_ 47 [c,a] b λa b=>qN a λa=>R a b):z01 P_ 49 [a0,a1]
 h R:=cI zg3 z0d Tryd.func49 Tryd.ntmps49 Tryd.call49 (by kernel_rfl) (by kernel_rfl) H
def zoc:=mkG [] [] [] []
theorem zm0 (H:qB .geq a0 (n6 2) λa=>qU a true 2 h (λa=>qB .leq a0 (n6 9) λb=>a [a0,b] h) λb c=>qP a (nth b 1) bF λa=>R a c):z01 P_ 66
 [a0] h R:=cI zoc z0d Tryd.func66 Tryd.ntmps66 Tryd.call66 (by kernel_rfl) (by kernel_rfl) H
def z2d:=mkG [7,16] [(2,[0,1,7,8])] [] []
noncomputable def z2a:=lpOf 2 Tryd.f79
theorem z4p (H:qn a0 λa=>qw P_ 19 z2a [(0,a0),(1,a1),(7,a),(8,n0)] h (λa _
 b=>q5 a (R (n6 (-1)) b)) λa b=>R (a 4) b):z01 P_ 79 [a0,a1] h R:=cI z2d z0d Tryd.func79 Tryd.ntmps79 Tryd.call79 (by
 kernel_rfl) (by kernel_rfl) H
theorem z3r (H:qC .lss s8 s7 (qY 3 s0 s8 h λa=>z7d P_ s1 [a] h (later (λa b=>qI a (Q .ret (frOf [(4,s8)]) b) (qB
 .add s8 (n6 1) λa=>Q .normal (frOf [(0,s0),(1,s1),(7,s7),(8,a)]) b)) ())) (Q (.exit 0) (frOf []) h)):WP P_ 19 z2a (frOf
 [(0,s0),(1,s1),(7,s7),(8,s8)]) h Q:=z15 z2d [0] [0,1,7,8] [] [4] z0d (by kernel_rfl) (Eq.mpr (by kernel_rfl) H)
def zkd:=mkG [3] [] [] []
theorem zix (H:qM true 54 a0 h λa b=>qG 0 a b λc=>qL a1 b λd=>qE c d λc=>qU c true 4 b (λc=>qL a2 b λd=>qH 1 a b λa e=>qB .gtr d
 e λf=>c [d,a,e,f] b) λb d=>qP c (nth b 3) bF λb=>qU b true 4 d (λb=>qL a2 d λc=>qH 2 a d λa e=>qB .leq c e λf=>b [c,a,e,f] d) λa c=>qP b (nth
 a 3) bF λa=>R a c):z01 P_ 80 [a0,a1,a2] h R:=cI zkd z0d Tryd.func80 Tryd.ntmps80 Tryd.call80 (by kernel_rfl) (by kernel_rfl) H
def zoa:=mkG [3,4,5,10] [] [] []
theorem zlx (H:qM true 28 a0 h λa b=>qM true 3 a1 b λb c=>qM true 3 a2 c λc d=>qG 4 a d λa=>qS P_ 79 [a,.fn (Fn.func 80) [] [b,c]] d λa
 b=>R a b):z01 P_ 67 [a0,a1,a2] h R:=cI zoa z0d Tryd.func67 Tryd.ntmps67 Tryd.call67 (by kernel_rfl) (by kernel_rfl) H
def zhn:=mkG [2,10,11] [] [] []
theorem zfx (H:qM true 82 a0 h λa b=>qA 46 [n0,n0,bF] b λb c=>qF 6 a λd=>qG 0 d c λd=>qn d λd=>qS P_ 48 [a1,d] c λc d=>qN c λc=>qI
 c (q8 [(0,1),(1,1),(2,1)] [n0,n0,bF] [] λa=>qT 3 b a d λa=>qK 3 b a λb=>R (.tup [b,bF]) a) (qF 6 a λa=>qG 0 a d λa=>qY 3 a a1 d λa=>qT 3 b a d fun
 a=>qK 3 b a λb=>R (.tup [b,bT]) a)):z01 P_ 68 [a0,a1] h R:=cI zhn z0d Tryd.func68 Tryd.ntmps68 Tryd.call68 (by kernel_rfl) (by kernel_rfl)
 H
def zqr:=mkG [8,60,69] [] [] [(1,[(30,[8,64,66]),(15,[5,6,7,8,39,41])])]
theorem z1o (H:qM true 49 a0 h λa b=>qU a1 false 3 b (λc=>qH 1 a b λa d=>qE d n0 λe=>c [a,d,e] b) λb c=>qP a1 bT (nth b 2) λb=>qU b true
 2 c (λa=>a [a2,a2] c) λc d=>qU (nth c 1) false 3 d (λb=>qH 2 a d λa c=>qE c n0 λe=>b [a,c,e] d) λd e=>qU b true 1 e (λa=>qP (nth c 1) bT (nth
 d 2) λb=>a [b] e) λc d=>qP b (nth c 0) bF λb=>qU b true 2 d (λa=>a [a3,a3] d) λc d=>qU (nth c 1) false 3 d (λb=>qH 3 a d λa c=>qE c n0 λe=>b
 [a,c,e] d) λd e=>qU b true 1 e (λa=>qP (nth c 1) bT (nth d 2) λb=>a [b] e) λc d=>qP b (nth c 0) bF λb=>qU b true 2 d (λa=>a [a4,a4] d) λc d=>z4r
 [a5,a6,a7,a,b,nth c 1] (later (λa=>qU (nth a 5) false 3 d (λb=>qH 4 (nth a 3) d λa c=>qE c n0 λe=>b [a,c,e] d) λb c=>qU (nth a 4) true 1 c (λd=>qP
 (nth a 5) bT (nth b 2) λa=>d [a] c) λb c=>qP (nth a 4) (nth b 0) bF λb=>qU b true 2 c (λb=>b [nth a 0,nth a 0] c) λc d=>qU (nth c 1) false 3 d (fun
 b=>qH 5 (nth a 3) d λa c=>qE c n0 λe=>b [a,c,e] d) λd e=>qU b true 1 e (λa=>qP (nth c 1) bT (nth d 2) λb=>a [b] e) λc d=>qP b (nth c 0) bF λb=>qU
 b true 2 d (λb=>b [nth a 1,nth a 1] d) λc d=>qU (nth c 1) false 4 d (λb=>qH 6 (nth a 3) d λa c=>qn c λe=>qE e n0 λf=>b [a,c,e,f] d) λd e=>qU
 b true 1 e (λa=>qP (nth c 1) bT (nth d 3) λb=>a [b] e) λc d=>qP b (nth c 0) bF λb=>qU b true 2 d (λb=>b [nth a 2,nth a 2] d) λc d=>z4r [nth a
 3,b,nth c 1] (later (λa=>qU (nth a 2) false 4 d (λb=>qH 7 (nth a 0) d λa c=>qn c λe=>qE e n0 λf=>b [a,c,e,f] d) λb c=>qU (nth a 1) true 1 c (fun
 d=>qP (nth a 2) bT (nth b 3) λa=>d [a] c) λb c=>qP (nth a 1) (nth b 0) bF λa=>R a c) ())) ())):z01 P_ 69 [a0,a1,a2,a3,a4,a5,a6,a7] h R:=cI zqr
 z0d Tryd.func69 Tryd.ntmps69 Tryd.call69 (by kernel_rfl) (by kernel_rfl) H
def zqo:=mkG [1] [(5,[4,5]),(10,[4,9])] [5,10] []
theorem zo2 (H:qM true 103 a0 h λa b=>qG 0 a b λa=>qQ (λc=>qE a (n6 1) λd=>qI d (c (frOf [(4,a),(5,d)]) b) (qE a (n6 2) λd=>qI d (c (frOf
 [(4,a),(5,d)]) b) (qE a (n6 3) λd=>c (frOf [(4,a),(5,d)]) b))) λa b=>qI (a 5) (R n0 b) (qQ (λc=>qE (a 4) (n6 4) λd=>qI d (c (frOf [(4,a 4),(9,d)]) b)
 (qE (a 4) (n6 5) λd=>qI d (c (frOf [(4,a 4),(9,d)]) b) (qE (a 4) (n6 6) λd=>qI d (c (frOf [(4,a 4),(9,d)]) b) (qE (a 4) (n6 7) λd=>c (frOf [(4,a 4),(9,d)])
 b)))) λa b=>qI (a 9) (R (n6 1) b) (qE (a 4) (n6 8) λc=>qI c (qI c (R (n6 2) b) (R (n6 (-1)) b)) (qE (a 4) (n6 9) λc=>qI c (qI c (R (n6 2) b) (R (n6 (-1))
 b)) (qC .eql (a 4) (n6 10) (R (n6 2) b) (R (n6 (-1)) b)))))):z01 P_ 88 [a0] h R:=cI zqo z0d Tryd.func88 Tryd.ntmps88 Tryd.call88 (by kernel_rfl) (by
 kernel_rfl) H
def zt0:=mkG [2,21,86] [] [] []
theorem zq4 (H:qM true 103 a0 h λa b=>qG 0 a b λc=>qC .eql c (n6 1) (qG 1 a b λa=>qE a n0 λa=>R a b) (qC .eql c (n6 2) (qG 1 a b λc=>qE c
 n0 λc=>qU c true 6 b (λc=>qH 2 a b λa d=>z8d (maxA [a1,n0]) (later (λe=>z9e (.int .u64) e b (later (λf=>qB .lss d f λg=>c [a,d,a1,e,f,g] b)
 ())) ())) λa b=>qP c (nth a 5) bF λa=>R a b) (qC .eql c (n6 3) (qG 1 a b λc=>qE c n0 λc=>qU c true 3 b (λc=>qH 2 a b λa d=>qB .lss d (nU 16) fun
 e=>c [a,d,e] b) λa b=>qP c (nth a 2) bF λa=>R a b) (qC .eql c (n6 8) (qG 2 a b λc=>qE c (nU 0) λc=>qU c true 3 b (λc=>qH 1 a b λa d=>qB .geq d n0
 λe=>c [a,d,e] b) λb d=>qP c (nth b 2) bF λb=>qU b true 3 d (λb=>qH 1 a d λa c=>qB .leq c (n6 8) λe=>b [a,c,e] d) λa c=>qP b (nth a 2) bF fun
 a=>R a c) (qC .eql c (n6 9) (qG 2 a b λc=>qE c (nU 0) λc=>qU c true 3 b (λc=>qH 1 a b λa d=>qB .geq d n0 λe=>c [a,d,e] b) λb d=>qP c (nth b 2) bF
 λb=>qU b true 3 d (λb=>qH 1 a d λa c=>qB .leq c (n6 8) λe=>b [a,c,e] d) λc d=>qP b (nth c 2) bF λb=>qU b true 3 d (λb=>qH 1 a d λa c=>qB .neq
 c (n6 4) λe=>b [a,c,e] d) λa c=>qP b (nth a 2) bF λa=>R a c) (qC .eql c (n6 10) (qG 2 a b λc=>qE c (nU 0) λc=>qU c true 4 b (λc=>qH 1 a b λa
 d=>qE d (n6 5) λe=>c [a,d,e,e] b) λb d=>qU (nth b 3) false 3 d (λb=>qH 1 a d λa c=>qE c (n6 6) λe=>b [a,c,e] d) λa d=>qU c true 1 d (λc=>qP (nth
 b 3) bT (nth a 2) λa=>c [a] d) λa b=>qP c (nth a 0) bF λa=>R a b) (qK 3 a b λc=>qS P_ 88 [c] b λb c=>qE b (n6 1) λb=>qU b true 3 c (λb=>qH 1
 a c λa d=>qE d n0 λe=>b [a,d,e] c) λc d=>qP b (nth c 2) bF λb=>qU b true 3 d (λb=>qH 2 a d λa c=>qE c (nU 0) λe=>b [a,c,e] d) λa c=>qP b (nth
 a 2) bF λa=>R a c))))))):z01 P_ 87 [a0,a1] h R:=cI zt0 z0d Tryd.func87 Tryd.ntmps87 Tryd.call87 (by kernel_rfl) (by kernel_rfl) H
def zkb:=mkG [9,16,21,26,34] [(3,[0,1,5,8,9,10])] [] []
noncomputable def zfm:=lpOf 3 Tryd.f81
theorem zq2 (H:qn a1 λa=>qw P_ 37 zfm [(0,a0),(1,a1),(5,n0),(8,a1),(9,a),(10,n0)] h (λa b c=>q5 a (qE (b 5) (n6 1) λa=>qU a true 3 c (fun
 a=>qn (b 1) λd=>qB .leq d (n6 64) λe=>a [b 1,d,e] c) λb c=>qP a (nth b 2) bF λa=>R a c)) λa b=>R (a 4) b):z01 P_ 81 [a0,a1] h R:=cI zkb
 z0d Tryd.func81 Tryd.ntmps81 Tryd.call81 (by kernel_rfl) (by kernel_rfl) H
theorem zjv (H:qC .lss s10 s9 (qY 3 s8 s10 h λa=>qA 103 [n0,n0,nU 0] h λb c=>qT 3 b a c λa=>qK 3 b a λc=>qS P_ 87 [c,s0] a λa c=>qN a fun
 a=>qU a false 4 c (λa=>qK 3 b c λb=>qS P_ 88 [b] c λc d=>qB .lss s5 c λe=>a [s5,b,c,e] d) λc d=>qP a bT (nth c 3) λa=>qI a (Q .ret (frOf [(4,bF)])
 d) (qK 3 b d λa=>qS P_ 88 [a] d λa b=>qB .sub (n6 1) a λa=>qB .add s5 a λa=>qB .add s10 (n6 1) λc=>Q .normal (frOf [(0,s0),(1,s1),(5,a),(8,s8),(9,s9),(10,c)])
 b)) (Q (.exit 0) (frOf [(1,s1),(5,s5)]) h)):WP P_ 37 zfm (frOf [(0,s0),(1,s1),(5,s5),(8,s8),(9,s9),(10,s10)]) h Q:=z15 zkb [0] [0,1,5,8,9,10]
 [1,5] [4] z0d (by kernel_rfl) (Eq.mpr (by kernel_rfl) H)
def zhl:=mkG [2,8,10] [] [] []
theorem zfv (H:qM true 82 a0 h λa b=>qF 6 a λa=>qG 0 a b λa=>qn a λa=>qS P_ 81 [a,a1] b λa b=>R a b):z01 P_ 70 [a0,a1] h R:=cI zhl
 z0d Tryd.func70 Tryd.ntmps70 Tryd.call70 (by kernel_rfl) (by kernel_rfl) H
def zt2:=mkG [2,3] [] [] []
theorem zqf (H:qM true 46 a0 h λa b=>qM true 46 a1 b λb c=>qG 0 a c λd=>qG 0 b c λe=>qE d e λd=>qU d true 5 c (λd=>qH 1 a c λa e=>qH
 1 b c λb f=>qE e f λg=>d [a,e,b,f,g] c) λa b=>qP d (nth a 4) bF λa=>R a b):z01 P_ 89 [a0,a1] h R:=cI zt2 z0d Tryd.func89 Tryd.ntmps89 Tryd.call89
 (by kernel_rfl) (by kernel_rfl) H
def zke:=mkG [3,5,12,19] [] [] []
theorem ziy (H:qM true 82 a0 h λa b=>qM true 46 a2 b λb c=>qK 9 a c λa=>qS P_ 68 [a,a1] c λa c=>qx 0 a λd=>qx 1 a λa=>qA 46 [n0,n0,bF]
 c λc e=>qT 3 c d e λd=>qU a true 3 d (λa=>qK 3 c d λc=>qK 3 b d λb=>qS P_ 89 [c,b] d λd e=>a [c,b,d] e) λb c=>qP a (nth b 2) bF λa=>R a c):z01
 P_ 82 [a0,a1,a2] h R:=cI zke z0d Tryd.func82 Tryd.ntmps82 Tryd.call82 (by kernel_rfl) (by kernel_rfl) H
def zg4:=mkG [2,3,11,12,24,25,35] [] [] []
theorem zev (H:qM true 82 a0 h λa b=>qM true 49 a1 b λb c=>qA 46 [n0,n0,bF] c λc d=>q1 (qG 3 b d λe=>qF 0 a λf=>qG 0 f d λf=>qn
 f λf=>qS P_ 48 [e,f] d λd e=>q2 (qN d λd=>qV d false 1 e (λa=>qF 4 b λb=>a [b] e) λe f=>qV d false 1 f (λa=>qL (nth e 0) f λb=>a [b] f) fun
 e f=>qV d false 1 f (λb=>qF 0 a λa=>b [a] f) λf g=>qV d false 1 g (λa=>qF 0 (nth f 0) λb=>a [b] g) λf g=>qV d false 1 g (λa=>qL (nth f 0) g fun
 b=>a [b] g) λf g=>qV d false 1 g (λa=>qF 3 b λb=>a [b] g) λg i=>qV d false 1 i (λa=>qL (nth g 0) i λb=>a [b] i) λg i=>qV d false 1 i (λa=>qX
 1 (nth f 0) (nth g 0) λb=>a [b] i) λf g=>qV d false 1 g (λa=>qL (nth f 0) g λb=>a [b] g) λf g=>qV d false 1 g (λa=>qn (nth f 0) λb=>a [b] g)
 λf g=>qV d false 1 g (λa=>qS P_ 48 [nth e 0,nth f 0] g λb c=>a [b] c) λe f=>q2 (qV d false 1 f (λa=>qN (nth e 0) λb=>a [b] f) λe f=>qP d bT (nth
 e 0) λd=>qV d false 1 f (λb=>qK 9 a f λa=>b [a] f) λe f=>qV d false 1 f (λa=>qF 2 b λb=>a [b] f) λf g=>qV d false 1 g (λa=>qL (nth f 0) g
 λb=>a [b] g) λf g=>qV d false 1 g (λa=>qF 3 b λb=>a [b] g) λg i=>qV d false 1 i (λa=>qL (nth g 0) i λb=>a [b] i) λg i=>qV d false 1 i (fun
 a=>q8 [(0,1),(1,1),(2,1)] [n0,n0,bF] [(0,n6 4),(1,nth g 0)] λb=>a [b] i) λg i=>qV d false 1 i (λa=>qS P_ 82 [nth e 0,nth f 0,nth g 0] i λb c=>a [b] c)
 λe f=>q2 (qV d false 1 f (λa=>qN (nth e 0) λb=>a [b] f) λe f=>qP d bT (nth e 0) λd=>qI d (q8 [(0,1),(1,1),(2,1)] [n0,n0,bF] [] λa=>qT 3 c a f fun
 a=>qK 3 c a λb=>R (.tup [b,bF]) a) (q1 (qF 0 a λa=>qG 0 a f λa=>qG 3 b f λd=>qZ 1 a d f λa=>qG 4 b f λb=>qY 3 a b f λa=>qT 3 c a f λa=>q2
 (qK 3 c a λb=>R (.tup [b,bT]) a)))))))):z01 P_ 83 [a0,a1] h R:=cI zg4 z0d Tryd.func83 Tryd.ntmps83 Tryd.call83 (by kernel_rfl) (by kernel_rfl)
 H
def zhm:=mkG [4,5,14,15] [] [] []
theorem zfw (H:qM true 82 a0 h λa b=>qM true 49 a1 b λb c=>q1 (qG 4 b c λd=>qF 0 a λe=>qG 3 e c λe=>qn e λe=>qS P_ 48 [d,e] c fun
 c d=>q2 (qV c true 1 d (λb=>qF 0 a λa=>b [a] d) λd e=>qV c true 1 e (λa=>qF 3 (nth d 0) λb=>a [b] e) λd e=>qV c true 1 e (λa=>qL (nth d 0) e
 λb=>a [b] e) λd e=>qV c true 1 e (λa=>qF 4 b λb=>a [b] e) λb e=>qV c true 1 e (λa=>qL (nth b 0) e λb=>a [b] e) λb e=>qV c true 1 e (λa=>qX
 3 (nth d 0) (nth b 0) λb=>a [b] e) λb d=>qV c true 1 d (λa=>qK 3 (nth b 0) d λb=>a [b] d) λb d=>qV c true 1 d (λb=>qF 5 a λa=>b [a] d) λa
 d=>qV c true 1 d (λb=>qL (nth a 0) d λa=>b [a] d) λa d=>qV c true 1 d (λa=>a [a2] d) λd e=>qV c true 1 e (λa=>a [a3] e) λe f=>qV c true 1 f (fun
 b=>q8 [(0,1),(1,1),(2,1)] [n0,n0,n0] [(0,nth a 0),(1,nth d 0),(2,nth e 0)] λa=>b [a] f) λa d=>qV c true 1 d (λc=>qD (.flat [.int,.int,.int]) .eql (nth b
 0) (nth a 0) λa=>c [a] d) λa b=>qP c (nth a 0) bF λa=>R a b))):z01 P_ 84 [a0,a1,a2,a3] h R:=cI zhm z0d Tryd.func84 Tryd.ntmps84 Tryd.call84
 (by kernel_rfl) (by kernel_rfl) H
def zg6:=mkG [3,4,14,21,22,35,42,46,55,60,66,73,79,84,90,97,102,109,110,119,127,130,136,142,148] [] [] [(12,[(9,[121,127])])]
theorem zex (H:qM true 82 a0 h λa b=>qM true 49 a1 b λb c=>qG 0 b c λd=>qC .eql d (n6 2) (q1 (qK 8 b c λd=>qS P_ 69 [d,bT,bF,bF,bT,bF,bF,bF]
 c λc d=>q2 (qV c true 1 d (λa=>qF 4 b λb=>a [b] d) λd e=>qV c true 1 e (λa=>qL (nth d 0) e λb=>a [b] e) λd e=>qV c true 1 e (λb=>qF 0 a fun
 a=>b [a] e) λe f=>qV c true 1 f (λa=>qF 1 (nth e 0) λb=>a [b] f) λe f=>qV c true 1 f (λa=>qL (nth e 0) f λb=>a [b] f) λe f=>qV c true 1 f (fun
 a=>qn (nth e 0) λb=>a [b] f) λe f=>qV c true 1 f (λa=>qS P_ 48 [nth d 0,nth e 0] f λb c=>a [b] c) λd e=>q2 (qP c (nth d 0) bF λc=>qV c true 1 e
 (λb=>qK 9 a e λa=>b [a] e) λd e=>qV c true 1 e (λa=>qF 1 b λb=>a [b] e) λe f=>qV c true 1 f (λa=>qL (nth e 0) f λb=>a [b] f) λe f=>qV c
 true 1 f (λb=>qF 0 a λa=>b [a] f) λa f=>qV c true 1 f (λb=>qF 1 (nth a 0) λa=>b [a] f) λa f=>qV c true 1 f (λb=>qL (nth a 0) f λa=>b [a] f)
 λa f=>qV c true 1 f (λa=>qF 4 b λb=>a [b] f) λb f=>qV c true 1 f (λa=>qL (nth b 0) f λb=>a [b] f) λb f=>qV c true 1 f (λc=>qX 3 (nth a 0)
 (nth b 0) λa=>c [a] f) λa b=>qV c true 1 b (λc=>qK 3 (nth a 0) b λa=>c [a] b) λa b=>qV c true 1 b (λc=>qS P_ 82 [nth d 0,nth e 0,nth a 0] b fun
 a b=>c [a] b) λa b=>q2 (qP c (nth a 0) bF λa=>R a b))))) (qC .eql d (n6 3) (qK 9 a c λd=>qK 8 b c λe=>qS P_ 83 [d,e] c λc d=>qx 0 c λe=>qx 1 c fun
 c=>qA 46 [n0,n0,bF] d λd f=>qT 3 d e f λe=>qK 8 b e λf=>qS P_ 69 [f,bT,bT,bT,bT,bF,bF,bF] e λe f=>qU e true 1 f (λa=>a [c] f) λc f=>qP e (nth c
 0) bF λc=>qU c true 5 f (λc=>qK 9 a f λa=>qH 1 b f λb e=>qK 3 d f λd=>qS P_ 82 [a,e,d] f λf g=>c [a,b,e,d,f] g) λa b=>qP c (nth a 4) bF λa=>R
 a b) (qC .eql d (n6 4) (qK 8 b c λd=>qS P_ 69 [d,bT,bT,bF,bF,bF,bF,bT] c λc d=>qU c true 5 d (λc=>qK 9 a d λa=>qH 1 b d λb e=>q8 [(0,1),(1,1),(2,1)]
 [n0,n0,bF] [(0,n6 1)] λf=>qS P_ 82 [a,e,f] d λd g=>c [a,b,e,f,d] g) λd e=>qP c (nth d 4) bF λc=>qU c true 5 e (λc=>qK 9 a e λa=>qH 2 b e λb d=>q8
 [(0,1),(1,1),(2,1)] [n0,n0,bF] [(0,n6 3)] λf=>qS P_ 82 [a,d,f] e λe g=>c [a,b,d,f,e] g) λd e=>qP c (nth d 4) bF λc=>qU c true 4 e (λc=>qK 9 a e fun
 a=>qH 7 b e λb d=>qS P_ 70 [a,d] e λe f=>c [a,b,d,e] f) λa b=>qP c (nth a 3) bF λa=>R a b) (qC .eql d (n6 10) (qK 8 b c λd=>qS P_ 69 [d,bT,bT,bF,bF,bF,bF,bF]
 c λc d=>qU c true 5 d (λc=>qK 9 a d λa=>qH 1 b d λb e=>q8 [(0,1),(1,1),(2,1)] [n0,n0,bF] [(0,n6 1)] λf=>qS P_ 82 [a,e,f] d λd g=>c [a,b,e,f,d] g)
 λd e=>qP c (nth d 4) bF λc=>qU c true 5 e (λc=>qK 9 a e λa=>qH 2 b e λb d=>q8 [(0,1),(1,1),(2,1)] [n0,n0,bF] [(0,n6 3)] λf=>qS P_ 82 [a,d,f] e fun
 e g=>c [a,b,d,f,e] g) λa b=>qP c (nth a 4) bF λa=>R a b) (qC .eql d (n6 8) (qK 8 b c λd=>qS P_ 69 [d,bT,bF,bT,bT,bF,bF,bF] c λc d=>qU c true 7 d (fun
 c=>qH 3 b d λb e=>qF 0 a λa=>qH 0 a d λf g=>qn g λi=>qS P_ 48 [e,i] d λd j=>c [b,e,a,f,g,i,d] j) λd e=>qP c (nth d 6) bF λc=>qU c true 7 e (fun
 c=>qK 9 a e λa=>qH 1 b e λd f=>qH 3 b e λb g=>q8 [(0,1),(1,1),(2,1)] [n0,n0,bF] [(0,n6 4),(1,g)] λi=>qS P_ 82 [a,f,i] e λe j=>c [a,d,f,b,g,i,e] j)
 λd e=>qP c (nth d 6) bF λc=>qU c true 6 e (λc=>qK 9 a e λa=>qK 8 b e λd=>qH 3 b e λb f=>qS P_ 84 [a,d,a2,f] e λe g=>c [a,d,a2,b,f,e] g) λa
 b=>z4r [c,nth a 5] (later (λa=>qP (nth a 0) (nth a 1) bF λa=>R a b) ())) (qK 8 b c λd=>qS P_ 69 [d,bT,bF,bF,bT,bF,bT,bF] c λc d=>qU c true 5 d (fun
 c=>qK 9 a d λa=>qH 1 b d λb e=>q8 [(0,1),(1,1),(2,1)] [n0,n0,bF] [(0,n6 3)] λf=>qS P_ 82 [a,e,f] d λd g=>c [a,b,e,f,d] g) λd e=>qP c (nth d 4) bF fun
 c=>qU c true 4 e (λc=>qK 9 a e λa=>qH 6 b e λb d=>qS P_ 70 [a,d] e λe f=>c [a,b,d,e] f) λd e=>qP c (nth d 3) bF λc=>qU c true 4 e (λc=>qK 9 a
 e λa=>qK 8 b e λb=>qS P_ 84 [a,b,a2,n6 (-1)] e λd e=>c [a,b,a2,d] e) λa b=>qP c (nth a 3) bF λa=>R a b)))))):z01 P_ 71 [a0,a1,a2] h R:=cI zg6
 z0d Tryd.func71 Tryd.ntmps71 Tryd.call71 (by kernel_rfl) (by kernel_rfl) H
def zf3:=mkG [2,3,12,19,20,26,33,37,45,48,54,60,66] [] [] []
theorem zdy (H:qM true 82 a0 h λa b=>qM true 49 a1 b λb c=>qG 0 b c λd=>qC .eql d (n6 5) (qK 8 b c λd=>qS P_ 69 [d,bF,bF,bF,bT,bF,bT,bF]
 c λc d=>qU c true 7 d (λc=>qH 4 b d λb e=>qF 0 a λa=>qH 1 a d λf g=>qn g λi=>qS P_ 48 [e,i] d λd j=>c [b,e,a,f,g,i,d] j) λd e=>qP c (nth d
 6) bF λc=>qU c true 4 e (λc=>qK 9 a e λa=>qH 6 b e λb d=>qS P_ 70 [a,d] e λe f=>c [a,b,d,e] f) λa b=>qP c (nth a 3) bF λa=>R a b) (qC .eql d
 (n6 6) (qK 9 a c λd=>qK 8 b c λe=>qS P_ 83 [d,e] c λc d=>qx 0 c λe=>qx 1 c λc=>qA 46 [n0,n0,bF] d λd f=>qT 3 d e f λd=>qK 8 b d λe=>qS P_
 69 [e,bF,bT,bT,bT,bF,bT,bF] d λd e=>qU d true 1 e (λa=>a [c] e) λc e=>qP d (nth c 0) bF λc=>qU c true 4 e (λc=>qK 9 a e λa=>qH 6 b e λb d=>qS
 P_ 70 [a,d] e λe f=>c [a,b,d,e] f) λa b=>qP c (nth a 3) bF λa=>R a b) (qK 8 b c λd=>qS P_ 69 [d,bF,bT,bF,bF,bF,bT,bT] c λc d=>qU c true 5 d (λc=>qK
 9 a d λa=>qH 2 b d λb e=>q8 [(0,1),(1,1),(2,1)] [n0,n0,bF] [(0,n6 3)] λf=>qS P_ 82 [a,e,f] d λd g=>c [a,b,e,f,d] g) λd e=>qP c (nth d 4) bF λc=>qU
 c true 4 e (λc=>qK 9 a e λa=>qH 6 b e λb d=>qS P_ 70 [a,d] e λe f=>c [a,b,d,e] f) λd e=>qP c (nth d 3) bF λc=>qU c true 4 e (λc=>qK 9 a e fun
 a=>qH 7 b e λb d=>qS P_ 70 [a,d] e λe f=>c [a,b,d,e] f) λa b=>qP c (nth a 3) bF λa=>R a b))):z01 P_ 72 [a0,a1] h R:=cI zf3 z0d Tryd.func72
 Tryd.ntmps72 Tryd.call72 (by kernel_rfl) (by kernel_rfl) H
def zhk:=mkG [3,11,12,19,25] [] [] []
theorem zfu (H:qM true 82 a0 h λa b=>qF 6 a λc=>qG 1 c b λc=>qn c λc=>qS P_ 48 [a2,c] b λb c=>qN b λb=>qI b (R bF c) (q1 (qF 0 a
 λb=>qK 5 b c λb=>qG 5 a c λd=>qF 0 a λe=>qK 5 e c λf=>qH 5 a c λa g=>qS P_ 67 [b,d,a1] c λb c=>(q3 a g c/\q4 5 e f c)/\qS P_ 67 [f,g,a2] c fun
 a c=>q2 (qE b a λa=>R a c)))):z01 P_ 73 [a0,a1,a2] h R:=cI zhk z0d Tryd.func73 Tryd.ntmps73 Tryd.call73 (by kernel_rfl) (by kernel_rfl) H
def zf2:=mkG [3,4,9,17,18] [] [] []
theorem zdx (H:qM true 82 a0 h λa b=>qM true 49 a1 b λb c=>qK 8 b c λd=>qS P_ 69 [d,bF,bF,bF,bT,bF,bF,bF] c λc d=>qN c λc=>qU c false
 8 d (λc=>qH 4 b d λb e=>qF 0 a λa=>qH 4 a d λf g=>qn g λi=>qS P_ 48 [e,i] d λd j=>qN d λk=>c [b,e,a,f,g,i,d,k] j) λd e=>qP c bT (nth d 7)
 λc=>qI c (R bF e) (qF 0 a λc=>qG 4 c e λc=>qG 4 b e λd=>qY 3 c d e λc=>qA 54 [n0,n0,n0] e λd e=>qT 3 d c e λc=>qG 0 b c λb=>qC .eql b (n6
 15) (qG 0 d c λb=>qG 5 a c λa=>qE b a λa=>qU a true 4 c (λa=>qH 1 d c λb d=>qE d a2 λe=>a [b,d,a2,e] c) λb c=>qP a (nth b 3) bF λa=>R a c)
 (qG 0 d c λb=>qG 5 a c λa=>qE b a λa=>qU a true 4 c (λa=>qH 2 d c λb d=>qE d a2 λe=>a [b,d,a2,e] c) λb c=>qP a (nth b 3) bF λa=>R a c))):z01
 P_ 74 [a0,a1,a2] h R:=cI zf2 z0d Tryd.func74 Tryd.ntmps74 Tryd.call74 (by kernel_rfl) (by kernel_rfl) H
def zg5:=mkG [3,4,11,18,29,33,41,53,60,65,70,75,81,86,92,98,106,112,119] [(13,[2,3,4,22,43]),(17,[2,3,4,22,54]),(20,[2,3,4,22,61])] [13,17,20] []
theorem zew (H:qM true 82 a0 h λa b=>qM true 49 a1 b λb c=>qG 0 b c λd=>qS P_ 66 [d] c λc d=>qU c true 7 d (λb=>qF 0 a λc=>qK 5
 c d λe=>qH 5 a d λa f=>qS P_ 67 [e,f,a2] d λd g=>qB .lss d n0 λi=>b [c,e,a,f,a2,d,i] g) λd e=>qP c (nth d 6) bF λc=>qI c (R bF e) (qG 0 b e fun
 c=>qC .eql c (n6 1) (qK 9 a e λc=>qG 1 b e λd=>qS P_ 68 [c,d] e λc d=>qx 0 c λe=>qx 1 c λc=>qA 46 [n0,n0,bF] d λd f=>qT 3 d e f λd=>qK 8 b d
 λe=>qS P_ 69 [e,bT,bF,bF,bF,bF,bT,bF] d λd e=>qU d true 1 e (λa=>a [c] e) λc e=>qP d (nth c 0) bF λc=>qU c true 4 e (λc=>qK 9 a e λa=>qH 6 b
 e λb d=>qS P_ 70 [a,d] e λe f=>c [a,b,d,e] f) λa b=>qP c (nth a 3) bF λa=>R a b) (qQ (λd=>qE c (n6 2) λf=>qI f (d (frOf [(2,a2),(3,a),(4,b),(22,c),(43,f)])
 e) (qE c (n6 3) λf=>qI f (d (frOf [(2,a2),(3,a),(4,b),(22,c),(43,f)]) e) (qE c (n6 4) λf=>qI f (d (frOf [(2,a2),(3,a),(4,b),(22,c),(43,f)]) e) (qE c (n6 10)
 λf=>qI f (d (frOf [(2,a2),(3,a),(4,b),(22,c),(43,f)]) e) (qE c (n6 8) λf=>qI f (d (frOf [(2,a2),(3,a),(4,b),(22,c),(43,f)]) e) (qE c (n6 9) λf=>d (frOf [(2,a2),(3,a),(4,b),(22,c),(43,f)])
 e)))))) λa b=>qI (a 43) (qK 9 (a 3) b λc=>qK 8 (a 4) b λd=>qS P_ 71 [c,d,a 2] b λa b=>R a b) (qQ (λc=>qE (a 22) (n6 5) λd=>qI d (c (frOf (kq a [2,3,4,22]
 [(54,d)])) b) (qE (a 22) (n6 6) λd=>qI d (c (frOf (kq a [2,3,4,22] [(54,d)])) b) (qE (a 22) (n6 7) λd=>c (frOf (kq a [2,3,4,22] [(54,d)])) b))) λa b=>qI
 (a 54) (qK 9 (a 3) b λc=>qK 8 (a 4) b λa=>qS P_ 72 [c,a] b λa b=>R a b) (qQ (λc=>qE (a 22) (n6 11) λd=>qI d (c (frOf (kq a [2,3,4,22] [(61,d)])) b)
 (qE (a 22) (n6 12) λd=>c (frOf (kq a [2,3,4,22] [(61,d)])) b)) λa b=>qI (a 61) (qK 8 (a 4) b λc=>qS P_ 69 [c,bF,bF,bF,bF,bF,bT,bF] b λb c=>qU b true 4
 c (λb=>qK 9 (a 3) c λd=>qH 6 (a 4) c λa e=>qS P_ 70 [d,e] c λc f=>b [d,a,e,c] f) λa c=>qP b (nth a 3) bF λa=>R a c) (qC .eql (a 22) (n6 13) (qK
 8 (a 4) b λc=>qS P_ 69 [c,bF,bF,bF,bF,bT,bF,bF] b λb c=>qU b true 5 c (λb=>qK 9 (a 3) c λd=>qH 5 (a 4) c λe f=>qS P_ 73 [d,a 2,f] c λc g=>b [d,a
 2,e,f,c] g) λa c=>qP b (nth a 4) bF λa=>R a c) (qC .eql (a 22) (n6 14) (qK 8 (a 4) b λc=>qS P_ 69 [c,bF,bF,bF,bF,bT,bT,bF] b λb c=>qU b true 5 c (fun
 b=>qK 9 (a 3) c λd=>qH 5 (a 4) c λe f=>qS P_ 73 [d,a 2,f] c λc g=>b [d,a 2,e,f,c] g) λc d=>qP b (nth c 4) bF λb=>qU b true 4 d (λb=>qK 9 (a 3) d
 λc=>qH 6 (a 4) d λa e=>qS P_ 70 [c,e] d λd f=>b [c,a,e,d] f) λa c=>qP b (nth a 3) bF λa=>R a c) (qE (a 22) (n6 15) λc=>qI c (qI c (qK 9 (a 3) b
 λc=>qK 8 (a 4) b λd=>qS P_ 74 [c,d,a 2] b λa b=>R a b) (qG 0 (a 4) b λc=>qE c (n6 17) λc=>qU c true 2 b (λc=>qK 8 (a 4) b λa=>qS P_ 69 [a,bF,bF,bF,bF,bF,bF,bF]
 b λb d=>c [a,b] d) λb d=>qP c (nth b 1) bF λb=>qU b true 7 d (λb=>qF 6 (a 3) λc=>qH 1 c d λe f=>qn f λg=>qB .sub g (n6 1) λi=>qE (a 2) i fun
 j=>b [a 2,c,e,f,g,i,j] d) λa c=>qP b (nth a 6) bF λa=>R a c)) (qC .eql (a 22) (n6 16) (qK 9 (a 3) b λc=>qK 8 (a 4) b λd=>qS P_ 74 [c,d,a 2] b λa b=>R
 a b) (qG 0 (a 4) b λc=>qE c (n6 17) λc=>qU c true 2 b (λc=>qK 8 (a 4) b λa=>qS P_ 69 [a,bF,bF,bF,bF,bF,bF,bF] b λb d=>c [a,b] d) λb d=>qP c (nth
 b 1) bF λb=>qU b true 7 d (λb=>qF 6 (a 3) λc=>qH 1 c d λe f=>qn f λg=>qB .sub g (n6 1) λi=>qE (a 2) i λj=>b [a 2,c,e,f,g,i,j] d) λa c=>qP
 b (nth a 6) bF λa=>R a c)))))))))):z01 P_ 50 [a0,a1,a2] h R:=cI zg5 z0d Tryd.func50 Tryd.ntmps50 Tryd.call50 (by kernel_rfl) (by kernel_rfl)
 H
def zcc:=mkG [1,9,13,50,54,63] [(7,[1,53,54,55])] [] [(2,[(15,[1,3,29,33])])]
noncomputable def z9t:=lpOf 7 Tryd.f30
theorem zhg (H:qM true 82 a0 h λa b=>qF 6 a λc=>qG 1 c b λc=>qn c λc=>qF 6 a λd=>qG 0 d b λd=>qn d λd=>qB .gtr d (n6 64) λd=>qU
 d false 2 b (λa=>qB .lss c (n6 1) λd=>a [c,d] b) λb e=>qP d bT (nth b 1) λb=>qU b false 2 e (λa=>qB .gtr c (n6 256) λb=>a [c,b] e) λd e=>qP b
 bT (nth d 1) λb=>qU b false 4 e (λb=>qF 6 a λa=>qH 2 a e λc d=>qB .lss d n0 λf=>b [a,c,d,f] e) λd e=>qP b bT (nth d 3) λb=>qU b false 4 e (fun
 b=>qF 6 a λa=>qH 2 a e λc d=>qB .gtr d (n6 4096) λf=>b [a,c,d,f] e) λd e=>z4r [a,c,b,nth d 3] (later (λa=>qP (nth a 2) bT (nth a 3) λb=>qU b
 false 9 e (λb=>qF 6 (nth a 0) λc=>qH 1 c e λd f=>qB .sub (nth a 1) (n6 1) λg=>qX 8 f g λi=>qH 0 i e λj k=>qB .neq k (n6 17) λl=>b [c,d,f,nth
 a 1,g,i,j,k,l] e) λc d=>qP b bT (nth c 8) λb=>qI b (R bF d) (qF 6 (nth a 0) λb=>qG 0 b d λb=>qS P_ 45 [b,.fn (Fn.func 49) [] [nth a 0]] d λb c=>qI
 b (R bF c) (qF 6 (nth a 0) λb=>qG 1 b c λb=>qn b λd=>qw P_ 66 z9t [(1,nth a 0),(53,b),(54,d),(55,n0)] c (λa _ b=>q5 a (R bT b)) λa b=>R
 (a 2) b))) ())):z01 P_ 30 [a0] h R:=cI zcc z0d Tryd.func30 Tryd.ntmps30 Tryd.call30 (by kernel_rfl) (by kernel_rfl) H
theorem zdw (H:qC .lss s55 s54 (qY 8 s53 s55 h λa=>qA 49 [n0,n0,n0,n0,n0,n0,.nils,.nils] h λb c=>qT 8 b a c λa=>qK 9 s1 a λc=>qK 8 b
 a λb=>qS P_ 50 [c,b,s55] a λa b=>qN a λa=>qI a (Q .ret (frOf [(2,bF)]) b) (qB .add s55 (n6 1) λa=>Q .normal (frOf [(1,s1),(53,s53),(54,s54),(55,a)]) b))
 (Q (.exit 0) (frOf []) h)):WP P_ 66 z9t (frOf [(1,s1),(53,s53),(54,s54),(55,s55)]) h Q:=z15 zcc [0] [1,53,54,55] [] [2] z0d (by
 kernel_rfl) (Eq.mpr (by kernel_rfl) H)
def zf1:=mkG [1,9,14,21,26,31,36,43,48,58] [(4,[1,35,36,37]),(10,[1,47,48,49])] [] [(1,[(14,[1,29,32])])]
noncomputable def zfo:=lpOf 4 Tryd.f14
noncomputable def zeb:=lpOf 10 Tryd.f14
theorem zqe (H:qM true 28 a0 h λa b=>qG 0 a b λc=>qn c λc=>qB .gtr c (n6 6) λc=>qU c false 4 b (λc=>qH 2 a b λa d=>qn d λe=>qB .gtr
 e (n6 4) λf=>c [a,d,e,f] b) λb d=>qP c bT (nth b 3) λb=>qU b false 5 d (λb=>qK 5 a d λc=>qH 1 a d λa e=>qS P_ 27 [c,e,n6 8] d λd f=>qN d fun
 g=>b [c,a,e,d,g] f) λc d=>qP b bT (nth c 4) λb=>qU b false 3 d (λb=>qK 5 a d λa=>qS P_ 28 [a] d λc d=>qN c λe=>b [a,c,e] d) λc d=>qP b bT (nth
 c 2) λb=>qU b false 3 d (λb=>qK 5 a d λa=>qS P_ 29 [a] d λc d=>qN c λe=>b [a,c,e] d) λc d=>z4r [a,b,nth c 2] (later (λa=>qP (nth a 1) bT (nth
 a 2) λb=>qI b (R bF d) (qG 0 (nth a 0) d λb=>qn b λc=>qw P_ 61 zfo [(1,nth a 0),(35,b),(36,c),(37,n0)] d (λa b c=>q5 a (qG 2 (b 1) c λa=>qn
 a λd=>qw P_ 61 zeb [(1,b 1),(47,a),(48,d),(49,n0)] c (λa _ b=>pIdx a 2 (pIdx 2 2 (R bT b) False) False) λa b=>R (a 2) b)) λa b=>R (a 2) b))
 ())):z01 P_ 14 [a0] h R:=cI zf1 z0d Tryd.func14 Tryd.ntmps14 Tryd.call14 (by kernel_rfl) (by kernel_rfl) H
theorem zjy (H:qC .lss s37 s36 (qZ 1 s35 s37 h λa=>qK 5 s1 h λb=>qS P_ 27 [b,a,n6 6] h λa b=>qN a λa=>qI a (Q .ret (frOf [(2,bF)]) b) (qB
 .add s37 (n6 1) λa=>Q .normal (frOf [(1,s1),(35,s35),(36,s36),(37,a)]) b)) (Q (.exit 0) (frOf [(1,s1)]) h)):WP P_ 61 zfo (frOf [(1,s1),(35,s35),(36,s36),(37,s37)])
 h Q:=z15 zf1 [0] [1,35,36,37] [1] [2] z0d (by kernel_rfl) (Eq.mpr (by kernel_rfl) H)
theorem ziw (H:qC .lss s49 s48 (qY 3 s47 s49 h λa=>qA 52 [.nils,.nils,n0] h λb c=>qT 3 b a c λa=>qK 5 s1 a λc=>qK 3 b a λb=>q8 [(0,5),(5,1),(6,3)]
 [.nils,.nils,.nils,.nils,.nils,n0,.nils,.nils,n0] [(0,c),(1,s49),(2,b)] λb=>qS P_ 30 [b] a λa b=>qN a λa=>qI a (Q .ret (frOf [(2,bF)]) b) (qB .add s49 (n6
 1) λa=>Q .normal (frOf [(1,s1),(47,s47),(48,s48),(49,a)]) b)) (Q (.exit 2) (frOf []) h)):WP P_ 61 zeb (frOf [(1,s1),(47,s47),(48,s48),(49,s49)]) h Q:=z15
 zf1 [2] [1,47,48,49] [] [2] z0d (by kernel_rfl) (Eq.mpr (by kernel_rfl) H)
def zob:=mkG [1] [(9,[1,5])] [9] []
theorem zly (H:qM true 49 a0 h λa b=>qG 0 a b λc=>qQ (λd=>qE c (n6 1) λe=>qI e (d (frOf [(1,a),(5,e)]) b) (qE c (n6 2) λe=>qI e (d (frOf
 [(1,a),(5,e)]) b) (qE c (n6 3) λe=>qI e (d (frOf [(1,a),(5,e)]) b) (qE c (n6 4) λe=>qI e (d (frOf [(1,a),(5,e)]) b) (qE c (n6 8) λe=>qI e (d (frOf [(1,a),(5,e)])
 b) (qE c (n6 9) λe=>qI e (d (frOf [(1,a),(5,e)]) b) (qE c (n6 10) λc=>d (frOf [(1,a),(5,c)]) b))))))) λa b=>qI (a 5) (qG 1 (a 1) b λa=>R a b) (R (n6 (-1))
 b)):z01 P_ 51 [a0] h R:=cI zob z0d Tryd.func51 Tryd.ntmps51 Tryd.call51 (by kernel_rfl) (by kernel_rfl) H
def zkc:=mkG [7,19,20] [(3,[3,6,7,8])] [] []
noncomputable def zfn:=lpOf 3 Tryd.f85
theorem zq3 (H:qn a0 λa=>qw P_ 23 zfn [(3,.nils),(6,a0),(7,a),(8,n0)] h (λa b c=>q5 a (R (b 3) c)) λa b=>R (a 2) b):z01 P_ 85 [a0]
 h R:=cI zkc z0d Tryd.func85 Tryd.ntmps85 Tryd.call85 (by kernel_rfl) (by kernel_rfl) H
theorem zjw (H:qC .lss s8 s7 (qY 3 s6 s8 h λa=>qA 103 [n0,n0,nU 0] h λb c=>qT 3 b a c λa=>qG 0 b a λc=>qC .eql c (n6 2) (qG 2 b a λb=>z9e
 (.int .i64) b a (later (λb=>(1=0->[(0,Operand.tmp 18)]=[])/\z10 true ⟨3,1,8⟩ [n0] 1 [(0,b)] a (later (λa b=>q1 (q7 true ⟨3,1,8⟩ s3 a b λa b=>qB .add s8
 (n6 1) λc=>Q .normal (frOf [(3,a),(6,s6),(7,s7),(8,c)]) b)) ())) ())) (qB .add s8 (n6 1) λb=>Q .normal (frOf [(3,s3),(6,s6),(7,s7),(8,b)]) a)) (Q (.exit 0)
 (frOf [(3,s3)]) h)):WP P_ 23 zfn (frOf [(3,s3),(6,s6),(7,s7),(8,s8)]) h Q:=z15 zkc [0] [3,6,7,8] [3] [2] z0d (by kernel_rfl) (Eq.mpr (by
 kernel_rfl) H)
def z2t:=mkG [7,16] [(2,[0,1,7,8])] [] []
noncomputable def z2n:=lpOf 2 Tryd.f60
theorem z5u (H:qn a0 λa=>qw P_ 19 z2n [(0,a0),(1,a1),(7,a),(8,n0)] h (λa _ b=>q5 a
 (R (n6 (-1)) b)) λa b=>R (a 4) b):z01 P_ 60 [a0,a1] h R:=cI z2t z0d Tryd.func60 Tryd.ntmps60 Tryd.call60 (by kernel_rfl)
 (by kernel_rfl) H
theorem z4u (H:qC .lss s8 s7 (qY 12 s0 s8 h λa=>z7d P_ s1 [a] h (later (λa b=>qI a (Q .ret (frOf [(4,s8)]) b) (qB
 .add s8 (n6 1) λa=>Q .normal (frOf [(0,s0),(1,s1),(7,s7),(8,a)]) b)) ())) (Q (.exit 0) (frOf []) h)):WP P_ 19 z2n (frOf [(0,s0),(1,s1),(7,s7),(8,s8)])
 h Q:=z15 z2t [0] [0,1,7,8] [] [4] z0d (by kernel_rfl) (Eq.mpr (by kernel_rfl) H)
def z7a:=mkG [7] [(2,[0,1,7,8])] [] []
noncomputable def z6i:=lpOf 2 Tryd.f78
theorem zc1 (H:qn a0 λa=>qw P_ 19 z6i [(0,a0),(1,a1),(7,a),(8,n0)] h (λa _ b=>q5 a (R (n6 (-1)) b)) λa b=>R (a 4)
 b):z01 P_ 78 [a0,a1] h R:=cI z7a z0d Tryd.func78 Tryd.ntmps78 Tryd.call78 (by kernel_rfl) (by kernel_rfl) H
theorem z9q (H:qC .lss s8 s7 (qZ 1 s0 s8 h λa=>qC .eql s1 a (Q .ret (frOf [(4,s8)]) h) (qB .add s8 (n6 1) λa=>Q .normal (frOf [(0,s0),(1,s1),(7,s7),(8,a)])
 h)) (Q (.exit 0) (frOf []) h)):WP P_ 19 z6i (frOf [(0,s0),(1,s1),(7,s7),(8,s8)]) h Q:=z15 z7a [0] [0,1,7,8] [] [4] z0d
 (by kernel_rfl) (Eq.mpr (by kernel_rfl) H)
def zaa:=mkG [7] [] [] []
theorem z9o (H:qS P_ 78 [a0,a1] h λa b=>qB .geq a n0 λa=>R a b):z01 P_ 62 [a0,a1] h R:=cI zaa z0d Tryd.func62
 Tryd.ntmps62 Tryd.call62 (by kernel_rfl) (by kernel_rfl) H
def z4z:=mkG [7] [] [] []
theorem z4t (H:qS P_ 60 [a0,a1] h λa b=>qB .geq a n0 λa=>R a b):z01 P_ 41 [a0,a1] h R:=cI z4z
 z0d Tryd.func41 Tryd.ntmps41 Tryd.call41 (by kernel_rfl) (by kernel_rfl) H
def z3u:=mkG [1,11,16,22,28,34,39,45,50,57,62,67,74,79] [(4,[1,38,39,40]),(10,[49,50,51]),(15,[49,50,51,66,67,68])] [] [(1,[(14,[1,31,35])])]
noncomputable def z6x:=lpOf 4 Tryd.f6
noncomputable def z6l:=lpOf 10 Tryd.f6
noncomputable def z4l:=lpOf 15 Tryd.f6
theorem zd3 (H:qM true 28 a0 h λa b=>qG 0 a b λc=>qn c λc=>qB .gtr c (n6 20) λc=>qU c false 4 b (λc=>qH 1 a b λa d=>qn d λe=>qB
 .gtr e (n6 100) λf=>c [a,d,e,f] b) λb d=>qP c bT (nth b 3) λb=>qU b false 4 d (λb=>qH 2 a d λa c=>qn c λe=>qB .gtr e (n6 8) λf=>b [a,c,e,f] d)
 λc d=>qP b bT (nth c 3) λb=>qU b false 4 d (λb=>qH 3 a d λa c=>qn c λe=>qB .gtr e (n6 100) λf=>b [a,c,e,f] d) λc d=>qP b bT (nth c 3) λb=>qU
 b false 4 d (λb=>qH 4 a d λa c=>qn c λe=>qB .gtr e (n6 100) λf=>b [a,c,e,f] d) λc d=>z4r [a,b,nth c 3] (later (λa=>qP (nth a 1) bT (nth a 2)
 λb=>qI b (R bT d) (qG 0 (nth a 0) d λb=>qn b λc=>qw P_ 84 z6x [(1,nth a 0),(38,b),(39,c),(40,n0)] d (λa b c=>q5 a (qG 2 (b 1) c fun
 a=>qn a λb=>qw P_ 84 z6l [(49,a),(50,b),(51,n0)] c (λa _ b=>pIdx a 2 (pIdx 2 2 (R bF b) False) False) λa b=>R (a 2) b)) λa b=>R (a
 2) b)) ())):z01 P_ 6 [a0] h R:=cI z3u z0d Tryd.func6 Tryd.ntmps6 Tryd.call6 (by kernel_rfl) (by kernel_rfl) H
theorem zb0 (H:qC .lss s40 s39 (qZ 1 s38 s40 h λa=>qn a λa=>qC .gtr a (n6 100) (Q .ret (frOf [(2,bT)]) h) (qB .add s40 (n6 1) λa=>Q
 .normal (frOf [(1,s1),(38,s38),(39,s39),(40,a)]) h)) (Q (.exit 0) (frOf [(1,s1)]) h)):WP P_ 84 z6x (frOf [(1,s1),(38,s38),(39,s39),(40,s40)]) h
 Q:=z15 z3u [0] [1,38,39,40] [1] [2] z0d (by kernel_rfl) (Eq.mpr (by kernel_rfl) H)
theorem zak (H:qC .lss s51 s50 (qY 3 s49 s51 h λa=>qA 52 [.nils,.nils,n0] h λb c=>qT 3 b a c λa=>qG 0 b a λc=>qn c λc=>qB .gtr
 c (n6 300) λc=>qU c false 4 a (λc=>qH 1 b a λb d=>qn d λe=>qB .gtr e (n6 600) λf=>c [b,d,e,f] a) λa d=>qP c bT (nth a 3) λa=>qI a (Q .ret (frOf
 [(2,bT)]) d) (qG 1 b d λa=>qn a λb=>qw P_ 84 z4l [(49,s49),(50,s50),(51,s51),(66,a),(67,b),(68,n0)] d (λa b c=>pIdx a 4 (pIdx 4 4 (qB
 .add (b 51) (n6 1) λa=>Q .normal (frOf (kq b [49,50] [(51,a)])) c) (pIdx 4 3 (qB .add (b 51) (n6 1) λa=>Q .normal (frOf (kq b [49,50] [(51,a)])) c) (Q (.exit
 4) (frOf []) c))) False) λa b=>Q .ret (frOf [(2,a 2)]) b)) (Q (.exit 2) (frOf []) h)):WP P_ 84 z6l (frOf [(49,s49),(50,s50),(51,s51)]) h Q:=z15
 z3u [2] [49,50,51] [] [2] z0d (by kernel_rfl) (Eq.mpr (by kernel_rfl) H)
theorem zal (H:qC .lss s68 s67 (qY 8 s66 s68 h λa=>qA 49 [n0,n0,n0,n0,n0,n0,.nils,.nils] h λb c=>qT 8 b a c λa=>qG 6 b a λc=>qn
 c λc=>qB .gtr c (n6 200) λc=>qU c false 4 a (λc=>qH 7 b a λb d=>qn d λe=>qB .gtr e (n6 200) λf=>c [b,d,e,f] a) λa b=>qP c bT (nth a 3) λa=>qI
 a (Q .ret (frOf [(2,bT)]) b) (qB .add s68 (n6 1) λa=>Q .normal (frOf [(49,s49),(50,s50),(51,s51),(66,s66),(67,s67),(68,a)]) b)) (Q (.exit 4) (frOf [(49,s49),(50,s50),(51,s51)])
 h)):WP P_ 84 z4l (frOf [(49,s49),(50,s50),(51,s51),(66,s66),(67,s67),(68,s68)]) h Q:=z15 z3u [4,3,2] [49,50,51,66,67,68]
 [49,50,51] [2] z0d (by kernel_rfl) (Eq.mpr (by kernel_rfl) H)
def zho:=mkG [] [] [] []
theorem zgo (H:qB .geq a0 n0 λa=>qU a true 3 h (λa=>qB .lss a0 a1 λb=>a [a0,a1,b] h) λb c=>qP a (nth b 2) bF λa=>R a c):z01 P_ 12
 [a0,a1] h R:=cI zho z0d Tryd.func12 Tryd.ntmps12 Tryd.call12 (by kernel_rfl) (by kernel_rfl) H
def ze3:=mkG [2,3,12,13] [] [] []
theorem zd4 (H:qM true 28 a0 h λa b=>qM true 46 a1 b λb c=>qG 0 b c λd=>qC .eql d (n6 4) (qG 1 b c λb=>qG 0 a c λa=>qn a λa=>qS
 P_ 12 [b,a] c λa b=>R a b) (qG 0 b c λa=>qE a (n6 1) λa=>qU a false 3 c (λa=>qH 0 b c λb d=>qE d (n6 2) λe=>a [b,d,e] c) λc d=>qP a bT (nth c
 2) λa=>qU a false 3 d (λa=>qH 0 b d λb c=>qE c (n6 3) λe=>a [b,c,e] d) λc d=>qP a bT (nth c 2) λa=>qU a true 3 d (λa=>qH 1 b d λb c=>qE c
 n0 λe=>a [b,c,e] d) λb c=>qP a (nth b 2) bF λa=>R a c)):z01 P_ 11 [a0,a1] h R:=cI ze3 z0d Tryd.func11 Tryd.ntmps11 Tryd.call11 (by
 kernel_rfl) (by kernel_rfl) H
def zg7:=mkG [4,10] [] [] []
theorem zfa (H:(18=0->[(0,Operand.const (Value.string ⟨⟨[]⟩⟩)),(1,Operand.const (Value.string ⟨⟨[100,105]⟩⟩)),(2,Operand.const (Value.string ⟨⟨[100,110]⟩⟩)),(3,Operand.const
 (Value.string ⟨⟨[100,115,114,110]⟩⟩)),(4,Operand.const (Value.string ⟨⟨[100,115,120]⟩⟩)),(5,Operand.const (Value.string ⟨⟨[110,105]⟩⟩)),(6,Operand.const (Value.string
 ⟨⟨[115,114,110,105]⟩⟩)),(7,Operand.const (Value.string ⟨⟨[115,120,105]⟩⟩)),(8,Operand.const (Value.string ⟨⟨[100,114,110]⟩⟩)),(9,Operand.const (Value.string ⟨⟨[100,105,110]⟩⟩)),(10,Operand.const
 (Value.string ⟨⟨[100,115]⟩⟩)),(11,Operand.const (Value.string ⟨⟨[105]⟩⟩)),(12,Operand.const (Value.string ⟨⟨[105]⟩⟩)),(13,Operand.const (Value.string ⟨⟨[116]⟩⟩)),(14,Operand.const
 (Value.string ⟨⟨[116,105]⟩⟩)),(15,Operand.const (Value.string ⟨⟨[110]⟩⟩)),(16,Operand.const (Value.string ⟨⟨[110]⟩⟩)),(17,Operand.const (Value.string ⟨⟨[]⟩⟩))]=[])/\z10
 true ⟨9,1,16⟩ [.str []] 18 [(0,.str []),(1,.str [100,105]),(2,.str [100,110]),(3,.str [100,115,114,110]),(4,.str [100,115,120]),(5,.str [110,105]),(6,.str [115,114,110,105]),(7,.str
 [115,120,105]),(8,.str [100,114,110]),(9,.str [100,105,110]),(10,.str [100,115]),(11,.str [105]),(12,.str [105]),(13,.str [116]),(14,.str [116,105]),(15,.str [110]),(16,.str
 [110]),(17,.str [])] h (later (λa b=>qB .lss a0 (n6 1) λc=>qU c false 4 b (λc=>qn a λd=>qB .geq a0 d λe=>c [a0,a,d,e] b) λb d=>qP c bT (nth b 3)
 λb=>qI b (R (.str [63]) d) (qZ 1 a a0 d λa=>R a d)) ())):z01 P_ 23 [a0] h R:=cI zg7 z0d Tryd.func23 Tryd.ntmps23 Tryd.call23 (by kernel_rfl)
 (by kernel_rfl) H
def z9w:=mkG [8] [(2,[0,1,5])] [] []
noncomputable def z8h:=lpOf 2 Tryd.f24
theorem zfb (H:qw P_ 17 z8h [(0,a0),(1,a1),(5,n0)] h (λa _ b=>q5 a (R bF b)) λa b=>R (a 4) b):z01 P_ 24 [a0,a1] h R:=cI
 z9w z0d Tryd.func24 Tryd.ntmps24 Tryd.call24 (by kernel_rfl) (by kernel_rfl) H
theorem zci (H:q9 .str s0 λa=>qC .lss s5 a (z9g s0 s5 (later (λa=>qC .eql a s1 (Q .ret (frOf [(4,bT)]) h) (qB .add s5 (n6 1) λa=>Q
 .normal (frOf [(0,s0),(1,s1),(5,a)]) h)) ())) (Q (.exit 0) (frOf []) h)):WP P_ 17 z8h (frOf [(0,s0),(1,s1),(5,s5)]) h Q:=z15 z9w
 [0] [0,1,5] [] [4] z0d (by kernel_rfl) (Eq.mpr (by kernel_rfl) H)
def ze1:=mkG [2] [] [] [(2,[(11,[2,32,36])]),(9,[(15,[2,81])])]
theorem zd1 (H:qM true 103 a0 h λa b=>qG 0 a b λc=>qB .geq c (n6 1) λc=>qU c true 3 b (λc=>qH 0 a b λa d=>qB .leq d (n6 3) λe=>c
 [a,d,e] b) λb d=>qP c (nth b 2) bF λb=>qI b (qG 1 a d λb=>qB .neq b n0 λb=>qU b false 4 d (λb=>qH 0 a d λa c=>qE c (n6 2) λe=>b [a,c,e,e] d)
 λc d=>qU (nth c 3) true 3 d (λa=>qB .leq a1 n0 λb=>a [a1,b,b] d) λd e=>qU (nth d 2) false 5 e (λb=>qH 2 a e λa c=>z9e (.int .u64) a1 e (later
 (λd=>qB .geq c d λf=>b [a,c,a1,d,f] e) ())) λe f=>qU (nth c 3) true 1 f (λa=>qP (nth d 2) bT (nth e 4) λb=>a [b] f) λd e=>qU b false 1 e (λa=>qP
 (nth c 3) (nth d 0) bF λb=>a [b] e) λc d=>qP b bT (nth c 0) λb=>qU b false 4 d (λb=>qH 0 a d λa c=>qE c (n6 3) λe=>b [a,c,e,e] d) λc d=>z4r
 [a,b,nth c 3] (later (λa=>qU (nth a 2) true 3 d (λb=>qH 2 (nth a 0) d λa c=>qB .geq c (nU 16) λe=>b [a,c,e] d) λb c=>qU (nth a 1) false 1 c (λd=>qP
 (nth a 2) (nth b 2) bF λa=>d [a] c) λb c=>qP (nth a 1) bT (nth b 0) λa=>qI a (R (n6 (-1)) c) (R n0 c)) ())) (qG 0 a d λb=>qB .geq b (n6 4) λb=>qU b
 true 3 d (λb=>qH 0 a d λa c=>qB .leq c (n6 7) λe=>b [a,c,e] d) λc d=>qP b (nth c 2) bF λb=>qI b (qG 1 a d λb=>qB .neq b n0 λb=>qU b false 3 d
 (λb=>qH 2 a d λa c=>qB .neq c (nU 0) λe=>b [a,c,e] d) λa c=>qP b bT (nth a 2) λa=>qI a (R (n6 (-1)) c) (R (n6 1) c)) (qG 0 a d λb=>qB .lss b (n6
 8) λb=>qU b false 3 d (λb=>qH 0 a d λa c=>qB .gtr c (n6 10) λe=>b [a,c,e] d) λc d=>qP b bT (nth c 2) λb=>qU b false 3 d (λb=>qH 2 a d λa c=>qB
 .neq c (nU 0) λe=>b [a,c,e] d) λc d=>qP b bT (nth c 2) λb=>qU b false 3 d (λb=>qH 1 a d λa c=>qB .lss c n0 λe=>b [a,c,e] d) λc d=>qP b bT (nth
 c 2) λb=>qU b false 3 d (λb=>qH 1 a d λa c=>qB .gtr c (n6 8) λe=>b [a,c,e] d) λc d=>qP b bT (nth c 2) λb=>z4r [a,b] (later (λa=>qU (nth a
 1) false 4 d (λb=>qH 0 (nth a 0) d λa c=>qE c (n6 9) λe=>b [a,c,e,e] d) λb c=>qU (nth b 3) true 3 c (λb=>qH 1 (nth a 0) c λa d=>qE d (n6 4) fun
 e=>b [a,d,e] c) λc d=>qU (nth a 1) false 1 d (λa=>qP (nth b 3) (nth c 2) bF λb=>a [b] d) λb c=>qP (nth a 1) bT (nth b 0) λb=>qU b false 4 c (λb=>qH
 0 (nth a 0) c λa d=>qE d (n6 10) λe=>b [a,d,e,e] c) λc d=>qU (nth c 3) true 3 d (λb=>qH 1 (nth a 0) d λa c=>qB .neq c (n6 5) λe=>b [a,c,e] d) fun
 d e=>qU b false 2 e (λa=>qP (nth c 3) (nth d 2) bF λb=>a [b,b] e) λc d=>qU (nth c 1) true 3 d (λb=>qH 1 (nth a 0) d λa c=>qB .neq c (n6 6) λe=>b
 [a,c,e] d) λa d=>qU b false 1 d (λb=>qP (nth c 1) (nth a 2) bF λa=>b [a] d) λa c=>qP b bT (nth a 0) λa=>qI a (R (n6 (-1)) c) (R (n6 2) c)) ())))):z01
 P_ 44 [a0,a1] h R:=cI ze1 z0d Tryd.func44 Tryd.ntmps44 Tryd.call44 (by kernel_rfl) (by kernel_rfl) H
def z98:=mkG [9,20,35] [(3,[0,1,5,6])] [] []
noncomputable def z7s:=lpOf 3 Tryd.f25
theorem ze6 (H:qn a0 λa=>qB .sub a (n6 1) λa=>qw P_ 38 z7s [(0,a0),(1,a1),(5,n6 1),(6,a)] h (λa b c=>q5 a (qE (b 5) n0
 λa=>qU a true 3 c (λa=>qn (b 0) λd=>qB .leq d (n6 64) λe=>a [b 0,d,e] c) λb c=>qP a (nth b 2) bF λa=>R a c)) λa b=>R (a 4) b):z01 P_ 25 [a0,a1]
 h R:=cI z98 z0d Tryd.func25 Tryd.ntmps25 Tryd.call25 (by kernel_rfl) (by kernel_rfl) H
theorem zbt (H:qC .geq s6 n0 (qY 3 s0 s6 h λa=>qS P_ 44 [a,s1] h λa b=>qB .lss a n0 λc=>qU c false 2 b (λa=>qE s5 n0 λc=>a [s5,c]
 b) λb d=>qP c bT (nth b 1) λb=>qI b (Q .ret (frOf [(4,bF)]) d) (qB .sub s5 (n6 1) λb=>qB .add b a λa=>qB .sub s6 (n6 1) λb=>Q .normal (frOf [(0,s0),(1,s1),(5,a),(6,b)])
 d)) (Q (.exit 0) (frOf [(0,s0),(5,s5)]) h)):WP P_ 38 z7s (frOf [(0,s0),(1,s1),(5,s5),(6,s6)]) h Q:=z15 z98 [0] [0,1,5,6] [0,5]
 [4] z0d (by kernel_rfl) (Eq.mpr (by kernel_rfl) H)
def z7x:=mkG [3,11] [(2,[1,2,10,11,12])] [] []
noncomputable def z6m:=lpOf 2 Tryd.f26
theorem zch (H:qM true 28 a0 h λa b=>qG 4 a b λa=>qn a λc=>qw P_ 35 z6m [(1,a1),(2,a2),(10,a),(11,c),(12,n0)] b (fun
 a _ b=>q5 a (R (n6 (-1)) b)) λa b=>R (a 6) b):z01 P_ 26 [a0,a1,a2] h R:=cI z7x z0d Tryd.func26 Tryd.ntmps26 Tryd.call26 (by kernel_rfl)
 (by kernel_rfl) H
theorem zam (H:qC .lss s12 s11 (qY 3 s10 s12 h λa=>qA 54 [n0,n0,n0] h λb c=>qT 3 b a c λa=>qG 0 b a λc=>qE c s1 λc=>qU c true
 4 a (λc=>qH 1 b a λb d=>qB .lss d s2 λe=>c [b,d,s2,e] a) λa d=>qP c (nth a 3) bF λa=>qU a true 4 d (λa=>qH 2 b d λb c=>qB .leq s2 c λe=>a
 [s2,b,c,e] d) λb c=>qP a (nth b 3) bF λa=>qI a (Q .ret (frOf [(6,s12)]) c) (qB .add s12 (n6 1) λa=>Q .normal (frOf [(1,s1),(2,s2),(10,s10),(11,s11),(12,a)])
 c)) (Q (.exit 0) (frOf []) h)):WP P_ 35 z6m (frOf [(1,s1),(2,s2),(10,s10),(11,s11),(12,s12)]) h Q:=z15 z7x [0] [1,2,10,11,12]
 [] [6] z0d (by kernel_rfl) (Eq.mpr (by kernel_rfl) H)
end
end
section
open Go.Abs
section
variable (a0 a1 a2:AV) (h:z00) (R:AV->z00->Prop) (Q:z1z->Fr->z00->Prop)
def ze2:=mkG [3,26,31,41,51,61,71,81,86,92,97,103,105,110,115,120,126,131,137,142,148,154,155,160,166,167,173,178,194,203,208,216,231,232,263,264,287,288,351,352,378,379,399,400,429,430]
 [(4,[1,2,3,7,8,9]),(6,[1,2,3,7,8,9]),(9,[1,2,3,7,8,9]),(11,[1,2,3,7,8,9]),(15,[1,2,3,7,8,9]),(18,[1,2,3,7,8,9,11,12]),(20,[1,2,3,8,11,12]),(27,[1,2,3,8,11,12,224,265]),(33,[1,2,3,8,11,12,224,318]),(29,[3,8,11])]
 [4,6,9,11,15,18,20,27,29,33] [(4,[(25,[1,2,3,7,8,9,69,77]),(13,[1,2,3,7,8,9,49,53])]),(7,[(22,[1,2,3,7,8,9,146,149,156]),(11,[1,2,3,7,8,9,10,124,127])]),(41,[(10,[412,421])]),(43,[(10,[442,451])])]
def z0g (R:AV->z00->Prop) (fr':Fr) (v651:AV) (x658:List AV) (x666:List AV) (h667:z00):Prop :=qV v651 true 1 h667 (λa=>qX
 3 (nth x658 0) (nth x666 0) λb=>a [b] h667) λa b=>qV v651 true 1 b (λc=>qK 3 (nth a 0) b λa=>c [a] b) λa b=>qV v651 true 1 b (λa=>a [fr' 1] b) fun
 b c=>qV v651 true 1 c (λa=>a [fr' 2] c) λc d=>qV v651 true 1 d (λa=>qF 3 (fr' 8) λb=>a [b] d) λd e=>qV v651 true 1 e (λa=>qL (nth d 0) e λb=>a
 [b] e) λd e=>qV v651 true 1 e (λa=>q8 [(0,1),(1,1),(2,1)] [n0,n0,n0] [(0,nth b 0),(1,nth c 0),(2,nth d 0)] λb=>a [b] e) λb c=>qV v651 true 1 c (λd=>qD
 (.flat [.int,.int,.int]) .eql (nth a 0) (nth b 0) λa=>d [a] c) λa b=>qP v651 (nth a 0) bF λa=>R a b
def z0h (R:AV->z00->Prop) (J:Fr->z00->Prop) (x62:List AV) (v73:AV) (x78:List AV) (h79:z00):Prop :=qU (nth x78 3) true
 3 h79 (λa=>qH 4 (nth x62 4) h79 λb c=>qB .neq c n0 λd=>a [b,c,d] h79) λa b=>qU v73 false 1 b (λc=>qP (nth x78 3) (nth a 2) bF λa=>c [a] b) λa
 b=>qP v73 bT (nth a 0) λa=>qU a false 4 b (λa=>qS P_ 24 [nth x62 5,n8 116] b λb c=>qN b λd=>a [nth x62 5,b,d,d] c) λb c=>qU (nth b 3) true 3 c (fun
 a=>qH 5 (nth x62 4) c λb d=>qB .neq d n0 λe=>a [b,d,e] c) λc d=>qU a false 1 d (λa=>qP (nth b 3) (nth c 2) bF λb=>a [b] d) λb c=>z4r [nth x62
 0,nth x62 1,nth x62 2,nth x62 3,nth x62 4,nth x62 5,a,nth b 0] (later (λa=>qP (nth a 6) bT (nth a 7) λb=>qU b false 4 c (λb=>qS P_ 24 [nth a 5,n8 105] c
 λc d=>qN c λe=>b [nth a 5,c,e,e] d) λc d=>qU (nth c 3) true 4 d (λb=>qH 6 (nth a 4) d λa c=>qn c λe=>qB .gtr e n0 λf=>b [a,c,e,f] d) λd e=>qU
 b false 1 e (λa=>qP (nth c 3) (nth d 3) bF λb=>a [b] e) λc d=>qP b bT (nth c 0) λb=>qU b false 4 d (λb=>qS P_ 24 [nth a 5,n8 120] d λc d=>qN c fun
 e=>b [nth a 5,c,e,e] d) λc d=>qU (nth c 3) true 4 d (λb=>qH 7 (nth a 4) d λa c=>qn c λe=>qB .gtr e n0 λf=>b [a,c,e,f] d) λd e=>qU b false 1 e (fun
 a=>qP (nth c 3) (nth d 3) bF λb=>a [b] e) λc d=>qP b bT (nth c 0) λb=>qI b (R bF d) (J (frOf [(1,nth a 0),(2,nth a 1),(3,nth a 2),(7,nth a 3),(8,nth a 4),(9,nth
 a 5)]) d)) ())
def z0i (R:AV->z00->Prop) (J:Fr->z00->Prop) (x182:List AV) (x193:List AV) (h194:z00):Prop :=qP (nth x182 7) bT (nth x193
 0) λa=>qU a false 3 h194 (λa=>qS P_ 24 [nth x182 5,n8 120] h194 λb c=>a [nth x182 5,b,b] c) λb c=>qU (nth b 2) true 5 c (λa=>qH 7 (nth x182 4) c fun
 b d=>qS P_ 25 [d,nth x182 6] c λc e=>qN c λf=>a [b,d,nth x182 6,c,f] e) λc d=>qU a false 1 d (λa=>qP (nth b 2) (nth c 4) bF λb=>a [b] d) λb c=>qP
 a bT (nth b 0) λa=>qU a false 3 c (λa=>qS P_ 24 [nth x182 5,n8 114] c λb c=>a [nth x182 5,b,b] c) λb c=>qU (nth b 2) true 7 c (λa=>qH 3 (nth x182 4)
 c λb d=>qH 0 (nth x182 2) c λe f=>qn f λg=>qS P_ 12 [d,g] c λc i=>qN c λj=>a [b,d,e,f,g,c,j] i) λc d=>z4r [nth x182 0,nth x182 1,nth x182 2,nth
 x182 3,nth x182 4,nth x182 5,a,nth b 2,nth c 6] (later (λa=>qU (nth a 6) false 1 d (λb=>qP (nth a 7) (nth a 8) bF λa=>b [a] d) λb c=>qP (nth a 6) bT (nth
 b 0) λb=>qI b (R bF c) (J (frOf [(1,nth a 0),(2,nth a 1),(3,nth a 2),(7,nth a 3),(8,nth a 4),(9,nth a 5)]) c)) ())
def z0j (R:AV->z00->Prop) (fr':Fr) (J:Fr->z00->Prop) (v236:AV) (x268:List AV) (x272:List AV) (h273:z00):Prop :=qV (nth
 x268 0) false 1 h273 (λa=>a [fr' 1] h273) λa b=>qV (nth x268 0) false 1 b (λa=>a [fr' 2] b) λb c=>qV (nth x268 0) false 1 c (λa=>qK 5 (fr' 3) c fun
 b=>a [b] c) λc d=>qV (nth x268 0) false 1 d (λa=>a [fr' 1] d) λd e=>qV (nth x268 0) false 1 e (λa=>qF 5 (fr' 8) λb=>a [b] e) λe f=>qV (nth x268
 0) false 1 f (λa=>qL (nth e 0) f λb=>a [b] f) λf g=>qV (nth x268 0) false 1 g (λc=>qS P_ 26 [nth x272 0,nth a 0,nth b 0] g λa b=>c [a] b) λa b=>(qV
 (nth x268 0) false 1 b (λa=>qL (nth e 0) b λc=>a [c] b) (λa c=>nth a 0=nth f 0/\c=b)/\qV (nth x268 0) false 1 b (λa=>qK 5 (fr' 3) b λc=>a [c] b) fun
 a d=>nth a 0=nth c 0/\d=b)/\qV (nth x268 0) false 1 b (λa=>qS P_ 26 [nth c 0,nth d 0,nth f 0] b λb c=>a [b] c) λb c=>q2 (qV (nth x268 0) false 1 c (λd=>qB
 .neq (nth a 0) (nth b 0) λa=>d [a] c) λa b=>qV v236 true 1 b (λc=>qP (nth x268 0) bT (nth a 0) λa=>c [a] b) λa b=>qP v236 (nth a 0) bF λa=>qI a
 (R bF b) (J (frOf (kq fr' [1,2,3,7,8,9] [])) b))
def z0k (R:AV->z00->Prop) (fr':Fr) (h':z00) (v349:AV) (v351:AV) (h352:z00):Prop :=qQ (λa=>qS P_ 24 [fr' 9,n8 100] h352
 λb c=>qI b (qG 0 (fr' 7) c λb=>qG 1 (fr' 8) c λd=>qY 3 b d c λb=>qT 3 v349 b c λb=>a (frOf (kq fr' [1,2,3,7,8,9] [(11,v349),(12,v351)])) b) (a (frOf
 (kq fr' [1,2,3,7,8,9] [(11,v349),(12,v351)])) c)) λa b=>qQ (λc=>qS P_ 24 [a 9,n8 115] b λb d=>qI b (qG 0 (a 7) d λb=>qG 2 (a 8) d λe=>qY 3 b e d fun
 b=>qT 3 (a 12) b d λb=>c (frOf (kq a [1,2,3,8,11,12] [])) b) (c (frOf (kq a [1,2,3,8,11,12] [])) d)) λa b=>qG 0 (a 8) b λc=>qC .eql c (n6 2) (q1 (qG 4 (a
 8) b λc=>qG 1 (a 3) b λd=>qn d λd=>qS P_ 12 [c,d] b λb c=>q2 (qV b true 1 c (λb=>qF 1 (a 3) λa=>b [a] c) λc d=>qV b true 1 d (λa=>qL (nth
 c 0) d λb=>a [b] d) λc d=>qV b true 1 d (λb=>qF 4 (a 8) λa=>b [a] d) λd e=>qV b true 1 e (λa=>qL (nth d 0) e λb=>a [b] e) λd e=>qV b true
 1 e (λa=>qX 3 (nth c 0) (nth d 0) λb=>a [b] e) λc d=>qV b true 1 d (λa=>qF 0 (nth c 0) λb=>a [b] d) λc d=>qV b true 1 d (λa=>qL (nth c 0) d fun
 b=>a [b] d) λc d=>qV b true 1 d (λb=>qF 0 (a 11) λa=>b [a] d) λd e=>qV b true 1 e (λa=>qL (nth d 0) e λb=>a [b] e) λd e=>qV b true 1 e (λa=>qE
 (nth c 0) (nth d 0) λb=>a [b] e) λc d=>qP b (nth c 0) bF λb=>qV b true 1 d (λb=>qF 1 (a 3) λa=>b [a] d) λc d=>qV b true 1 d (λa=>qL (nth c 0)
 d λb=>a [b] d) λc d=>qV b true 1 d (λb=>qF 4 (a 8) λa=>b [a] d) λd e=>qV b true 1 e (λa=>qL (nth d 0) e λb=>a [b] e) λd e=>qV b true 1 e (fun
 a=>qX 3 (nth c 0) (nth d 0) λb=>a [b] e) λc d=>qV b true 1 d (λa=>qF 1 (nth c 0) λb=>a [b] d) λc d=>qV b true 1 d (λa=>qL (nth c 0) d λb=>a [b]
 d) λc d=>qV b true 1 d (λb=>qF 1 (a 11) λa=>b [a] d) λa d=>qV b true 1 d (λb=>qL (nth a 0) d λa=>b [a] d) λa d=>qV b true 1 d (λb=>qE (nth
 c 0) (nth a 0) λa=>b [a] d) λa c=>qP b (nth a 0) bF λa=>R a c))) (qC .eql c (n6 5) (qG 4 (a 8) b λc=>qG 1 (a 3) b λa=>qn a λa=>qS P_ 12 [c,a] b
 λa b=>R a b) (qQ (λd=>qE c (n6 3) λe=>qI e (d (frOf (kq a [1,2,3,8,11,12] [(224,c),(265,e)])) b) (qE c (n6 6) λe=>d (frOf (kq a [1,2,3,8,11,12] [(224,c),(265,e)]))
 b)) λa b=>qI (a 265) (qQ (λc=>q1 (qG 0 (a 12) b λd=>qB .neq d (n6 4) λd=>qV d false 1 b (λc=>qF 1 (a 12) λa=>c [a] b) λb e=>qV d false 1 e (fun
 a=>qL (nth b 0) e λb=>a [b] e) λb e=>qV d false 1 e (λb=>qF 3 (a 8) λa=>b [a] e) λe f=>qV d false 1 f (λa=>qL (nth e 0) f λb=>a [b] f) λe
 f=>qV d false 1 f (λa=>qB .neq (nth b 0) (nth e 0) λb=>a [b] f) λb e=>qP d bT (nth b 0) λb=>qV b false 1 e (λb=>qF 4 (a 8) λa=>b [a] e) λd e=>qV
 b false 1 e (λa=>qL (nth d 0) e λb=>a [b] e) λd e=>qV b false 1 e (λb=>qF 0 (a 3) λa=>b [a] e) λe f=>qV b false 1 f (λa=>qL (nth e 0) f λb=>a
 [b] f) λe f=>qV b false 1 f (λb=>qF 3 (a 8) λa=>b [a] f) λf g=>qV b false 1 g (λa=>qL (nth f 0) g λb=>a [b] g) λf g=>qV b false 1 g (λa=>qX
 1 (nth e 0) (nth f 0) λb=>a [b] g) λe f=>qV b false 1 f (λa=>qL (nth e 0) f λb=>a [b] f) λe f=>qV b false 1 f (λa=>qn (nth e 0) λb=>a [b] f)
 λe f=>qV b false 1 f (λa=>qS P_ 12 [nth d 0,nth e 0] f λb c=>a [b] c) λd e=>q2 (qV b false 1 e (λa=>qN (nth d 0) λb=>a [b] e) λd e=>qP b bT (nth
 d 0) λb=>qI b (R bF e) (c (frOf (kq a [3,8,11] [])) e)))) λa b=>q1 (qH 0 (a 3) b λc d=>qH 3 (a 8) b λe f=>qX 1 d f λg=>qL g b λi=>qH 4 (a 8) b fun
 j k=>qX 3 i k λl=>qK 3 l b λm=>qA 46 [n0,n0,bF] b λb n=>(q4 3 l m n/\q3 j k n/\q3 g i n/\q3 e f n/\q3 c d n)/\qT 3 b m n λc=>q2 (qG 0 (a 8) c λd=>qE d (n6
 6) λd=>qU d false 6 c (λd=>qH 0 b c λb e=>qH 0 (a 11) c λa f=>qE e f λg=>d [b,e,a,f,g,g] c) λc e=>qU (nth c 5) true 5 e (λc=>qH 1 b e λb d=>qH
 1 (a 11) e λa f=>qE d f λg=>c [b,d,a,f,g] e) λa b=>qU d false 1 b (λd=>qP (nth c 5) (nth a 4) bF λa=>d [a] b) λa b=>qP d bT (nth a 0) λa=>R a
 b))) (qQ (λc=>qE (a 224) (n6 4) λd=>qI d (c (frOf (kq a [1,2,3,8,11,12,224] [(318,d)])) b) (qE (a 224) (n6 10) λd=>c (frOf (kq a [1,2,3,8,11,12,224] [(318,d)]))
 b)) λa b=>qI (a 318) (qG 0 (a 11) b λc=>qE c (n6 1) λc=>qU c true 3 b (λc=>qH 0 (a 12) b λa d=>qE d (n6 3) λe=>c [a,d,e] b) λa b=>qP c (nth a
 2) bF λa=>R a b) (qC .eql (a 224) (n6 7) (qG 0 (a 12) b λa=>qE a (n6 3) λa=>R a b) (qC .eql (a 224) (n6 8) (q1 (qG 0 (a 11) b λc=>qE c (n6 4) λc=>qV
 c true 1 b (λc=>qF 1 (a 11) λa=>c [a] b) λb d=>qV c true 1 d (λa=>qL (nth b 0) d λb=>a [b] d) λb d=>qV c true 1 d (λb=>qF 3 (a 8) λa=>b [a]
 d) λd e=>qV c true 1 e (λa=>qL (nth d 0) e λb=>a [b] e) λd e=>qV c true 1 e (λa=>qE (nth b 0) (nth d 0) λb=>a [b] e) λb d=>qP c (nth b 0) bF
 λb=>qV b true 1 d (λb=>qF 4 (a 8) λa=>b [a] d) λc d=>qV b true 1 d (λa=>qL (nth c 0) d λb=>a [b] d) λc d=>qV b true 1 d (λb=>qF 3 (a 3) fun
 a=>b [a] d) λd e=>qV b true 1 e (λa=>qL (nth d 0) e λb=>a [b] e) λd e=>qV b true 1 e (λa=>qn (nth d 0) λb=>a [b] e) λd e=>qV b true 1 e (fun
 a=>qS P_ 12 [nth c 0,nth d 0] e λb c=>a [b] c) λc d=>q2 (qP b (nth c 0) bF λb=>qV b true 1 d (λb=>qF 3 (a 3) λa=>b [a] d) λc d=>qV b true 1 d (fun
 a=>qL (nth c 0) d λb=>a [b] d) λc d=>qV b true 1 d (λb=>qF 4 (a 8) λa=>b [a] d) λd e=>qV b true 1 e (λa=>qL (nth d 0) e λb=>a [b] e) λd e=>z0g
 R a b c d e))) (qC .eql (a 224) (n6 9) (qG 0 (a 11) b λc=>qE c (n6 3) λc=>qU c true 6 b (λc=>qH 4 (a 8) b λd e=>qH 3 (a 3) b λa f=>qn f λg=>qS P_
 12 [e,g] b λb i=>c [d,e,a,f,g,b] i) λb d=>qP c (nth b 5) bF λb=>qU b true 10 d (λb=>qH 3 (a 3) d λc e=>qH 4 (a 8) d λf g=>qX 3 e g λi=>qK 3 i
 d λj=>q8 [(0,1),(1,1),(2,1)] [n0,n0,n0] [(0,a 1),(1,a 2),(2,n6 (-1))] λk=>qD (.flat [.int,.int,.int]) .eql j k λl=>b [c,e,f,g,i,j,a 1,a 2,k,l] d) λa c=>qP
 b (nth a 9) bF λa=>R a c) (qC .eql (a 224) (n6 15) (qG 4 (a 8) b λc=>qG 4 (a 3) b λd=>qn d λd=>qS P_ 12 [c,d] b λb c=>qU b true 9 c (λb=>qH 4 (a
 3) c λd e=>qH 4 (a 8) c λf g=>qX 3 e g λi=>qH 0 i c λj k=>qE k (a 1) λl=>b [d,e,f,g,i,j,k,a 1,l] c) λc d=>qP b (nth c 8) bF λb=>qU b true 9 d
 (λb=>qH 4 (a 3) d λc e=>qH 4 (a 8) d λf g=>qX 3 e g λi=>qH 1 i d λj k=>qE k (a 2) λl=>b [c,e,f,g,i,j,k,a 2,l] d) λa c=>z4r [b,nth a 8] (later
 (λa=>qP (nth a 0) (nth a 1) bF λa=>R a c) ())) (qC .eql (a 224) (n6 16) (qG 4 (a 8) b λc=>qG 4 (a 3) b λd=>qn d λd=>qS P_ 12 [c,d] b λb c=>qU b
 true 9 c (λb=>qH 4 (a 3) c λd e=>qH 4 (a 8) c λf g=>qX 3 e g λi=>qH 0 i c λj k=>qE k (a 1) λl=>b [d,e,f,g,i,j,k,a 1,l] c) λc d=>qP b (nth c 8)
 bF λb=>qU b true 9 d (λb=>qH 4 (a 3) d λc e=>qH 4 (a 8) d λf g=>qX 3 e g λi=>qH 2 i d λj k=>qE k (a 2) λl=>b [c,e,f,g,i,j,k,a 2,l] d) λa c=>z4r
 [b,nth a 8] (later (λa=>qP (nth a 0) (nth a 1) bF λa=>R a c) ())) (R bT b)))))))))
theorem z0r (H:qM true 28 a0 h λa b=>qG 2 a b λc=>qY 3 c a1 b λc=>qA 52 [.nils,.nils,n0] b λb d=>qT 3 b c d λc=>qG 1 b c λd=>qY
 8 d a2 c λd=>qA 49 [n0,n0,n0,n0,n0,n0,.nils,.nils] c λc e=>qT 8 c d e λd=>qQ (λe=>qG 0 c d λf=>qS P_ 23 [f] d λd f=>e (frOf [(1,a1),(2,a2),(3,a),(7,b),(8,c),(9,d)])
 f) λa b=>qQ (λc=>qE (a 9) (.str [63]) λd=>qU d false 4 b (λc=>qS P_ 24 [a 9,n8 100] b λb d=>qN b λe=>c [a 9,b,e,e] d) λb e=>qU (nth b 3) true
 3 e (λb=>qH 1 (a 8) e λa c=>qB .neq c n0 λd=>b [a,c,d] e) λe f=>qU d false 1 f (λa=>qP (nth b 3) (nth e 2) bF λb=>a [b] f) λb e=>qP d bT (nth
 b 0) λb=>qU b false 4 e (λb=>qS P_ 24 [a 9,n8 115] e λc d=>qN c λe=>b [a 9,c,e,e] d) λd e=>qU (nth d 3) true 3 e (λb=>qH 2 (a 8) e λa c=>qB .neq
 c n0 λd=>b [a,c,d] e) λe f=>qU b false 1 f (λa=>qP (nth d 3) (nth e 2) bF λb=>a [b] f) λd e=>qP b bT (nth d 0) λb=>qU b false 4 e (λb=>qS P_
 24 [a 9,n8 114] e λc d=>qN c λe=>b [a 9,c,e,e] d) λd e=>z4r [a 1,a 2,a 3,a 7,a 8,a 9,b,nth d 3] (later (λa=>qU (nth a 7) true 3 e (λb=>qH 3 (nth
 a 4) e λa c=>qB .neq c n0 λd=>b [a,c,d] e) λb d=>qU (nth a 6) false 1 d (λc=>qP (nth a 7) (nth b 2) bF λa=>c [a] d) λb d=>qP (nth a 6) bT (nth b
 0) λb=>qU b false 4 d (λb=>qS P_ 24 [nth a 5,n8 110] d λc d=>qN c λe=>b [nth a 5,c,e,e] d) λd e=>z0h R c a b d e) ())) λa b=>qG
 0 (a 7) b λc=>qn c λc=>qQ (λd=>qS P_ 24 [a 9,n8 100] b λb e=>qU b true 5 e (λb=>qH 1 (a 8) e λa d=>qS P_ 12 [d,c] e λe f=>qN e λg=>b [a,d,c,e,g]
 f) λe f=>qP b (nth e 4) bF λb=>qU b false 3 f (λb=>qS P_ 24 [a 9,n8 115] f λc d=>b [a 9,c,c] d) λe f=>qU (nth e 2) true 5 f (λb=>qH 2 (a 8) f fun
 a d=>qS P_ 12 [d,c] f λe f=>qN e λg=>b [a,d,c,e,g] f) λf g=>qU b false 1 g (λa=>qP (nth e 2) (nth f 4) bF λb=>a [b] g) λe f=>qP b bT (nth e 0) fun
 b=>qU b false 3 f (λb=>qS P_ 24 [a 9,n8 105] f λc d=>b [a 9,c,c] d) λe f=>z4r [a 1,a 2,a 3,a 7,a 8,a 9,c,b,nth e 2] (later (λa=>qU (nth a 8) true 5
 f (λb=>qH 6 (nth a 4) f λc d=>qS P_ 25 [d,nth a 6] f λe f=>qN e λg=>b [c,d,nth a 6,e,g] f) λb c=>qU (nth a 7) false 1 c (λd=>qP (nth a 8) (nth b
 4) bF λa=>d [a] c) λb c=>z0i R d a b c) ())) λa b=>qQ (λc=>q1 (qS P_ 24 [a 9,n8 116] b λb d=>q2 (qV b true 1 d (λb=>qF 5 (a
 8) λa=>b [a] d) λd e=>qV b true 1 e (λa=>qL (nth d 0) e λb=>a [b] e) λd e=>qV b true 1 e (λb=>qF 1 (a 7) λa=>b [a] e) λe f=>qV b true 1 f
 (λa=>qL (nth e 0) f λb=>a [b] f) λe f=>qV b true 1 f (λa=>qn (nth e 0) λb=>a [b] f) λe f=>qV b true 1 f (λa=>qS P_ 12 [nth d 0,nth e 0] f fun
 b c=>a [b] c) λd e=>q2 (qV b true 1 e (λa=>qN (nth d 0) λb=>a [b] e) λd e=>qV b true 1 e (λa=>a [nth d 0] e) λd e=>qV (nth d 0) false 1 e (λb=>qK
 5 (a 3) e λa=>b [a] e) λe f=>z0j R a c b d e f)))) λa b=>qG 0 (a 8) b λc=>qB .geq c (n6 2) λc=>qU c true 3 b (λc=>qH 0 (a 8)
 b λa d=>qB .leq d (n6 9) λe=>c [a,d,e] b) λb d=>qP c (nth b 2) bF λb=>qU b true 5 d (λb=>qK 5 (a 3) d λc=>qS P_ 26 [c,a 1,a 2] d λd e=>qB .lss
 d n0 λf=>b [c,a 1,a 2,d,f] e) λc d=>qP b (nth c 4) bF λb=>qI b (R bF d) (qQ (λb=>qG 0 (a 8) d λc=>qE c (n6 17) λc=>qG 1 (a 7) d λe=>qn e fun
 e=>qB .sub e (n6 1) λe=>qE (a 2) e λe=>qD .bool .neq c e λc=>qI c (R bF d) (b (frOf (kq a [1,2,3,7,8,9] [])) d)) λa b=>qA 46 [n0,n0,bF] b λc d=>qA
 46 [n0,n0,bF] d λd e=>z0k R a b c d e)):z01 P_ 13 [a0,a1,a2] h R:=cI ze2 z0d Tryd.func13 Tryd.ntmps13 Tryd.call13 (by
 kernel_rfl) (by kernel_rfl) H
end
end
section
open Go.Abs
section
variable (a0 s1 s12 s13 s20 s57 s58 s59 s71 s72 s73 s88 s89 s90 s121 s122 s123 s134 s135 s136 s214 s215 s216 s249 s250 s251 s304 s305 s306 s313 s314:AV) (h:z00) (R:AV->z00->Prop) (Q:z1z->Fr->z00->Prop)
def z1h:=mkG [1,25,30,36,42,48,58,68,72,82,89,96,101,107,122,129,135,145,146,153,166,167,215,250,260,261,273,274,305,313,320] [(3,[1]),(5,[1,57,58,59]),(10,[1,57,58,59,71,72,73]),(17,[1,88,89,90]),(22,[1,88,89,90,121,122,123]),(29,[1,134,135,136]),(33,[1,12,13,134,135,136]),(37,[1,12,13,134,135,136,214,215,216]),(44,[1,249,250,251]),(49,[1,17,19,249,250,251]),(53,[1,304,305,306]),(56,[1,20,304,305,306,313,314])]
 [3,33,49] [(1,[(14,[1,45,49])]),(19,[(14,[1,9,88,89,90,115,118])]),(34,[(11,[1,12,13,14,134,135,136,194,201])]),(39,[(9,[1,12,13,134,135,136,214,215,216,231,244])])]
noncomputable def z4w:=lpOf 5 Tryd.f7
noncomputable def z3b:=lpOf 10 Tryd.f7
noncomputable def z4e:=lpOf 17 Tryd.f7
noncomputable def z4f:=lpOf 22 Tryd.f7
noncomputable def z4g:=lpOf 29 Tryd.f7
noncomputable def z4h:=lpOf 37 Tryd.f7
noncomputable def z4i:=lpOf 44 Tryd.f7
noncomputable def z4j:=lpOf 53 Tryd.f7
noncomputable def z4k:=lpOf 56 Tryd.f7
theorem zd2 (H:qM true 28 a0 h λa b=>qQ (λc=>qG 0 a b λd=>qn d λd=>qB .gtr d (n6 6) λd=>qU d false 4 b (λc=>qH 1 a b λa d=>qn
 d λe=>qB .gtr e (n6 8) λf=>c [a,d,e,f] b) λb e=>qP d bT (nth b 3) λb=>qU b false 4 e (λb=>qH 2 a e λa c=>qn c λd=>qB .gtr d (n6 4) λf=>b [a,c,d,f]
 e) λd e=>qP b bT (nth d 3) λb=>qU b false 4 e (λb=>qH 3 a e λa c=>qn c λd=>qB .gtr d (n6 32) λf=>b [a,c,d,f] e) λd e=>qP b bT (nth d 3) λb=>qU
 b false 4 e (λb=>qH 4 a e λa c=>qn c λd=>qB .gtr d (n6 32) λf=>b [a,c,d,f] e) λd e=>z4r [a,b,nth d 3] (later (λa=>qP (nth a 1) bT (nth a 2) fun
 b=>qI b (R bF e) (c (frOf [(1,nth a 0)]) e)) ())) λa b=>qG 1 (a 1) b λc=>(1=0->[(0,Operand.tmp 52)]=[])/\z10 false ⟨23,1,24⟩ [.nils] 1 [(0,c)] b (later (fun
 b c=>qG 0 (a 1) c λd=>q1 (q7 false ⟨23,1,24⟩ b d c λb c=>qn b λd=>qw P_ 324 z4w [(1,a 1),(57,b),(58,d),(59,n0)] c (λa b c=>q5 a (qG
 2 (b 1) c λa=>qn a λd=>qw P_ 324 z4e [(1,b 1),(88,a),(89,d),(90,n0)] c (λa b c=>pIdx a 4 (pIdx 4 4 (qG 4 (b 1) c λa=>qn a λd=>qw
 P_ 324 z4g [(1,b 1),(134,a),(135,d),(136,n0)] c (λa b c=>pIdx a 8 (pIdx 8 8 (qG 3 (b 1) c λa=>qn a λd=>qw P_ 324 z4i
 [(1,b 1),(249,a),(250,d),(251,n0)] c (λa b c=>pIdx a 12 (pIdx 12 12 (qG 2 (b 1) c λa=>qn a λd=>qw P_ 324 z4j [(1,b 1),(304,a),(305,d),(306,n0)]
 c (λa _ b=>pIdx a 14 (pIdx 14 14 (R bT b) False) False) λa b=>R (a 2) b) False) False) λa b=>R (a 2) b) False) False) λa b=>R (a 2) b) False) False) fun
 a b=>R (a 2) b)) λa b=>R (a 2) b)) ())):z01 P_ 7 [a0] h R:=cI z1h z0d Tryd.func7 Tryd.ntmps7 Tryd.call7 (by kernel_rfl) (by kernel_rfl)
 H
theorem zaz (H:qC .lss s59 s58 (qZ 1 s57 s59 h λa=>qB .gtr s59 n0 λb=>qU b true 3 h (λb=>qn a λc=>qB .gtr c (n6 6) λd=>b [a,c,d]
 h) λc d=>qP b (nth c 2) bF λb=>qI b (Q .ret (frOf [(2,bF)]) d) (qn a λb=>qw P_ 324 z3b [(1,s1),(57,s57),(58,s58),(59,s59),(71,a),(72,b),(73,n0)]
 d (λa b c=>pIdx a 2 (pIdx 2 2 (qB .add (b 59) (n6 1) λa=>Q .normal (frOf (kq b [1,57,58] [(59,a)])) c) (pIdx 2 1 (qB .add (b 59) (n6 1) λa=>Q .normal (frOf
 (kq b [1,57,58] [(59,a)])) c) (Q (.exit 2) (frOf [(1,b 1)]) c))) False) λa b=>Q .ret (frOf [(2,a 2)]) b)) (Q (.exit 0) (frOf [(1,s1)]) h)):WP P_ 324 z4w
 (frOf [(1,s1),(57,s57),(58,s58),(59,s59)]) h Q:=z15 z1h [0] [1,57,58,59] [1] [2] z0d (by kernel_rfl) (Eq.mpr (by kernel_rfl) H)
theorem zab (H:qC .lss s73 s72 (qY 3 s71 s73 h λa=>qA 46 [n0,n0,bF] h λb c=>qT 3 b a c λa=>qG 2 b a λc=>qU c false 4 a (λc=>qK
 5 s1 a λd=>qK 3 b a λb=>qS P_ 11 [d,b] a λa e=>qN a λf=>c [d,b,a,f] e) λa b=>qP c bT (nth a 3) λa=>qI a (Q .ret (frOf [(2,bF)]) b) (qB .add s73
 (n6 1) λa=>Q .normal (frOf [(1,s1),(57,s57),(58,s58),(59,s59),(71,s71),(72,s72),(73,a)]) b)) (Q (.exit 2) (frOf [(1,s1),(57,s57),(58,s58),(59,s59)]) h)):WP P_
 324 z3b (frOf [(1,s1),(57,s57),(58,s58),(59,s59),(71,s71),(72,s72),(73,s73)]) h Q:=z15 z1h [2,1,0] [1,57,58,59,71,72,73]
 [1,57,58,59] [2] z0d (by kernel_rfl) (Eq.mpr (by kernel_rfl) H)
theorem zac (H:qC .lss s90 s89 (qY 3 s88 s90 h λa=>qA 52 [.nils,.nils,n0] h λb c=>qT 3 b a c λa=>qG 0 b a λc=>qn c λc=>qB .gtr
 c (n6 64) λc=>qU c false 4 a (λc=>qH 1 b a λb d=>qn d λe=>qB .lss e (n6 1) λf=>c [b,d,e,f] a) λa d=>qP c bT (nth a 3) λa=>qU a false 4 d (fun
 a=>qH 1 b d λb c=>qn c λe=>qB .gtr e (n6 256) λf=>a [b,c,e,f] d) λc d=>qP a bT (nth c 3) λa=>qU a false 3 d (λa=>qH 2 b d λb c=>qB .lss c n0
 λe=>a [b,c,e] d) λc d=>qP a bT (nth c 2) λa=>qU a false 3 d (λa=>qH 2 b d λb c=>qB .gtr c (n6 4096) λe=>a [b,c,e] d) λc d=>z4r [s1,b,s88,s89,s90,a,nth
 c 2] (later (λa=>qP (nth a 5) bT (nth a 6) λb=>qI b (Q .ret (frOf [(2,bF)]) d) (qG 0 (nth a 1) d λb=>qn b λc=>qw P_ 324 z4f [(1,nth
 a 0),(88,nth a 2),(89,nth a 3),(90,nth a 4),(121,b),(122,c),(123,n0)] d (λa b c=>pIdx a 6 (pIdx 6 6 (qB .add (b 90) (n6 1) λa=>Q .normal (frOf (kq b [1,88,89]
 [(90,a)])) c) (pIdx 6 5 (qB .add (b 90) (n6 1) λa=>Q .normal (frOf (kq b [1,88,89] [(90,a)])) c) (Q (.exit 6) (frOf [(1,b 1)]) c))) False) λa b=>Q .ret (frOf
 [(2,a 2)]) b)) ())) (Q (.exit 4) (frOf [(1,s1)]) h)):WP P_ 324 z4e (frOf [(1,s1),(88,s88),(89,s89),(90,s90)]) h Q:=z15 z1h
 [4] [1,88,89,90] [1] [2] z0d (by kernel_rfl) (Eq.mpr (by kernel_rfl) H)
theorem zad (H:qC .lss s123 s122 (qY 3 s121 s123 h λa=>qA 46 [n0,n0,bF] h λb c=>qT 3 b a c λa=>qK 5 s1 a λc=>qK 3 b a λb=>qS
 P_ 11 [c,b] a λa b=>qN a λa=>qI a (Q .ret (frOf [(2,bF)]) b) (qB .add s123 (n6 1) λa=>Q .normal (frOf [(1,s1),(88,s88),(89,s89),(90,s90),(121,s121),(122,s122),(123,a)])
 b)) (Q (.exit 6) (frOf [(1,s1),(88,s88),(89,s89),(90,s90)]) h)):WP P_ 324 z4f (frOf [(1,s1),(88,s88),(89,s89),(90,s90),(121,s121),(122,s122),(123,s123)])
 h Q:=z15 z1h [6,5,4] [1,88,89,90,121,122,123] [1,88,89,90] [2] z0d (by kernel_rfl) (Eq.mpr (by kernel_rfl) H)
theorem zae (H:qC .lss s136 s135 (qY 3 s134 s136 h λa=>qA 54 [n0,n0,n0] h λb c=>qT 3 b a c λa=>qQ (λc=>q1 (qG 0 b a λd=>qG 2
 s1 a λe=>qn e λe=>qS P_ 12 [d,e] a λa d=>q2 (qN a λa=>qV a false 1 d (λa=>qF 1 b λb=>a [b] d) λd e=>qV a false 1 e (λa=>qL (nth d 0) e fun
 b=>a [b] e) λd e=>qV a false 1 e (λa=>qF 2 b λb=>a [b] e) λe f=>qV a false 1 f (λa=>qL (nth e 0) f λb=>a [b] f) λe f=>qV a false 1 f (λa=>qS
 P_ 12 [nth d 0,nth e 0] f λb c=>a [b] c) λd e=>q2 (qV a false 1 e (λa=>qN (nth d 0) λb=>a [b] e) λd e=>qP a bT (nth d 0) λa=>qV a false 1 e (fun
 a=>qF 2 b λb=>a [b] e) λd e=>qV a false 1 e (λa=>qL (nth d 0) e λb=>a [b] e) λd e=>qV a false 1 e (λa=>qF 2 s1 λb=>a [b] e) λe f=>qV a false
 1 f (λa=>qL (nth e 0) f λb=>a [b] f) λe f=>qV a false 1 f (λa=>qF 0 b λb=>a [b] f) λf g=>qV a false 1 g (λa=>qL (nth f 0) g λb=>a [b] g) fun
 f g=>qV a false 1 g (λa=>qX 3 (nth e 0) (nth f 0) λb=>a [b] g) λe f=>qV a false 1 f (λa=>qF 1 (nth e 0) λb=>a [b] f) λe f=>qV a false 1 f (λa=>qL
 (nth e 0) f λb=>a [b] f) λe f=>qV a false 1 f (λa=>qn (nth e 0) λb=>a [b] f) λe f=>qV a false 1 f (λa=>qS P_ 12 [nth d 0,nth e 0] f λb c=>a [b]
 c) λd e=>q2 (qV a false 1 e (λa=>qN (nth d 0) λb=>a [b] e) λd e=>qP a bT (nth d 0) λa=>qI a (Q .ret (frOf [(2,bF)]) e) (c (frOf [(1,s1),(12,s136),(13,b),(134,s134),(135,s135),(136,s136)])
 e)))))) λa b=>qG 2 (a 1) b λc=>qG 0 (a 13) b λd=>qX 3 c d λc=>qG 1 c b λc=>qG 1 (a 13) b λd=>qX 8 c d λd=>qG 0 d b λd=>qB .neq d (n6 15) fun
 d=>qU d false 8 b (λd=>qH 1 (a 13) b λe f=>qX 8 c f λg=>qH 4 g b λi j=>qB .neq j (a 12) λk=>d [c,e,f,g,i,j,a 12,k] b) λb e=>qP d bT (nth b 7) fun
 b=>qU b false 7 e (λb=>qH 2 (a 13) e λa d=>qX 8 c d λf=>qH 0 f e λg i=>qB .neq i (n6 16) λj=>b [c,a,d,f,g,i,j] e) λd e=>z4r [a 1,a 12,a 13,c,a
 134,a 135,a 136,b,nth d 6] (later (λa=>qP (nth a 7) bT (nth a 8) λb=>qU b false 8 e (λb=>qH 2 (nth a 2) e λc d=>qX 8 (nth a 3) d λf=>qH 4 f e λg
 i=>qB .neq i (nth a 1) λj=>b [nth a 3,c,d,f,g,i,nth a 1,j] e) λc d=>qP b bT (nth c 7) λb=>qI b (Q .ret (frOf [(2,bF)]) d) (qG 4 (nth a 0) d λb=>qn b fun
 c=>qw P_ 324 z4h [(1,nth a 0),(12,nth a 1),(13,nth a 2),(134,nth a 4),(135,nth a 5),(136,nth a 6),(214,b),(215,c),(216,n0)] d (λa b c=>pIdx
 a 10 (pIdx 10 10 (qB .add (b 136) (n6 1) λa=>Q .normal (frOf (kq b [1,134,135] [(136,a)])) c) (pIdx 10 9 (qB .add (b 136) (n6 1) λa=>Q .normal (frOf (kq b [1,134,135]
 [(136,a)])) c) (Q (.exit 10) (frOf [(1,b 1)]) c))) False) λa b=>Q .ret (frOf [(2,a 2)]) b)) ())) (Q (.exit 8) (frOf [(1,s1)]) h)):WP P_ 324 z4g
 (frOf [(1,s1),(134,s134),(135,s135),(136,s136)]) h Q:=z15 z1h [8] [1,134,135,136] [1] [2] z0d (by kernel_rfl) (Eq.mpr (by kernel_rfl) H)
theorem zaf (H:qC .lss s216 s215 (qY 3 s214 s216 h λa=>qA 54 [n0,n0,n0] h λb c=>qT 3 b a c λa=>qB .neq s216 s12 λc=>qU c true 5
 a (λc=>qH 0 b a λb d=>qH 0 s13 a λe f=>qE d f λg=>c [b,d,e,f,g] a) λa d=>qP c (nth a 4) bF λa=>qU a true 6 d (λa=>qH 2 b d λb c=>qH 1 s13
 d λe f=>qB .lss c f λg=>a [b,c,e,f,g,g] d) λc d=>qU (nth c 5) false 5 d (λa=>qH 2 s13 d λc e=>qH 1 b d λb f=>qB .lss e f λg=>a [c,e,b,f,g] d)
 λb d=>qU a true 2 d (λa=>qP (nth c 5) bT (nth b 4) λb=>qN b λc=>a [b,c] d) λb c=>z4r [s1,s12,s13,s134,s135,s136,s214,s215,s216,a,nth b 1] (later
 (λa=>qP (nth a 9) (nth a 10) bF λb=>qI b (Q .ret (frOf [(2,bF)]) c) (qB .add (nth a 8) (n6 1) λb=>Q .normal (frOf [(1,nth a 0),(12,nth a 1),(13,nth a 2),(134,nth
 a 3),(135,nth a 4),(136,nth a 5),(214,nth a 6),(215,nth a 7),(216,b)]) c)) ())) (Q (.exit 10) (frOf [(1,s1),(134,s134),(135,s135),(136,s136)]) h)):WP P_ 324 z4h
 (frOf [(1,s1),(12,s12),(13,s13),(134,s134),(135,s135),(136,s136),(214,s214),(215,s215),(216,s216)]) h Q:=z15 z1h [10,9,8] [1,12,13,134,135,136,214,215,216]
 [1,134,135,136] [2] z0d (by kernel_rfl) (Eq.mpr (by kernel_rfl) H)
theorem zah (H:qC .lss s251 s250 (qY 3 s249 s251 h λa=>qA 59 [n0,n0,n0] h λb c=>qT 3 b a c λa=>q1 (qG 0 b a λc=>qG 2 s1 a λd=>qn
 d λd=>qS P_ 12 [c,d] a λa c=>q2 (qN a λa=>qV a false 1 c (λa=>qF 1 b λb=>a [b] c) λc d=>qV a false 1 d (λa=>qL (nth c 0) d λb=>a [b] d) fun
 c d=>qV a false 1 d (λa=>qF 2 s1 λb=>a [b] d) λd e=>qV a false 1 e (λa=>qL (nth d 0) e λb=>a [b] e) λd e=>qV a false 1 e (λa=>qF 0 b λb=>a
 [b] e) λe f=>qV a false 1 f (λa=>qL (nth e 0) f λb=>a [b] f) λe f=>qV a false 1 f (λa=>qX 3 (nth d 0) (nth e 0) λb=>a [b] f) λd e=>qV a false
 1 e (λa=>qF 1 (nth d 0) λb=>a [b] e) λd e=>qV a false 1 e (λa=>qL (nth d 0) e λb=>a [b] e) λd e=>qV a false 1 e (λa=>qn (nth d 0) λb=>a [b]
 e) λd e=>qV a false 1 e (λa=>qS P_ 12 [nth c 0,nth d 0] e λb c=>a [b] c) λc d=>q2 (qV a false 1 d (λa=>qN (nth c 0) λb=>a [b] d) λc d=>qP a bT
 (nth c 0) λa=>qI a (Q .ret (frOf [(2,bF)]) d) (qQ (λa=>q1 (qH 2 s1 d λc e=>qH 0 b d λf g=>qX 3 e g λi=>qH 1 i d λi j=>qH 1 b d λb k=>qX 8 j k
 λl=>qK 8 l d λm=>qA 49 [n0,n0,n0,n0,n0,n0,.nils,.nils] d λd n=>(q4 8 l m n/\q3 b k n/\q3 i j n/\q3 f g n/\q3 c e n)/\qT 8 d m n λb=>q2 (a (frOf [(1,s1),(17,s251),(19,d),(249,s249),(250,s250),(251,s251)])
 b))) λa b=>qG 4 (a 19) b λc=>qB .neq c (a 17) λc=>qU c false 4 b (λc=>qH 0 (a 19) b λa d=>qB .neq d (n6 8) λe=>c [a,d,e,e] b) λb d=>qU (nth b
 3) true 3 d (λb=>qH 0 (a 19) d λa c=>qB .neq c (n6 9) λe=>b [a,c,e] d) λd e=>qU c false 1 e (λa=>qP (nth b 3) (nth d 2) bF λb=>a [b] e) λb d=>qP
 c bT (nth b 0) λb=>qI b (Q .ret (frOf [(2,bF)]) d) (qB .add (a 251) (n6 1) λb=>Q .normal (frOf (kq a [1,249,250] [(251,b)])) d)))))) (Q (.exit 12) (frOf [(1,s1)])
 h)):WP P_ 324 z4i (frOf [(1,s1),(249,s249),(250,s250),(251,s251)]) h Q:=z15 z1h [12] [1,249,250,251] [1] [2] z0d (by kernel_rfl)
 (Eq.mpr (by kernel_rfl) H)
theorem zai (H:qC .lss s306 s305 (qY 3 s304 s306 h λa=>qA 52 [.nils,.nils,n0] h λb c=>qT 3 b a c λa=>qG 1 b a λb=>qn b λb=>qw
 P_ 324 z4k [(1,s1),(20,s306),(304,s304),(305,s305),(306,s306),(313,b),(314,n0)] a (λa b c=>pIdx a 16 (pIdx 16 16 (qB .add (b 306) (n6 1) fun
 a=>Q .normal (frOf (kq b [1,304,305] [(306,a)])) c) (pIdx 16 15 (qB .add (b 306) (n6 1) λa=>Q .normal (frOf (kq b [1,304,305] [(306,a)])) c) (Q (.exit 16) (frOf
 []) c))) False) λa b=>Q .ret (frOf [(2,a 2)]) b) (Q (.exit 14) (frOf []) h)):WP P_ 324 z4j (frOf [(1,s1),(304,s304),(305,s305),(306,s306)])
 h Q:=z15 z1h [14] [1,304,305,306] [] [2] z0d (by kernel_rfl) (Eq.mpr (by kernel_rfl) H)
theorem zaj (H:qC .lss s314 s313 (qK 5 s1 h λa=>qS P_ 13 [a,s20,s314] h λa b=>qN a λa=>qI a (Q .ret (frOf [(2,bF)]) b) (qB .add s314
 (n6 1) λa=>Q .normal (frOf [(1,s1),(20,s20),(304,s304),(305,s305),(306,s306),(313,s313),(314,a)]) b)) (Q (.exit 16) (frOf [(1,s1),(304,s304),(305,s305),(306,s306)])
 h)):WP P_ 324 z4k (frOf [(1,s1),(20,s20),(304,s304),(305,s305),(306,s306),(313,s313),(314,s314)]) h Q:=z15 z1h [16,15,14]
 [1,20,304,305,306,313,314] [1,304,305,306] [2] z0d (by kernel_rfl) (Eq.mpr (by kernel_rfl) H)
end
end
section
open Go.Abs
section
variable (a0 a1 a2 a3 s0 s1 s2 s3 s4 s5 s6 s7 s8 s9 s10 s11 s12 s13 s14 s19 s20 s26 s27 s28 s29 s30 s31 s35 s36 s37 s38 s41 s42 s43 s46 s47 s48 s50 s51 s52 s53 s54 s63 s64 s65 s90 s91 s92 s98 s99 s100 s149 s150 s151:AV) (h:z00) (R:AV->z00->Prop) (Q:z1z->Fr->z00->Prop)
def zhp:=mkG [1] [] [] [(1,[(15,[1,26])])]
theorem zgs (H:qM true 30 a0 h λa b=>qG 0 a b λc=>qB .geq c n0 λc=>qU c true 3 b (λc=>qH 0 a b λa d=>qB .leq d (n6 64) λe=>c [a,d,e]
 b) λb d=>qP c (nth b 2) bF λb=>qU b true 3 d (λb=>qH 1 a d λa c=>qB .geq c n0 λe=>b [a,c,e] d) λc d=>qP b (nth c 2) bF λb=>qU b true 3 d (fun
 b=>qH 1 a d λa c=>qB .leq c (n6 64) λe=>b [a,c,e] d) λc d=>qP b (nth c 2) bF λb=>qU b true 3 d (λb=>qH 2 a d λa c=>qB .geq c n0 λe=>b [a,c,e]
 d) λc d=>qP b (nth c 2) bF λb=>z4r [a,b] (later (λa=>qU (nth a 1) true 3 d (λb=>qH 2 (nth a 0) d λa c=>qB .leq c (n6 8) λe=>b [a,c,e] d) fun
 b c=>qP (nth a 1) (nth b 2) bF λa=>R a c) ())):z01 P_ 15 [a0] h R:=cI zhp z0d Tryd.func15 Tryd.ntmps15 Tryd.call15 (by kernel_rfl) (by kernel_rfl)
 H
def zt5:=mkG [1] [] [] []
theorem zrs (H:qM true 46 a0 h λa b=>qG 0 a b λc=>qE c (n6 4) λc=>qU c false 3 b (λc=>qH 0 a b λa d=>qE d (n6 3) λe=>c [a,d,e] b) λa
 b=>qP c bT (nth a 2) λa=>R a b):z01 P_ 52 [a0] h R:=cI zt5 z0d Tryd.func52 Tryd.ntmps52 Tryd.call52 (by kernel_rfl) (by kernel_rfl) H
def zj1:=mkG [] [] [] []
theorem zi1 (H:q1 (qO a1 λa=>qL a h λa=>qB .or a a2 λa=>qO a1 λb=>qL b h λb=>qC .neq a b (qO a1 λa=>qL a h λa=>qB .or a a2 fun
 a=>qO a1 λb=>qT 1 b a h λa=>qO a0 λb=>qF 8 b λb=>qT 1 b bT a λa=>R (.tup []) a) (R (.tup []) h))):z01 P_ 53 [a0,a1,a2] h R:=cI zj1
 z0d Tryd.func53 Tryd.ntmps53 Tryd.call53 (by kernel_rfl) (by kernel_rfl) H
def zic:=mkG [11,12] [(0,[0,1])] [] []
noncomputable def zee:=lpOf 0 Tryd.f76
theorem zpg (H:qw P_ 14 zee [(0,a0),(1,a1)] h (λa _ b=>q5 a (R (.tup []) b)) λ_ a=>R (.tup []) a):z01 P_ 76 [a0,a1] h R:=cI zic
 z0d Tryd.func76 Tryd.ntmps76 Tryd.call76 (by kernel_rfl) (by kernel_rfl) H
theorem zja (H:qL s1 h λa=>qC .neq a (nU 0) (qL s1 h λa=>qS P_ 56 [a] h λa b=>z7d P_ s0 [a] b (later (λa b=>qN a λa=>qI a (Q .ret (frOf
 []) b) (qL s1 b λa=>qL s1 b λc=>qB .sub c (nU 1) λc=>qB .and a c λa=>qT 1 s1 a b λa=>Q .normal (frOf [(0,s0),(1,s1)]) a)) ())) (Q (.exit 0) (frOf [])
 h)):WP P_ 14 zee (frOf [(0,s0),(1,s1)]) h Q:=z15 zic [0] [0,1] [] [] z0d (by kernel_rfl) (Eq.mpr (by kernel_rfl) H)
def g_pts_Each:=mkG [] [] [] []
theorem ztq (H:qM false 89 a0 h λa b=>R (.fn (Fn.func 76) [] [a]) b):z01 P_ 57 [a0] h R:=cI g_pts_Each z0d Tryd.func57 Tryd.ntmps57 Tryd.call57 (by
 kernel_rfl) (by kernel_rfl) H
def zav:=mkG [11,12] [(3,[0,1,7,11,12,13])] [] []
noncomputable def z92:=lpOf 3 Tryd.f75
theorem zgw (H:qS P_ 85 [a2] h λa b=>qn a λc=>qw P_ 32 z92 [(0,a0),(1,a1),(7,nU 0),(11,a),(12,c),(13,n0)] b (λa b c=>q5 a
 (R (b 7) c)) λa b=>R (a 6) b):z01 P_ 75 [a0,a1,a2] h R:=cI zav z0d Tryd.func75 Tryd.ntmps75 Tryd.call75 (by kernel_rfl) (by kernel_rfl) H
theorem zd8 (H:qC .lss s13 s12 (qZ 1 s11 s13 h λa=>qO s0 λb=>qF 5 b λb=>qG 0 b h λb=>qZ 1 b s1 h λb=>qZ 1 b a h λa=>qB .or s7
 a λa=>qB .add s13 (n6 1) λb=>Q .normal (frOf [(0,s0),(1,s1),(7,a),(11,s11),(12,s12),(13,b)]) h) (Q (.exit 0) (frOf [(7,s7)]) h)):WP P_ 32 z92
 (frOf [(0,s0),(1,s1),(7,s7),(11,s11),(12,s12),(13,s13)]) h Q:=z15 zav [0] [0,1,7,11,12,13] [7] [6] z0d (by kernel_rfl) (Eq.mpr (by kernel_rfl)
 H)
def z7g:=mkG [3,5,17,47,63] [(2000011,[3,5,6,7,47]),(11,[3,5,7,48]),(12,[3,5,7,8])] [] []
noncomputable def z3s:Code:=((z6u 11 (zcn Tryd.f54)).map λr=>r.2.2.1).getD .skip
noncomputable def z3t:Code:=((z6u 11 (zcn Tryd.f54)).map λr=>r.2.2.2).getD .skip
theorem zgx (H:qM true 83 a0 h λa b=>qM true 49 a2 b λb c=>qG 0 b c λd=>qC .eql d (n6 1) (qL a c λa=>qG 6 b c λb=>qS P_ 75 [a,a1,b]
 c λa b=>R a b) (qC .eql d (n6 2) (q1 (qL a c λa=>qO a λa=>qF 5 a λa=>qG 1 a c λa=>qG 4 b c λb=>qZ 1 a b c λa=>R a c)) (qE d (n6 8) λe=>qI
 e (qI e (qG 4 b c λa=>qB .shl (nU 1) a λa=>R a c) (qA 89 [nU 0] c λc d=>qT 1 c (nU 0) d λd=>q1 (qL a d λe=>qO e λe=>qF 5 e λe=>qG 0 e d λe=>qZ
 1 e a1 d λe=>qG 2 b d λf=>qZ 1 e f d λe=>qS P_ 57 [e] d λd e=>q2 (WP P_ 81 (Code.rangeFunc (Operand.tmp 47) #[48] z3s z3t)
 (frOf [(3,a),(5,b),(6,nU 0),(7,c),(47,d)]) e (z7e (later (λa b=>qL (a 7) b λa=>R a b) ()) (later (λ_ _ _=>False) ()) (later (λa b=>R (a 6) b) ()))))))
 (qC .eql d (n6 9) (qG 4 b c λa=>qB .shl (nU 1) a λa=>R a c) (qA 89 [nU 0] c λc d=>qT 1 c (nU 0) d λd=>q1 (qL a d λe=>qO e λe=>qF 5 e λe=>qG 0
 e d λe=>qZ 1 e a1 d λe=>qG 2 b d λf=>qZ 1 e f d λe=>qS P_ 57 [e] d λd e=>q2 (WP P_ 81 (Code.rangeFunc (Operand.tmp 47) #[48] z3s z3t)
 (frOf [(3,a),(5,b),(6,nU 0),(7,c),(47,d)]) e (z7e (later (λa b=>qL (a 7) b λa=>R a b) ()) (later (λ_ _ _=>False) ()) (later (λa b=>R (a 6) b) ()))))))))):z01
 P_ 54 [a0,a1,a2] h R:=cI z7g z0d Tryd.func54 Tryd.ntmps54 Tryd.call54 (by kernel_rfl) (by kernel_rfl) H
theorem zcj (H:Q .normal (frOf [(3,s3),(5,s5),(7,s7),(8,s48)]) h):WP P_ 81 z3s (frOf [(3,s3),(5,s5),(7,s7),(48,s48)]) h Q:=z15
 z7g [1] [3,5,7,8] [] [6] z0d (by kernel_rfl) (Eq.mpr (by kernel_rfl) H)
theorem zck (H:q1 (qG 0 s5 h λa=>qE a (n6 3) λa=>qV a true 1 h (λa=>qF 4 s5 λb=>a [b] h) λb c=>qV a true 1 c (λa=>qL (nth b 0)
 c λb=>a [b] c) λb c=>qV a true 1 c (λa=>qL s3 c λb=>a [b] c) λc d=>qV a true 1 d (λa=>qO (nth c 0) λb=>a [b] d) λc d=>qV a true 1 d (λa=>qF
 5 (nth c 0) λb=>a [b] d) λc d=>qV a true 1 d (λa=>qF 2 (nth c 0) λb=>a [b] d) λc d=>qV a true 1 d (λa=>qL (nth c 0) d λb=>a [b] d) λc d=>qV
 a true 1 d (λa=>a [s8] d) λd e=>qV a true 1 e (λa=>qX 1 (nth c 0) (nth d 0) λb=>a [b] e) λc d=>qV a true 1 d (λa=>qL (nth c 0) d λb=>a [b] d)
 λc d=>qV a true 1 d (λa=>qn (nth c 0) λb=>a [b] d) λc d=>qV a true 1 d (λa=>qB .lss (nth b 0) (nth c 0) λb=>a [b] d) λb c=>qP a (nth b 0) bF
 λa=>qI a (q1 (qL s7 c λa=>qL s3 c λb=>qO b λb=>qF 5 b λb=>qG 2 b c λb=>qZ 1 b s8 c λb=>qG 4 s5 c λd=>qZ 1 b d c λb=>qB .or a b λa=>qT
 1 s7 a c λa=>q2 (Q .normal (frOf [(3,s3),(5,s5),(7,s7),(8,s8)]) a))) (Q .normal (frOf [(3,s3),(5,s5),(7,s7),(8,s8)]) c))):WP P_ 81 z3t (frOf [(3,s3),(5,s5),(7,s7),(8,s8)])
 h Q:=z15 z7g [1] [3,5,7,8] [] [6] z0d (by kernel_rfl) (Eq.mpr (by kernel_rfl) H)
def z6p:=mkG [3,5,12,25,36,50,64,91] [(2000007,[3,5,6,64]),(7,[3,5,6,65]),(8,[3,5,6,7])] [] []
noncomputable def z6b:Code:=((z6u 7 (zcn Tryd.f55)).map λr=>r.2.2.1).getD .skip
noncomputable def z6c:Code:=((z6u 7 (zcn Tryd.f55)).map λr=>r.2.2.2).getD .skip
theorem zfc (H:qM true 83 a0 h λa b=>qM true 49 a2 b λb c=>qL a c λd=>qG 6 b c λe=>qS P_ 75 [d,a1,e] c λc d=>qA 89 [nU 0] d λd e=>qT
 1 d c e λc=>qG 0 b c λe=>qC .eql e (n6 5) (q1 (qL a c λe=>qO e λe=>qF 0 e λe=>qG 1 e c λe=>qG 4 b c λf=>qY 3 e f c λe=>qS P_ 52 [e] c fun
 c e=>q2 (qI c (q1 (qL a e λc=>qL a e λa=>qO a λa=>qF 5 a λa=>qG 1 a e λa=>qG 4 b e λb=>qX 1 a b λa=>qL d e λb=>qS P_ 53 [c,a,b] e λ_ a=>q2
 (R (.tup []) a))) (R (.tup []) e)))) (q1 (qL a c λe=>qO e λe=>qF 0 e λe=>qG 0 e c λe=>qG 3 b c λf=>qZ 1 e f c λe=>qG 4 b c λf=>qY 3 e f c fun
 e=>qS P_ 52 [e] c λc e=>q2 (qN c λc=>qI c (R (.tup []) e) (q1 (qL a e λc=>qO c λc=>qF 5 c λc=>qG 0 c e λc=>qZ 1 c a1 e λc=>qG 2 b e λf=>qZ
 1 c f e λc=>qS P_ 57 [c] e λc e=>q2 (WP P_ 92 (Code.rangeFunc (Operand.tmp 64) #[65] z6b z6c) (frOf [(3,a),(5,b),(6,d),(64,c)])
 e (z7e (later (λ_ a=>R (.tup []) a) ()) (later (λ_ _ _=>False) ()) (later (λ_ a=>R (.tup []) a) ()))))))))):z01 P_ 55 [a0,a1,a2] h R:=cI z6p
 z0d Tryd.func55 Tryd.ntmps55 Tryd.call55 (by kernel_rfl) (by kernel_rfl) H
theorem zcl (H:Q .normal (frOf [(3,s3),(5,s5),(6,s6),(7,s65)]) h):WP P_ 92 z6b (frOf [(3,s3),(5,s5),(6,s6),(65,s65)]) h Q:=z15
 z6p [0] [3,5,6,7] [] [] z0d (by kernel_rfl) (Eq.mpr (by kernel_rfl) H)
theorem zcm (H:q1 (qL s3 h λa=>qO a λa=>qF 0 a λa=>qG 3 a h λa=>qX 3 a s7 λa=>qG 2 a h λa=>qG 3 s5 h λb=>qC .eql a b (q1 (qL
 s3 h λa=>qL s3 h λb=>qO b λb=>qF 5 b λb=>qG 2 b h λb=>qZ 1 b s7 h λb=>qG 4 s5 h λc=>qX 1 b c λb=>qL s6 h λc=>qS P_ 53 [a,b,c] h λ_ a=>q2
 (Q .normal (frOf [(3,s3),(5,s5),(6,s6),(7,s7)]) a))) (Q .normal (frOf [(3,s3),(5,s5),(6,s6),(7,s7)]) h))):WP P_ 92 z6c (frOf [(3,s3),(5,s5),(6,s6),(7,s7)])
 h Q:=z15 z6p [0] [3,5,6,7] [] [] z0d (by kernel_rfl) (Eq.mpr (by kernel_rfl) H)
def zhq:=mkG [5,8,24,40,41,53] [] [] []
theorem zgy (H:qM true 49 a2 h λa b=>qK 8 a b λc=>qS P_ 51 [c] b λb c=>qB .geq b n0 λd=>qU d true 13 c (λa=>qO a0 λd=>qF 0 d fun
 e=>qH 2 e c λf g=>qX 3 g a1 λi=>qH 0 i c λj k=>qX 3 k b λl=>qK 3 l c λm=>qS P_ 52 [m] c λc n=>a [a0,d,e,f,g,a1,i,j,k,b,l,m,c] n) λc e=>qP d (nth
 c 12) bF λc=>qI c (q1 (qO a0 λc=>qF 5 c λc=>qH 0 c e λc d=>qX 1 d a1 λf=>qL f e λg=>qX 1 g b λb=>qK 8 a e λi=>qS P_ 54 [a0,a1,i] e λe i=>(q3
 f g i/\q3 c d i)/\qS P_ 53 [a0,b,e] i λ_ b=>q2 (qG 0 a b λc=>qE c (n6 5) λc=>qU c false 3 b (λc=>qH 0 a b λa d=>qE d (n6 6) λe=>c [a,d,e] b) λb
 d=>qP c bT (nth b 2) λb=>qI b (qK 8 a d λa=>qS P_ 55 [a0,a1,a] d λ_ a=>R (.tup []) a) (R (.tup []) d)))) (qG 0 a e λb=>qE b (n6 5) λb=>qU b false 3
 e (λb=>qH 0 a e λa c=>qE c (n6 6) λd=>b [a,c,d] e) λc d=>qP b bT (nth c 2) λb=>qI b (qK 8 a d λa=>qS P_ 55 [a0,a1,a] d λ_ a=>R (.tup []) a) (R
 (.tup []) d))):z01 P_ 31 [a0,a1,a2] h R:=cI zhq z0d Tryd.func31 Tryd.ntmps31 Tryd.call31 (by kernel_rfl) (by kernel_rfl) H
def z7f:=mkG [1,14,23,30,43,45,46,53,67,76,77,91,99,107] [(6,[1,2,3,29,30,31]),(11,[1,2,3,52,53,54]),(18,[1,2,3]),(21,[1,2,3,90,91,92]),(24,[1,2,3,9,90,91,92,98,99,100])]
 [] []
noncomputable def zba:=lpOf 6 Tryd.f16
noncomputable def za5:=lpOf 11 Tryd.f16
noncomputable def za6:=lpOf 18 Tryd.f16
noncomputable def za7:=lpOf 21 Tryd.f16
noncomputable def za8:=lpOf 24 Tryd.f16
theorem zrr (H:qM true 28 a0 h λa b=>qA 64 [.nils,.nils,.nils] b λb c=>qK 5 a c λd=>qS P_ 14 [d] c λc d=>qN c λc=>qI c (q8 [(0,1),(1,1),(2,1)]
 [.nils,.nils,.nils] [] λa=>qT 3 b a d λa=>qK 3 b a λb=>R b a) (qK 5 a d λc=>q8 [(0,5),(5,3),(8,1)] [.nils,.nils,.nils,.nils,.nils,.nils,.nils,.nils,bF]
 [(0,c),(2,bT)] λc=>qM false 85 c d λc d=>qG 1 a d λe=>qn e λe=>q6 ⟨89,1,8⟩ [nU 0] e e d λd e=>qO c λf=>qF 5 f λf=>qF 1 f λf=>qT 1 f d e fun
 d=>qG 2 a d λe=>qn e λf=>qw P_ 114 zba [(1,a),(2,b),(3,c),(29,e),(30,f),(31,n0)] d (λa b c=>q5 a (qG 3 (b 1) c λa=>qn a λd=>qw P_ 114 za5
 (kq b [1,2,3] [(52,a),(53,d),(54,n0)]) c (λa b c=>pIdx a 2 (pIdx 2 2 (qw P_ 114 za6 (kq b [1,2,3] []) c (λa b c=>pIdx a 4 (pIdx 4 4 (qO (b 3) fun
 a=>qF 5 a λa=>qK 3 a c λa=>qT 3 (b 2) a c λa=>qK 3 (b 2) a λb=>R b a) False) False) λa b=>qK 3 (a 2) b λa=>R a b) False) False) λa b=>qK 3 (a
 2) b λa=>R a b)) λa b=>qK 3 (a 2) b λa=>R a b)):z01 P_ 16 [a0] h R:=cI z7f z0d Tryd.func16 Tryd.ntmps16 Tryd.call16 (by kernel_rfl) (by kernel_rfl)
 H
theorem zl6 (H:qC .lss s31 s30 (qY 3 s29 s31 h λa=>qA 52 [.nils,.nils,n0] h λb c=>qT 3 b a c λa=>q1 (qO s3 λc=>qF 5 c λc=>qH 0 c a fun
 c d=>qG 0 b a λb=>qn b λb=>q6 ⟨89,1,8⟩ [nU 0] b b a λa b=>q3 c d b/\(1=0->[(0,Operand.tmp 44)]=[])/\z10 true ⟨62,1,24⟩ [.nils] 1 [(0,a)] b (later (fun
 a b=>q1 (q7 true ⟨62,1,24⟩ d a b λa b=>q2 (qO s3 λc=>qF 5 c λc=>qF 0 c λc=>qT 1 c a b λa=>q2 (qB .add s31 (n6 1) λb=>Q .normal (frOf [(1,s1),(2,s2),(3,s3),(29,s29),(30,s30),(31,b)])
 a)))) ()))) (Q (.exit 0) (frOf [(1,s1),(2,s2),(3,s3)]) h)):WP P_ 114 zba (frOf [(1,s1),(2,s2),(3,s3),(29,s29),(30,s30),(31,s31)]) h Q:=z15 z7f
 [0] [1,2,3,29,30,31] [1,2,3] [2] z0d (by kernel_rfl) (Eq.mpr (by kernel_rfl) H)
theorem zjb (H:qC .lss s54 s53 (qY 3 s52 s54 h λa=>qA 59 [n0,n0,n0] h λb c=>qT 3 b a c λa=>qG 2 b a λc=>qC .geq c n0 (qG 0 s1 a λc=>qG
 2 b a λb=>qZ 1 c b a λb=>qn b λb=>q1 (qO s3 λc=>qF 5 c λc=>qH 2 c a λc d=>q6 ⟨89,1,8⟩ [nU 0] b b a λa b=>q3 c d b/\(1=0->[(0,Operand.tmp 75)]=[])/\z10
 true ⟨62,1,24⟩ [.nils] 1 [(0,a)] b (later (λa b=>q1 (q7 true ⟨62,1,24⟩ d a b λa b=>q2 (qO s3 λc=>qF 5 c λc=>qF 2 c λc=>qT 1 c a b λa=>q2 (qB .add
 s54 (n6 1) λb=>Q .normal (frOf [(1,s1),(2,s2),(3,s3),(52,s52),(53,s53),(54,b)]) a)))) ()))) (q1 (qO s3 λb=>qF 5 b λb=>qH 2 b a λb c=>q6 ⟨89,1,8⟩ [nU 0]
 n0 n0 a λa d=>q3 b c d/\(1=0->[(0,Operand.tmp 75)]=[])/\z10 true ⟨62,1,24⟩ [.nils] 1 [(0,a)] d (later (λa b=>q1 (q7 true ⟨62,1,24⟩ c a b λa b=>q2 (qO s3
 λc=>qF 5 c λc=>qF 2 c λc=>qT 1 c a b λa=>q2 (qB .add s54 (n6 1) λb=>Q .normal (frOf [(1,s1),(2,s2),(3,s3),(52,s52),(53,s53),(54,b)]) a)))) ())))) (Q
 (.exit 2) (frOf [(1,s1),(2,s2),(3,s3)]) h)):WP P_ 114 za5 (frOf [(1,s1),(2,s2),(3,s3),(52,s52),(53,s53),(54,s54)]) h Q:=z15 z7f [2] [1,2,3,52,53,54]
 [1,2,3] [2] z0d (by kernel_rfl) (Eq.mpr (by kernel_rfl) H)
theorem zjc (H:qO s3 λa=>qG 8 a h λa=>qI a (qO s3 λa=>qF 8 a λa=>qT 1 a bF h λa=>qG 2 s1 a λb=>qn b λc=>qw P_ 114 za7
 [(1,s1),(2,s2),(3,s3),(90,b),(91,c),(92,n0)] a (λa b c=>pIdx a 6 (pIdx 6 6 (Q .normal (frOf (kq b [1,2,3] [])) c) (pIdx 6 5 (Q .normal (frOf (kq b [1,2,3] []))
 c) (Q (.exit 6) (frOf (kq b [2,3] [])) c))) False) λa b=>Q .ret (frOf [(2,a 2)]) b) (Q (.exit 4) (frOf [(2,s2),(3,s3)]) h)):WP P_ 114 za6 (frOf [(1,s1),(2,s2),(3,s3)])
 h Q:=z15 z7f [4] [1,2,3] [2,3] [2] z0d (by kernel_rfl) (Eq.mpr (by kernel_rfl) H)
theorem zjd (H:qC .lss s92 s91 (qY 3 s90 s92 h λa=>qA 52 [.nils,.nils,n0] h λb c=>qT 3 b a c λa=>qG 1 b a λb=>qn b λc=>qw P_ 114 za8
 [(1,s1),(2,s2),(3,s3),(9,s92),(90,s90),(91,s91),(92,s92),(98,b),(99,c),(100,n0)] a (λa b c=>pIdx a 8 (pIdx 8 8 (qB .add (b 92) (n6 1) λa=>Q .normal (frOf (kq
 b [1,2,3,90,91] [(92,a)])) c) (pIdx 8 7 (qB .add (b 92) (n6 1) λa=>Q .normal (frOf (kq b [1,2,3,90,91] [(92,a)])) c) (Q (.exit 8) (frOf (kq b [1,2,3] [])) c)))
 False) λa b=>Q .ret (frOf [(2,a 2)]) b) (Q (.exit 6) (frOf [(1,s1),(2,s2),(3,s3)]) h)):WP P_ 114 za7 (frOf [(1,s1),(2,s2),(3,s3),(90,s90),(91,s91),(92,s92)])
 h Q:=z15 z7f [6,5,4] [1,2,3,90,91,92] [1,2,3] [2] z0d (by kernel_rfl) (Eq.mpr (by kernel_rfl) H)
theorem zje (H:qC .lss s100 s99 (qY 8 s98 s100 h λa=>qA 49 [n0,n0,n0,n0,n0,n0,.nils,.nils] h λb c=>qT 8 b a c λa=>qK 8 b a λb=>qS P_ 31 [s3,s9,b]
 a λ_ a=>qB .add s100 (n6 1) λb=>Q .normal (frOf [(1,s1),(2,s2),(3,s3),(9,s9),(90,s90),(91,s91),(92,s92),(98,s98),(99,s99),(100,b)]) a) (Q (.exit 8) (frOf [(1,s1),(2,s2),(3,s3),(90,s90),(91,s91),(92,s92)])
 h)):WP P_ 114 za8 (frOf [(1,s1),(2,s2),(3,s3),(9,s9),(90,s90),(91,s91),(92,s92),(98,s98),(99,s99),(100,s100)]) h Q:=z15 z7f [8,7,6,5,4] [1,2,3,9,90,91,92,98,99,100]
 [1,2,3,90,91,92] [2] z0d (by kernel_rfl) (Eq.mpr (by kernel_rfl) H)
def zt1:=mkG [1,10,14] [] [] []
theorem zqb (H:qM true 64 a0 h λa b=>qG 1 a b λc=>(1=0->[(0,Operand.tmp 5)]=[])/\z10 false ⟨62,1,24⟩ [.nils] 1 [(0,c)] b (later (λb c=>qG 0 a
 c λd=>q1 (q7 true ⟨62,1,24⟩ b d c λb c=>qG 2 a c λa=>q1 (q7 true ⟨62,1,24⟩ b a c λa b=>R a b))) ())):z01 P_ 32 [a0] h R:=cI zt1 z0d Tryd.func32
 Tryd.ntmps32 Tryd.call32 (by kernel_rfl) (by kernel_rfl) H
def z9v:=mkG [] [(1,[0,1])] [] []
noncomputable def z8g:=lpOf 1 Tryd.f34
theorem zes (H:qw P_ 26 z8g [(0,a0),(1,a1)] h (λa b c=>q5 a (R (b 1) c)) λa b=>R (a 4) b):z01 P_ 34 [a0,a1] h R:=cI z9v
 z0d Tryd.func34 Tryd.ntmps34 Tryd.call34 (by kernel_rfl) (by kernel_rfl) H
theorem zcf (H:qZ 1 s0 s1 h λa=>qC .neq a s1 (qZ 1 s0 s1 h λa=>qZ 1 s0 a h λa=>qX 1 s0 s1 λb=>qT 1 b a h λa=>qZ 1 s0 s1 a λb=>Q
 .normal (frOf [(0,s0),(1,b)]) a) (Q (.exit 0) (frOf [(1,s1)]) h)):WP P_ 26 z8g (frOf [(0,s0),(1,s1)]) h Q:=z15 z9v [0] [0,1] [1]
 [4] z0d (by kernel_rfl) (Eq.mpr (by kernel_rfl) H)
def z6f:=mkG [2,11,13,17,22,27,30,34,37] [(2000004,[2,4,13]),(4,[2,4,14]),(5,[2,4,5])] [] []
noncomputable def z3h:Code:=((z6u 4 (zcn Tryd.f33)).map λr=>r.2.2.1).getD .skip
noncomputable def z3i:Code:=((z6u 4 (zcn Tryd.f33)).map λr=>r.2.2.2).getD .skip
theorem zdv (H:qM true 87 a0 h λa b=>qC .eql a1 (nU 0) (R (.tup []) b) (qS P_ 56 [a1] b λb c=>qA 3 [n0] c λc d=>qT 1 c b d λb=>qS P_
 57 [a1] b λb d=>WP P_ 39 (Code.rangeFunc (Operand.tmp 13) #[14] z3h z3i) (frOf [(2,a),(4,c),(13,b)]) d (z7e (later (λ_
 a=>R (.tup []) a) ()) (later (λ_ _ _=>False) ()) (later (λ_ a=>R (.tup []) a) ())))):z01 P_ 33 [a0,a1] h R:=cI z6f z0d Tryd.func33 Tryd.ntmps33
 Tryd.call33 (by kernel_rfl) (by kernel_rfl) H
theorem zbd (H:Q .normal (frOf [(2,s2),(4,s4),(5,s14)]) h):WP P_ 39 z3h (frOf [(2,s2),(4,s4),(14,s14)]) h Q:=z15 z6f
 [0] [2,4,5] [] [] z0d (by kernel_rfl) (Eq.mpr (by kernel_rfl) H)
theorem zbe (H:qL s2 h λa=>qn a λa=>qB .lss s5 a λa=>qU a true 4 h (λa=>qL s4 h λb=>qL s2 h λc=>qn c λd=>qB .lss b d fun
 e=>a [b,c,d,e] h) λb c=>qP a (nth b 3) bF λa=>qI a (q1 (qL s2 c λa=>qL s4 c λb=>qL s2 c λd=>qS P_ 34 [a,b] c λa b=>q3 s2 d b/\qS P_ 34 [d,s5] b fun
 b c=>q2 (qL s2 c λd=>z8d (maxA [a,b]) (later (λe=>z8d (minA [a,b]) (later (λa=>qX 1 d e λb=>qT 1 b a c λa=>Q .normal (frOf [(2,s2),(4,s4),(5,s5)])
 a) ())) ())))) (Q .normal (frOf [(2,s2),(4,s4),(5,s5)]) c)):WP P_ 39 z3i (frOf [(2,s2),(4,s4),(5,s5)]) h Q:=z15 z6f [0] [2,4,5]
 [] [] z0d (by kernel_rfl) (Eq.mpr (by kernel_rfl) H)
def z6o:=mkG [3,16,19,29,30,36,43,47,50,56] [(3,[3,5,19,20]),(8,[5,29,30,31]),(11,[5,29,30,31,35,36,37]),(18,[5,11,12,50,51])] [] []
noncomputable def zco:=lpOf 3 Tryd.f17
noncomputable def zcp:=lpOf 8 Tryd.f17
noncomputable def z8b:=lpOf 11 Tryd.f17
noncomputable def zc9:=lpOf 18 Tryd.f17
theorem zlv (H:qM true 64 a1 h λa b=>z8d (maxA [a0,n0]) (later (λc=>q6 ⟨3,1,8⟩ [n0] c c b λb c=>qn b λd=>qw P_ 75 zco [(3,a),(5,b),(19,d),(20,n0)]
 c (λa b c=>q5 a (qK 3 (b 3) c λa=>qS P_ 32 [a] c λa c=>qn a λd=>qw P_ 75 zcp [(5,b 5),(29,a),(30,d),(31,n0)] c (λa b c=>pIdx a 2 (pIdx
 2 2 (qn (b 5) λa=>q6 ⟨3,1,8⟩ [n0] a a c λa c=>qn (b 5) λd=>qw P_ 75 zc9 [(5,b 5),(11,a),(12,n0),(50,d),(51,n0)] c (λa b c=>pIdx a 6 (pIdx
 6 6 (R (b 11) c) False) False) λa b=>R (a 4) b) False) False) λa b=>R (a 4) b)) λa b=>R (a 4) b) ())):z01 P_ 17 [a0,a1] h R:=cI z6o z0d Tryd.func17
 Tryd.ntmps17 Tryd.call17 (by kernel_rfl) (by kernel_rfl) H
theorem zhe (H:qC .lss s20 s19 (qX 1 s5 s20 λa=>qT 1 a s20 h λa=>qB .add s20 (n6 1) λb=>Q .normal (frOf [(3,s3),(5,s5),(19,s19),(20,b)]) a)
 (Q (.exit 0) (frOf [(3,s3),(5,s5)]) h)):WP P_ 75 zco (frOf [(3,s3),(5,s5),(19,s19),(20,s20)]) h Q:=z15 z6o [0] [3,5,19,20] [3,5] [4] z0d
 (by kernel_rfl) (Eq.mpr (by kernel_rfl) H)
theorem zhf (H:qC .lss s31 s30 (qZ 1 s29 s31 h λa=>qn a λb=>qw P_ 75 z8b [(5,s5),(29,s29),(30,s30),(31,s31),(35,a),(36,b),(37,n0)]
 h (λa b c=>pIdx a 4 (pIdx 4 4 (qB .add (b 31) (n6 1) λa=>Q .normal (frOf (kq b [5,29,30] [(31,a)])) c) (pIdx 4 3 (qB .add (b 31) (n6 1) λa=>Q .normal (frOf
 (kq b [5,29,30] [(31,a)])) c) (Q (.exit 4) (frOf [(5,b 5)]) c))) False) λa b=>Q .ret (frOf [(4,a 4)]) b) (Q (.exit 2) (frOf [(5,s5)]) h)):WP P_ 75 zcp
 (frOf [(5,s5),(29,s29),(30,s30),(31,s31)]) h Q:=z15 z6o [2] [5,29,30,31] [5] [4] z0d (by kernel_rfl) (Eq.mpr (by kernel_rfl) H)
theorem zfp (H:qC .lss s37 s36 (qZ 1 s35 s37 h λa=>qS P_ 33 [s5,a] h λ_ a=>qB .add s37 (n6 1) λb=>Q .normal (frOf [(5,s5),(29,s29),(30,s30),(31,s31),(35,s35),(36,s36),(37,b)])
 a) (Q (.exit 4) (frOf [(5,s5),(29,s29),(30,s30),(31,s31)]) h)):WP P_ 75 z8b (frOf [(5,s5),(29,s29),(30,s30),(31,s31),(35,s35),(36,s36),(37,s37)]) h Q:=z15
 z6o [4,3,2] [5,29,30,31,35,36,37] [5,29,30,31] [4] z0d (by kernel_rfl) (Eq.mpr (by kernel_rfl) H)
theorem zfq (H:qC .lss s51 s50 (qS P_ 34 [s5,s51] h λa b=>qC .lss a s51 (qZ 1 s11 a b λa=>qX 1 s11 s51 λc=>qT 1 c a b λa=>pIdx 7 7 (qB
 .add s51 (n6 1) λb=>Q .normal (frOf [(5,s5),(11,s11),(12,s12),(50,s50),(51,b)]) a) (Q (.exit 7) (frOf [(11,s11)]) a)) (qB .add s12 (n6 1) λa=>qX 1 s11 s51 fun
 c=>qT 1 c a b λb=>qB .add s51 (n6 1) λc=>Q .normal (frOf [(5,s5),(11,s11),(12,a),(50,s50),(51,c)]) b)) (Q (.exit 6) (frOf [(11,s11)]) h)):WP P_ 75 zc9
 (frOf [(5,s5),(11,s11),(12,s12),(50,s50),(51,s51)]) h Q:=z15 z6o [6] [5,11,12,50,51] [11] [4] z0d (by kernel_rfl) (Eq.mpr (by kernel_rfl) H)
def zkg:=mkG [2,33,39,47,53] [(5,[7,46,47,48])] [] []
noncomputable def z0z:=lpOf 5 Tryd.f58
theorem zro (H:qM true 28 a0 h λa b=>qG 4 a b λc=>qY 3 c a1 b λc=>qA 54 [n0,n0,n0] b λb d=>qT 3 b c d λc=>qG 2 a c λa=>qG 0 b c λd=>qY
 3 a d c λa=>qA 52 [.nils,.nils,n0] c λc d=>qT 3 c a d λa=>q1 (qK 3 c a λd=>qH 1 c a λe f=>qH 1 b a λg i=>qH 2 b a λb j=>qB .add j (n6 1) fun
 k=>qs 8 f (some i) (some k) λk=>qH 0 c a λl m=>qn m λn=>qH 0 c a λo p=>qn p λq=>q6 ⟨3,1,8⟩ [n0] n n a (λa l=>(q3 o p l/\q3 b j l/\q3 g i l/\q3 e f
 l/\q4 3 c d l)/\qR l (λl m=>(q3 o p m/\q3 b j m/\q3 g i m/\q3 e f m/\q4 3 c d m)/\qR m (λm n=>(q3 o p n/\q3 b j n/\q3 g i n/\q3 e f n/\q4 3 c d n)/\q6 ⟨122,4,48⟩ [n0,bF,n0,.nils]
 q q n λn o=>(q3 b j o/\q3 g i o/\q3 e f o/\q4 3 c d o)/\q8 [(0,3),(3,1),(4,1),(5,1),(6,1),(7,1)] [.nils,.nils,n0,.nils,.nils,.nilm,.nilm,.nils] [(0,d),(1,k),(2,a),(3,l),(4,m),(5,n)]
 λa=>qM false 120 a o λa b=>q2 (qO a λc=>qG 3 c b λc=>qn c λd=>qw P_ 94 z0z [(7,a),(46,c),(47,d),(48,n0)] b (λa b c=>q5 a (R (b 7) c))
 λa b=>R (a 4) b))/\q6 ⟨122,4,48⟩ [n0,bF,n0,.nils] q q m λm n=>(q3 b j n/\q3 g i n/\q3 e f n/\q4 3 c d n)/\qR n λn o=>(q3 b j o/\q3 g i o/\q3 e f o/\q4 3 c d o)/\q8
 [(0,3),(3,1),(4,1),(5,1),(6,1),(7,1)] [.nils,.nils,n0,.nils,.nils,.nilm,.nilm,.nils] [(0,d),(1,k),(2,a),(3,l),(4,n),(5,m)] λa=>qM false 120 a o λa b=>q2 (qO
 a λc=>qG 3 c b λc=>qn c λd=>qw P_ 94 z0z [(7,a),(46,c),(47,d),(48,n0)] b (λa b c=>q5 a (R (b 7) c)) λa b=>R (a 4) b))/\qR l (λl m=>(q3
 o p m/\q3 b j m/\q3 g i m/\q3 e f m/\q4 3 c d m)/\qR m (λm n=>(q3 o p n/\q3 b j n/\q3 g i n/\q3 e f n/\q4 3 c d n)/\q6 ⟨122,4,48⟩ [n0,bF,n0,.nils] q q n λn o=>(q3 b j
 o/\q3 g i o/\q3 e f o/\q4 3 c d o)/\q8 [(0,3),(3,1),(4,1),(5,1),(6,1),(7,1)] [.nils,.nils,n0,.nils,.nils,.nilm,.nilm,.nils] [(0,d),(1,k),(2,a),(3,m),(4,l),(5,n)] fun
 a=>qM false 120 a o λa b=>q2 (qO a λc=>qG 3 c b λc=>qn c λd=>qw P_ 94 z0z [(7,a),(46,c),(47,d),(48,n0)] b (λa b c=>q5 a (R (b 7) c)) fun
 a b=>R (a 4) b))/\q6 ⟨122,4,48⟩ [n0,bF,n0,.nils] q q m λm n=>(q3 b j n/\q3 g i n/\q3 e f n/\q4 3 c d n)/\qR n λn o=>(q3 b j o/\q3 g i o/\q3 e f o/\q4 3 c d o)/\q8 [(0,3),(3,1),(4,1),(5,1),(6,1),(7,1)]
 [.nils,.nils,n0,.nils,.nils,.nilm,.nilm,.nils] [(0,d),(1,k),(2,a),(3,n),(4,l),(5,m)] λa=>qM false 120 a o λa b=>q2 (qO a λc=>qG 3 c b λc=>qn c λd=>qw
 P_ 94 z0z [(7,a),(46,c),(47,d),(48,n0)] b (λa b c=>q5 a (R (b 7) c)) λa b=>R (a 4) b))/\q6 ⟨122,4,48⟩ [n0,bF,n0,.nils] q q l λl m=>(q3 b j m/\q3
 g i m/\q3 e f m/\q4 3 c d m)/\qR m (λm n=>(q3 b j n/\q3 g i n/\q3 e f n/\q4 3 c d n)/\qR n λn o=>(q3 b j o/\q3 g i o/\q3 e f o/\q4 3 c d o)/\q8 [(0,3),(3,1),(4,1),(5,1),(6,1),(7,1)]
 [.nils,.nils,n0,.nils,.nils,.nilm,.nilm,.nils] [(0,d),(1,k),(2,a),(3,m),(4,n),(5,l)] λa=>qM false 120 a o λa b=>q2 (qO a λc=>qG 3 c b λc=>qn c λd=>qw
 P_ 94 z0z [(7,a),(46,c),(47,d),(48,n0)] b (λa b c=>q5 a (R (b 7) c)) λa b=>R (a 4) b))/\qR m λm n=>(q3 b j n/\q3 g i n/\q3 e f n/\q4 3 c d n)/\qR n
 λn o=>(q3 b j o/\q3 g i o/\q3 e f o/\q4 3 c d o)/\q8 [(0,3),(3,1),(4,1),(5,1),(6,1),(7,1)] [.nils,.nils,n0,.nils,.nils,.nilm,.nilm,.nils] [(0,d),(1,k),(2,a),(3,n),(4,m),(5,l)]
 λa=>qM false 120 a o λa b=>q2 (qO a λc=>qG 3 c b λc=>qn c λd=>qw P_ 94 z0z [(7,a),(46,c),(47,d),(48,n0)] b (λa b c=>q5 a (R (b 7) c))
 λa b=>R (a 4) b))/\qR a (λa s=>(q3 o p s/\q3 l m s/\q3 b j s/\q3 g i s/\q3 e f s/\q4 3 c d s)/\q6 ⟨3,1,8⟩ [n0] n n s (λl m=>(q3 o p m/\q3 b j m/\q3 g i m/\q3 e f m/\q4
 3 c d m)/\qR m (λm n=>(q3 o p n/\q3 b j n/\q3 g i n/\q3 e f n/\q4 3 c d n)/\q6 ⟨122,4,48⟩ [n0,bF,n0,.nils] q q n λn o=>(q3 b j o/\q3 g i o/\q3 e f o/\q4 3 c d o)/\q8
 [(0,3),(3,1),(4,1),(5,1),(6,1),(7,1)] [.nils,.nils,n0,.nils,.nils,.nilm,.nilm,.nils] [(0,d),(1,k),(2,l),(3,a),(4,m),(5,n)] λa=>qM false 120 a o λa b=>q2 (qO
 a λc=>qG 3 c b λc=>qn c λd=>qw P_ 94 z0z [(7,a),(46,c),(47,d),(48,n0)] b (λa b c=>q5 a (R (b 7) c)) λa b=>R (a 4) b))/\q6 ⟨122,4,48⟩ [n0,bF,n0,.nils]
 q q m λm n=>(q3 b j n/\q3 g i n/\q3 e f n/\q4 3 c d n)/\qR n λn o=>(q3 b j o/\q3 g i o/\q3 e f o/\q4 3 c d o)/\q8 [(0,3),(3,1),(4,1),(5,1),(6,1),(7,1)] [.nils,.nils,n0,.nils,.nils,.nilm,.nilm,.nils]
 [(0,d),(1,k),(2,l),(3,a),(4,n),(5,m)] λa=>qM false 120 a o λa b=>q2 (qO a λc=>qG 3 c b λc=>qn c λd=>qw P_ 94 z0z [(7,a),(46,c),(47,d),(48,n0)]
 b (λa b c=>q5 a (R (b 7) c)) λa b=>R (a 4) b))/\qR s (λs t=>(q3 o p t/\q3 l m t/\q3 b j t/\q3 g i t/\q3 e f t/\q4 3 c d t)/\q6 ⟨3,1,8⟩ [n0] n n t (λl m=>(q3
 o p m/\q3 b j m/\q3 g i m/\q3 e f m/\q4 3 c d m)/\q6 ⟨122,4,48⟩ [n0,bF,n0,.nils] q q m λm n=>(q3 b j n/\q3 g i n/\q3 e f n/\q4 3 c d n)/\q8 [(0,3),(3,1),(4,1),(5,1),(6,1),(7,1)]
 [.nils,.nils,n0,.nils,.nils,.nilm,.nilm,.nils] [(0,d),(1,k),(2,l),(3,a),(4,s),(5,m)] λa=>qM false 120 a n λa b=>q2 (qO a λc=>qG 3 c b λc=>qn c λd=>qw
 P_ 94 z0z [(7,a),(46,c),(47,d),(48,n0)] b (λa b c=>q5 a (R (b 7) c)) λa b=>R (a 4) b))/\q6 ⟨122,4,48⟩ [n0,bF,n0,.nils] q q t λo p=>(q3 l m p/\q3
 b j p/\q3 g i p/\q3 e f p/\q4 3 c d p)/\q6 ⟨3,1,8⟩ [n0] n n p λl m=>(q3 b j m/\q3 g i m/\q3 e f m/\q4 3 c d m)/\q8 [(0,3),(3,1),(4,1),(5,1),(6,1),(7,1)] [.nils,.nils,n0,.nils,.nils,.nilm,.nilm,.nils]
 [(0,d),(1,k),(2,l),(3,a),(4,s),(5,o)] λa=>qM false 120 a m λa b=>q2 (qO a λc=>qG 3 c b λc=>qn c λd=>qw P_ 94 z0z [(7,a),(46,c),(47,d),(48,n0)]
 b (λa b c=>q5 a (R (b 7) c)) λa b=>R (a 4) b))/\q6 ⟨122,4,48⟩ [n0,bF,n0,.nils] q q s λo p=>(q3 l m p/\q3 b j p/\q3 g i p/\q3 e f p/\q4 3 c d p)/\q6 ⟨3,1,8⟩ [n0]
 n n p (λl m=>(q3 b j m/\q3 g i m/\q3 e f m/\q4 3 c d m)/\qR m λm n=>(q3 b j n/\q3 g i n/\q3 e f n/\q4 3 c d n)/\q8 [(0,3),(3,1),(4,1),(5,1),(6,1),(7,1)] [.nils,.nils,n0,.nils,.nils,.nilm,.nilm,.nils]
 [(0,d),(1,k),(2,l),(3,a),(4,m),(5,o)] λa=>qM false 120 a n λa b=>q2 (qO a λc=>qG 3 c b λc=>qn c λd=>qw P_ 94 z0z [(7,a),(46,c),(47,d),(48,n0)]
 b (λa b c=>q5 a (R (b 7) c)) λa b=>R (a 4) b))/\qR p λp q=>(q3 l m q/\q3 b j q/\q3 g i q/\q3 e f q/\q4 3 c d q)/\q6 ⟨3,1,8⟩ [n0] n n q λl m=>(q3 b j m/\q3 g
 i m/\q3 e f m/\q4 3 c d m)/\q8 [(0,3),(3,1),(4,1),(5,1),(6,1),(7,1)] [.nils,.nils,n0,.nils,.nils,.nilm,.nilm,.nils] [(0,d),(1,k),(2,l),(3,a),(4,p),(5,o)] λa=>qM false
 120 a m λa b=>q2 (qO a λc=>qG 3 c b λc=>qn c λd=>qw P_ 94 z0z [(7,a),(46,c),(47,d),(48,n0)] b (λa b c=>q5 a (R (b 7) c)) λa b=>R (a 4)
 b))/\qR a (λa s=>(q3 o p s/\q3 l m s/\q3 b j s/\q3 g i s/\q3 e f s/\q4 3 c d s)/\q6 ⟨3,1,8⟩ [n0] n n s (λl m=>(q3 o p m/\q3 b j m/\q3 g i m/\q3 e f m/\q4 3 c d m)/\qR m
 (λm n=>(q3 o p n/\q3 b j n/\q3 g i n/\q3 e f n/\q4 3 c d n)/\q6 ⟨122,4,48⟩ [n0,bF,n0,.nils] q q n λn o=>(q3 b j o/\q3 g i o/\q3 e f o/\q4 3 c d o)/\q8 [(0,3),(3,1),(4,1),(5,1),(6,1),(7,1)]
 [.nils,.nils,n0,.nils,.nils,.nilm,.nilm,.nils] [(0,d),(1,k),(2,l),(3,m),(4,a),(5,n)] λa=>qM false 120 a o λa b=>q2 (qO a λc=>qG 3 c b λc=>qn c λd=>qw
 P_ 94 z0z [(7,a),(46,c),(47,d),(48,n0)] b (λa b c=>q5 a (R (b 7) c)) λa b=>R (a 4) b))/\q6 ⟨122,4,48⟩ [n0,bF,n0,.nils] q q m λm n=>(q3 b j n/\q3
 g i n/\q3 e f n/\q4 3 c d n)/\qR n λn o=>(q3 b j o/\q3 g i o/\q3 e f o/\q4 3 c d o)/\q8 [(0,3),(3,1),(4,1),(5,1),(6,1),(7,1)] [.nils,.nils,n0,.nils,.nils,.nilm,.nilm,.nils]
 [(0,d),(1,k),(2,l),(3,n),(4,a),(5,m)] λa=>qM false 120 a o λa b=>q2 (qO a λc=>qG 3 c b λc=>qn c λd=>qw P_ 94 z0z [(7,a),(46,c),(47,d),(48,n0)]
 b (λa b c=>q5 a (R (b 7) c)) λa b=>R (a 4) b))/\qR s (λs t=>(q3 o p t/\q3 l m t/\q3 b j t/\q3 g i t/\q3 e f t/\q4 3 c d t)/\q6 ⟨3,1,8⟩ [n0] n n t (λl m=>(q3
 o p m/\q3 b j m/\q3 g i m/\q3 e f m/\q4 3 c d m)/\q6 ⟨122,4,48⟩ [n0,bF,n0,.nils] q q m λm n=>(q3 b j n/\q3 g i n/\q3 e f n/\q4 3 c d n)/\q8 [(0,3),(3,1),(4,1),(5,1),(6,1),(7,1)]
 [.nils,.nils,n0,.nils,.nils,.nilm,.nilm,.nils] [(0,d),(1,k),(2,l),(3,s),(4,a),(5,m)] λa=>qM false 120 a n λa b=>q2 (qO a λc=>qG 3 c b λc=>qn c λd=>qw
 P_ 94 z0z [(7,a),(46,c),(47,d),(48,n0)] b (λa b c=>q5 a (R (b 7) c)) λa b=>R (a 4) b))/\q6 ⟨122,4,48⟩ [n0,bF,n0,.nils] q q t λo p=>(q3 l m p/\q3
 b j p/\q3 g i p/\q3 e f p/\q4 3 c d p)/\q6 ⟨3,1,8⟩ [n0] n n p λl m=>(q3 b j m/\q3 g i m/\q3 e f m/\q4 3 c d m)/\q8 [(0,3),(3,1),(4,1),(5,1),(6,1),(7,1)] [.nils,.nils,n0,.nils,.nils,.nilm,.nilm,.nils]
 [(0,d),(1,k),(2,l),(3,s),(4,a),(5,o)] λa=>qM false 120 a m λa b=>q2 (qO a λc=>qG 3 c b λc=>qn c λd=>qw P_ 94 z0z [(7,a),(46,c),(47,d),(48,n0)]
 b (λa b c=>q5 a (R (b 7) c)) λa b=>R (a 4) b))/\q6 ⟨122,4,48⟩ [n0,bF,n0,.nils] q q s λo p=>(q3 l m p/\q3 b j p/\q3 g i p/\q3 e f p/\q4 3 c d p)/\q6 ⟨3,1,8⟩ [n0]
 n n p (λl m=>(q3 b j m/\q3 g i m/\q3 e f m/\q4 3 c d m)/\qR m λm n=>(q3 b j n/\q3 g i n/\q3 e f n/\q4 3 c d n)/\q8 [(0,3),(3,1),(4,1),(5,1),(6,1),(7,1)] [.nils,.nils,n0,.nils,.nils,.nilm,.nilm,.nils]
 [(0,d),(1,k),(2,l),(3,m),(4,a),(5,o)] λa=>qM false 120 a n λa b=>q2 (qO a λc=>qG 3 c b λc=>qn c λd=>qw P_ 94 z0z [(7,a),(46,c),(47,d),(48,n0)]
 b (λa b c=>q5 a (R (b 7) c)) λa b=>R (a 4) b))/\qR p λp q=>(q3 l m q/\q3 b j q/\q3 g i q/\q3 e f q/\q4 3 c d q)/\q6 ⟨3,1,8⟩ [n0] n n q λl m=>(q3 b j m/\q3 g
 i m/\q3 e f m/\q4 3 c d m)/\q8 [(0,3),(3,1),(4,1),(5,1),(6,1),(7,1)] [.nils,.nils,n0,.nils,.nils,.nilm,.nilm,.nils] [(0,d),(1,k),(2,l),(3,p),(4,a),(5,o)] λa=>qM false
 120 a m λa b=>q2 (qO a λc=>qG 3 c b λc=>qn c λd=>qw P_ 94 z0z [(7,a),(46,c),(47,d),(48,n0)] b (λa b c=>q5 a (R (b 7) c)) λa b=>R (a 4)
 b))/\q6 ⟨122,4,48⟩ [n0,bF,n0,.nils] q q a λa o=>(q3 l m o/\q3 b j o/\q3 g i o/\q3 e f o/\q4 3 c d o)/\q6 ⟨3,1,8⟩ [n0] n n o (λl m=>(q3 b j m/\q3 g i m/\q3 e f m/\q4
 3 c d m)/\qR m (λm n=>(q3 b j n/\q3 g i n/\q3 e f n/\q4 3 c d n)/\qR n λn o=>(q3 b j o/\q3 g i o/\q3 e f o/\q4 3 c d o)/\q8 [(0,3),(3,1),(4,1),(5,1),(6,1),(7,1)] [.nils,.nils,n0,.nils,.nils,.nilm,.nilm,.nils]
 [(0,d),(1,k),(2,l),(3,m),(4,n),(5,a)] λa=>qM false 120 a o λa b=>q2 (qO a λc=>qG 3 c b λc=>qn c λd=>qw P_ 94 z0z [(7,a),(46,c),(47,d),(48,n0)]
 b (λa b c=>q5 a (R (b 7) c)) λa b=>R (a 4) b))/\qR m λm n=>(q3 b j n/\q3 g i n/\q3 e f n/\q4 3 c d n)/\qR n λn o=>(q3 b j o/\q3 g i o/\q3 e f o/\q4 3 c d o)/\q8
 [(0,3),(3,1),(4,1),(5,1),(6,1),(7,1)] [.nils,.nils,n0,.nils,.nils,.nilm,.nilm,.nils] [(0,d),(1,k),(2,l),(3,n),(4,m),(5,a)] λa=>qM false 120 a o λa b=>q2 (qO
 a λc=>qG 3 c b λc=>qn c λd=>qw P_ 94 z0z [(7,a),(46,c),(47,d),(48,n0)] b (λa b c=>q5 a (R (b 7) c)) λa b=>R (a 4) b))/\qR o (λo p=>(q3
 l m p/\q3 b j p/\q3 g i p/\q3 e f p/\q4 3 c d p)/\q6 ⟨3,1,8⟩ [n0] n n p (λl m=>(q3 b j m/\q3 g i m/\q3 e f m/\q4 3 c d m)/\qR m λm n=>(q3 b j n/\q3 g i n/\q3 e f n/\q4
 3 c d n)/\q8 [(0,3),(3,1),(4,1),(5,1),(6,1),(7,1)] [.nils,.nils,n0,.nils,.nils,.nilm,.nilm,.nils] [(0,d),(1,k),(2,l),(3,o),(4,m),(5,a)] λa=>qM false 120 a n fun
 a b=>q2 (qO a λc=>qG 3 c b λc=>qn c λd=>qw P_ 94 z0z [(7,a),(46,c),(47,d),(48,n0)] b (λa b c=>q5 a (R (b 7) c)) λa b=>R (a 4) b))/\qR p fun
 p q=>(q3 l m q/\q3 b j q/\q3 g i q/\q3 e f q/\q4 3 c d q)/\q6 ⟨3,1,8⟩ [n0] n n q λl m=>(q3 b j m/\q3 g i m/\q3 e f m/\q4 3 c d m)/\q8 [(0,3),(3,1),(4,1),(5,1),(6,1),(7,1)]
 [.nils,.nils,n0,.nils,.nils,.nilm,.nilm,.nils] [(0,d),(1,k),(2,l),(3,o),(4,p),(5,a)] λa=>qM false 120 a m λa b=>q2 (qO a λc=>qG 3 c b λc=>qn c λd=>qw
 P_ 94 z0z [(7,a),(46,c),(47,d),(48,n0)] b (λa b c=>q5 a (R (b 7) c)) λa b=>R (a 4) b))/\qR o λo p=>(q3 l m p/\q3 b j p/\q3 g i p/\q3 e f p/\q4 3 c d
 p)/\q6 ⟨3,1,8⟩ [n0] n n p (λl m=>(q3 b j m/\q3 g i m/\q3 e f m/\q4 3 c d m)/\qR m λm n=>(q3 b j n/\q3 g i n/\q3 e f n/\q4 3 c d n)/\q8 [(0,3),(3,1),(4,1),(5,1),(6,1),(7,1)]
 [.nils,.nils,n0,.nils,.nils,.nilm,.nilm,.nils] [(0,d),(1,k),(2,l),(3,m),(4,o),(5,a)] λa=>qM false 120 a n λa b=>q2 (qO a λc=>qG 3 c b λc=>qn c λd=>qw
 P_ 94 z0z [(7,a),(46,c),(47,d),(48,n0)] b (λa b c=>q5 a (R (b 7) c)) λa b=>R (a 4) b))/\qR p λp q=>(q3 l m q/\q3 b j q/\q3 g i q/\q3 e f q/\q4 3 c d
 q)/\q6 ⟨3,1,8⟩ [n0] n n q λl m=>(q3 b j m/\q3 g i m/\q3 e f m/\q4 3 c d m)/\q8 [(0,3),(3,1),(4,1),(5,1),(6,1),(7,1)] [.nils,.nils,n0,.nils,.nils,.nilm,.nilm,.nils]
 [(0,d),(1,k),(2,l),(3,p),(4,o),(5,a)] λa=>qM false 120 a m λa b=>q2 (qO a λc=>qG 3 c b λc=>qn c λd=>qw P_ 94 z0z [(7,a),(46,c),(47,d),(48,n0)]
 b (λa b c=>q5 a (R (b 7) c)) λa b=>R (a 4) b))):z01 P_ 58 [a0,a1] h R:=cI zkg z0d Tryd.func58 Tryd.ntmps58 Tryd.call58 (by kernel_rfl) (by kernel_rfl)
 H
theorem zl2 (H:qC .lss s48 s47 (qY 8 s46 s48 h λa=>qA 49 [n0,n0,n0,n0,n0,n0,.nils,.nils] h λb c=>qT 8 b a c λa=>qK 8 b a λc=>qS P_ 51 [c]
 a λa c=>qC .geq a n0 (qO s7 λd=>qG 4 d c λd=>qZ 1 d a c λe=>qB .add e (n6 1) λe=>qX 1 d a λa=>qT 1 a e c λa=>qG 0 b a λc=>qC .eql c (n6 5)
 (q1 (qO s7 λc=>qG 5 c a λc=>qG 4 b a λb=>z3k (some (.int,n0)) c b a (later (λd=>q2 (qB .add d (n6 1) λd=>zbr (some (.int,n0)) c b d a (later
 (λa=>q2 (qB .add s48 (n6 1) λb=>Q .normal (frOf [(7,s7),(46,s46),(47,s47),(48,b)]) a)) ()))) ()))) (qC .eql c (n6 6) (q1 (qO s7 λc=>qG 6 c a λc=>qG 3
 b a λd=>qG 4 b a λb=>q8 [(0,1),(1,1)] [n0,n0] [(0,d),(1,b)] λb=>z3k (some (.flat [.int,.int],n0)) c b a (later (λd=>q2 (qB .add d (n6 1) λd=>z5x
 (some (.flat [.int,.int],n0)) c b a (later (λa b=>q2 (qx 1 a λa=>z3q c a d b (later (λa=>q2 (qB .add s48 (n6 1) λb=>Q .normal (frOf [(7,s7),(46,s46),(47,s47),(48,b)])
 a)) ()))) ()))) ())/\z5x (some (.flat [.int,.int],n0)) c b a (later (λa d=>q2 (qx 1 a λa=>z3k (some (.flat [.int,.int],n0)) c b d (later (λb=>q2
 (qB .add b (n6 1) λb=>z3q c a b d (later (λa=>q2 (qB .add s48 (n6 1) λb=>Q .normal (frOf [(7,s7),(46,s46),(47,s47),(48,b)]) a)) ()))) ()))) ())))
 (qB .add s48 (n6 1) λb=>Q .normal (frOf [(7,s7),(46,s46),(47,s47),(48,b)]) a))) (qG 0 b c λa=>qC .eql a (n6 5) (q1 (qO s7 λa=>qG 5 a c λa=>qG 4 b c fun
 b=>z3k (some (.int,n0)) a b c (later (λd=>q2 (qB .add d (n6 1) λd=>zbr (some (.int,n0)) a b d c (later (λa=>q2 (qB .add s48 (n6 1) λb=>Q .normal
 (frOf [(7,s7),(46,s46),(47,s47),(48,b)]) a)) ()))) ()))) (qC .eql a (n6 6) (q1 (qO s7 λa=>qG 6 a c λa=>qG 3 b c λd=>qG 4 b c λb=>q8 [(0,1),(1,1)] [n0,n0]
 [(0,d),(1,b)] λb=>z3k (some (.flat [.int,.int],n0)) a b c (later (λd=>q2 (qB .add d (n6 1) λd=>z5x (some (.flat [.int,.int],n0)) a b c (later
 (λb c=>q2 (qx 1 b λb=>z3q a b d c (later (λa=>q2 (qB .add s48 (n6 1) λb=>Q .normal (frOf [(7,s7),(46,s46),(47,s47),(48,b)]) a)) ()))) ()))) ())/\z5x
 (some (.flat [.int,.int],n0)) a b c (later (λc d=>q2 (qx 1 c λc=>z3k (some (.flat [.int,.int],n0)) a b d (later (λb=>q2 (qB .add b (n6 1) λb=>z3q
 a c b d (later (λa=>q2 (qB .add s48 (n6 1) λb=>Q .normal (frOf [(7,s7),(46,s46),(47,s47),(48,b)]) a)) ()))) ()))) ()))) (qB .add s48 (n6 1) λa=>Q .normal
 (frOf [(7,s7),(46,s46),(47,s47),(48,a)]) c)))) (Q (.exit 0) (frOf [(7,s7)]) h)):WP P_ 94 z0z (frOf [(7,s7),(46,s46),(47,s47),(48,s48)]) h Q:=z15 zkg
 [0] [7,46,47,48] [7] [4] z0d (by kernel_rfl) (Eq.mpr (by kernel_rfl) H)
def zcg:=mkG [7] [] [] []
theorem zbz (H:qD .slice .eql a0 .nils λa=>qI a (R .nils h) ((0=0->([]:List (Nat×Operand))=[])/\z10 false ⟨3,1,8⟩ [n0] 0 [] h (later (fun
 a b=>q1 (q7 true ⟨3,1,8⟩ a a0 b λa b=>R a b)) ()))):z01 P_ 90 [a0] h R:=cI zcg z0d Tryd.func90 Tryd.ntmps90 Tryd.call90 (by kernel_rfl)
 (by kernel_rfl) H
def zod:=mkG [2,11,13,14] [] [] []
theorem zme (H:qM true 40 a0 h λa b=>qA 40 [bF,n0,.nils] b λb c=>q1 (qH 0 a c λd e=>qH 1 a c λf g=>qG 2 a c λa=>(1=0->[(0,Operand.tmp 12)]=[])/\z10
 true ⟨3,1,8⟩ [n0] 1 [(0,a1)] c (later (λc i=>qS P_ 90 [a] i λa i=>(q3 f g i/\q3 d e i)/\q1 (q7 true ⟨3,1,8⟩ a c i λa c=>(q3 f g c/\q3 d e c)/\q8 [(0,1),(1,1),(2,1)]
 [bF,n0,.nils] [(0,e),(1,g),(2,a)] λa=>qT 3 b a c λa=>q2 (qK 3 b a λb=>R b a))) ()))):z01 P_ 86 [a0,a1] h R:=cI zod z0d Tryd.func86 Tryd.ntmps86
 Tryd.call86 (by kernel_rfl) (by kernel_rfl) H
def zf4:=mkG [3,12,68,88] [(7,[0,3,4,7,33])] [7] []
theorem ze7 (H:qM true 49 a1 h λa b=>qA 122 [n0,bF,n0,.nils] b λb c=>qG 0 a c λd=>qC .eql d (n6 1) (qG 6 a c λd=>qn d λd=>qE d (n6
 1) λd=>qU d true 6 c (λb=>qH 6 a c λa d=>qX 3 d n0 λe=>qH 0 e c λf g=>qE g (n6 2) λi=>b [a,d,e,f,g,i] c) λc e=>qP d (nth c 5) bF λc=>qI c
 (q1 (qO a0 λc=>qG 7 c e λc=>qG 6 a e λa=>qX 3 a n0 λa=>qG 2 a e λa=>qY 4 c a e λa=>qT 4 b a e λa=>q2 (qK 4 b a λb=>R b a))) (q8 [(0,1),(1,3)]
 [n0,bF,n0,.nils] [] λa=>qT 4 b a e λa=>qK 4 b a λb=>R b a)) (qQ (λe=>qE d (n6 8) λf=>qI f (e (frOf [(0,a0),(3,a),(4,b),(7,d),(33,f)]) c) (qE d (n6
 9) λf=>e (frOf [(0,a0),(3,a),(4,b),(7,d),(33,f)]) c)) λa b=>qI (a 33) (q8 [(0,1),(1,3)] [n0,bF,n0,.nils] [(0,n6 1)] λc=>qT 4 (a 4) c b λb=>qK 4 (a 4)
 b λa=>R a b) (qC .eql (a 7) (n6 2) (q1 (qO (a 0) λc=>qG 5 c b λc=>qG 4 (a 3) b λd=>z3k (some (.int,n0)) c d b (later (λc=>q2 (qC .eql c n0 (qG
 4 (a 3) b λc=>q8 [(0,1),(1,1),(2,1)] [bF,n0,.nils] [(0,bT),(1,c)] λc=>q8 [(0,1),(1,3)] [n0,bF,n0,.nils] [(0,n6 2),(1,c)] λc=>qT 4 (a 4) c b λb=>qK 4 (a
 4) b λa=>R a b) (q8 [(0,1),(1,3)] [n0,bF,n0,.nils] [] λc=>qT 4 (a 4) c b λb=>qK 4 (a 4) b λa=>R a b))) ()))) (qC .eql (a 7) (n6 3) (q1 (qO (a 0) λc=>qH
 7 c b λc d=>qH 2 (a 3) b λe f=>qX 4 d f λg=>qK 4 g b λi=>qA 122 [n0,bF,n0,.nils] b λb j=>(q4 4 g i j/\q3 e f j/\q3 c d j)/\qT 4 b i j λc=>q2 (q1 (qG
 0 b c λd=>qE d (n6 2) λd=>qV d true 1 c (λa=>qF 1 b λb=>a [b] c) λc e=>qV d true 1 e (λa=>qF 2 (nth c 0) λb=>a [b] e) λc e=>qV d true 1 e
 (λa=>qL (nth c 0) e λb=>a [b] e) λc e=>qV d true 1 e (λa=>qn (nth c 0) λb=>a [b] e) λc e=>qV d true 1 e (λa=>qB .lss (nth c 0) (n6 3) λb=>a
 [b] e) λc e=>qP d (nth c 0) bF λc=>qV c true 1 e (λb=>b [a 0] e) λd e=>qV c true 1 e (λa=>qO (nth d 0) λb=>a [b] e) λd e=>qV c true 1 e (fun
 a=>qF 6 (nth d 0) λb=>a [b] e) λd e=>qV c true 1 e (λa=>qL (nth d 0) e λb=>a [b] e) λd e=>qV c true 1 e (λb=>qF 3 (a 3) λa=>b [a] e) λe f=>qV
 c true 1 f (λa=>qL (nth e 0) f λb=>a [b] f) λe f=>qV c true 1 f (λb=>qF 4 (a 3) λa=>b [a] f) λf g=>qV c true 1 g (λa=>qL (nth f 0) g λb=>a
 [b] g) λf g=>qV c true 1 g (λa=>q8 [(0,1),(1,1)] [n0,n0] [(0,nth e 0),(1,nth f 0)] λb=>a [b] g) λe f=>qV c true 1 f (λa=>z3k (some (.flat [.int,.int],n0))
 (nth d 0) (nth e 0) f (later (λb=>a [b] f) ())) λd e=>q2 (qV c true 1 e (λa=>qE (nth d 0) n0 λb=>a [b] e) λd e=>qP c (nth d 0) bF λc=>qI c (qF 1
 b λb=>qK 3 b e λb=>qG 4 (a 3) e λc=>qS P_ 86 [b,c] e λb c=>q8 [(0,1),(1,3)] [n0,bF,n0,.nils] [(0,n6 2),(1,b)] λb=>qT 4 (a 4) b c λb=>qK 4 (a 4)
 b λa=>R a b) (q8 [(0,1),(1,3)] [n0,bF,n0,.nils] [] λb=>qT 4 (a 4) b e λb=>qK 4 (a 4) b λa=>R a b)))))) (q8 [(0,1),(1,3)] [n0,bF,n0,.nils] [] λc=>qT
 4 (a 4) c b λb=>qK 4 (a 4) b λa=>R a b))))):z01 P_ 77 [a0,a1] h R:=cI zf4 z0d Tryd.func77 Tryd.ntmps77 Tryd.call77 (by kernel_rfl) (by
 kernel_rfl) H
def z99:=mkG [12,18,56] [(3,[0,3,11,12,13])] [] [(6,[(7,[0,3,5,6,11,12,13,42])])]
noncomputable def z5g:=lpOf 3 Tryd.f59
theorem ze8 (H:qO a0 λa=>qG 3 a h λa=>qn a λb=>qw P_ 69 z5g [(0,a0),(3,bF),(11,a),(12,b),(13,n0)] h (λa b c=>q5 a (R
 (b 3) c)) λa b=>R (a 2) b):z01 P_ 59 [a0] h R:=cI z99 z0d Tryd.func59 Tryd.ntmps59 Tryd.call59 (by kernel_rfl) (by kernel_rfl) H
theorem zbv (H:qC .lss s13 s12 (qY 8 s11 s13 h λa=>qA 49 [n0,n0,n0,n0,n0,n0,.nils,.nils] h λb c=>qT 8 b a c λa=>qK 8 b a λc=>qS P_
 51 [c] a λa c=>qB .lss a n0 λd=>qU d false 10 c (λb=>qO s0 λd=>qF 0 d λe=>qH 0 e c λf g=>qX 3 g a λi=>qH 2 i c λj k=>qN k λl=>b [s0,d,e,f,g,a,i,j,k,l]
 c) λc e=>qP d bT (nth c 9) λc=>qU c false 8 e (λb=>qO s0 λc=>qH 4 c e λd f=>qX 1 f a λg=>qL g e λi=>qB .neq i (n6 1) λj=>b [s0,c,d,f,a,g,i,j]
 e) λd e=>qP c bT (nth d 7) λc=>z4r [s0,s3,b,a,s11,s12,s13,c] (later (λa=>qU (nth a 7) false 9 e (λb=>qO (nth a 0) λc=>qH 7 c e λd f=>qX 4 f (nth
 a 3) λg=>qH 0 g e λi j=>qB .neq j n0 λk=>b [nth a 0,c,d,f,nth a 3,g,i,j,k] e) λb c=>qP (nth a 7) bT (nth b 8) λb=>qI b (pIdx 1 1 (qB .add (nth a 6)
 (n6 1) λb=>Q .normal (frOf [(0,nth a 0),(3,nth a 1),(11,nth a 4),(12,nth a 5),(13,b)]) c) (Q (.exit 1) (frOf [(3,nth a 1)]) c)) (qK 8 (nth a 2) c λb=>qS P_
 77 [nth a 0,b] c λb c=>qA 122 [n0,bF,n0,.nils] c λc d=>qT 4 c b d λb=>qG 0 c b λd=>qC .neq d n0 (q1 (qO (nth a 0) λd=>qG 7 d b λd=>qK 4 c b fun
 c=>qX 4 d (nth a 3) λd=>qT 4 d c b λb=>q2 (qB .add (nth a 6) (n6 1) λc=>Q .normal (frOf [(0,nth a 0),(3,bT),(11,nth a 4),(12,nth a 5),(13,c)]) b))) (qB .add
 (nth a 6) (n6 1) λc=>Q .normal (frOf [(0,nth a 0),(3,nth a 1),(11,nth a 4),(12,nth a 5),(13,c)]) b))) ())) (Q (.exit 0) (frOf [(3,s3)]) h)):WP P_ 69 z5g
 (frOf [(0,s0),(3,s3),(11,s11),(12,s12),(13,s13)]) h Q:=z15 z99 [0] [0,3,11,12,13] [3] [2] z0d (by kernel_rfl) (Eq.mpr (by kernel_rfl) H)
def zkf:=mkG [2,9,19,24,29,48] [(5,[5,28,29,30]),(10,[5])] [] []
noncomputable def zep:=lpOf 5 Tryd.f35
noncomputable def zcq:=lpOf 10 Tryd.f35
theorem path_Of_wp (H:qM true 28 a0 h λa b=>qK 5 a b λc=>qS P_ 14 [c] b λb c=>qN b λb=>qU b false 2 c (λa=>qB .lss a1 n0 λb=>a [a1,b] c) λc d=>qP
 b bT (nth c 1) λb=>qU b false 5 d (λb=>qH 4 a d λa c=>qn c λe=>qB .geq a1 e λf=>b [a1,a,c,e,f] d) λc d=>qP b bT (nth c 4) λb=>qI b (R .nils d)
 (qK 5 a d λa=>qS P_ 58 [a,a1] d λa b=>qO a λc=>qG 4 c b λc=>qn c λd=>qw P_ 53 zep [(5,a),(28,c),(29,d),(30,n0)] b (λa b c=>q5 a (qw P_ 53
 zcq [(5,b 5)] c (λa b c=>pIdx a 2 (pIdx 2 2 (qO (b 5) λa=>qG 7 a c λa=>R a c) False) False) λa b=>R (a 4) b)) λa b=>R (a 4) b)):z01 P_
 35 [a0,a1] h R:=cI zkf z0d Tryd.func35 Tryd.ntmps35 Tryd.call35 (by kernel_rfl) (by kernel_rfl) H
theorem zov (H:qC .lss s30 s29 (qZ 1 s28 s30 h λa=>qC .eql a n0 (qO s5 λa=>qG 7 a h λa=>q8 [(0,1),(1,1),(2,1)] [bF,n0,.nils] [(1,s30)] λb=>q8
 [(0,1),(1,3)] [n0,bF,n0,.nils] [(0,n6 2),(1,b)] λb=>qX 4 a s30 λa=>qT 4 a b h λa=>qB .add s30 (n6 1) λb=>Q .normal (frOf [(5,s5),(28,s28),(29,s29),(30,b)])
 a) (qB .add s30 (n6 1) λa=>Q .normal (frOf [(5,s5),(28,s28),(29,s29),(30,a)]) h)) (Q (.exit 0) (frOf [(5,s5)]) h)):WP P_ 53 zep (frOf [(5,s5),(28,s28),(29,s29),(30,s30)])
 h Q:=z15 zkf [0] [5,28,29,30] [5] [4] z0d (by kernel_rfl) (Eq.mpr (by kernel_rfl) H)
theorem zmd (H:qS P_ 59 [s5] h λa b=>qI a (pIdx 3 3 (Q .normal (frOf [(5,s5)]) b) (Q (.exit 3) (frOf [(5,s5)]) b)) (Q (.exit 2) (frOf [(5,s5)]) b)):WP
 P_ 53 zcq (frOf [(5,s5)]) h Q:=z15 zkf [2] [5] [5] [4] z0d (by kernel_rfl) (Eq.mpr (by kernel_rfl) H)
def zki:=mkG [4,5,19] [] [] []
theorem zj9 (H:qM true 28 a0 h λa b=>qM true 64 a1 b λb c=>qA 69 [.nils,.nils,.nils,.nils,.nils,.nils,.nils,.nils,.nils,n0,n0,n0,.nils] c λc
 d=>q1 (qK 5 a d λe=>qK 3 b d λf=>qH 4 a d λg i=>qX 3 i a3 λj=>qK 3 j d λk=>qK 5 a d λl=>qS P_ 35 [l,a3] d λd l=>(q4 3 j k l/\q3 g i l/\q4 3 b f
 l/\q4 5 a e l)/\q8 [(0,5),(5,3),(8,1),(9,3),(12,1)] [.nils,.nils,.nils,.nils,.nils,.nils,.nils,.nils,.nils,n0,n0,n0,.nils] [(0,e),(1,f),(2,a2),(3,k),(4,d)] λa=>qT
 13 c a l λa=>q2 (qK 13 c a λb=>R b a))):z01 P_ 18 [a0,a1,a2,a3] h R:=cI zki z0d Tryd.func18 Tryd.ntmps18 Tryd.call18 (by kernel_rfl) (by kernel_rfl)
 H
def g_class_Of:=mkG [7,10] [] [] []
theorem zso (H:qS P_ 56 [a0] h λa b=>qn a1 λc=>qC .lss a c (qZ 1 a1 a b λa=>R a b) (R n0 b)):z01 P_ 63 [a0,a1] h R:=cI g_class_Of z0d Tryd.func63
 Tryd.ntmps63 Tryd.call63 (by kernel_rfl) (by kernel_rfl) H
def zf5:=mkG [3,4,42,70] [(11,[3,4,5,6,10])] [11] []
def z6s (R:AV->z00->Prop) (fr':Fr) (h99:z00) (v109:AV):Prop :=qK 3 v109 h99 λa=>qA 103 [n0,n0,nU 0] h99 λb c=>qT 3 b a c
 λa=>qG 0 b a λc=>qC .eql c (n6 1) (q1 (qH 2 b a λb c=>z9e (.int .i64) c a (later (λd=>qF 5 (fr' 5) λe=>qT 1 e bT a λa=>(z9e (.int .i64) c a
 (later (λb=>b=d/\a=a) ())/\q3 b c a)/\qF 6 (fr' 5) λb=>qT 1 b d a λa=>q2 (qK 12 (fr' 5) a λb=>qT 12 (fr' 6) b a λa=>qK 12 (fr' 6) a λb=>R (.tup [b,bT])
 a)) ()))) (qC .eql c (n6 2) (qG 12 (fr' 3) a λc=>qG 2 b a λb=>qY 4 c b a λb=>qA 122 [n0,bF,n0,.nils] a λa c=>qT 4 a b c λb=>qG 0 a b λc=>qC .eql
 c (n6 2) (qF 1 a λa=>qK 3 a b λa=>qF 7 (fr' 5) λc=>qT 3 c a b λa=>qK 12 (fr' 5) a λb=>qT 12 (fr' 6) b a λa=>qK 12 (fr' 6) a λb=>R (.tup [b,bT])
 a) (qK 12 (fr' 10) b λa=>qT 12 (fr' 6) a b λa=>qK 12 (fr' 6) a λb=>R (.tup [b,bT]) a)) (qK 12 (fr' 10) a λb=>qT 12 (fr' 6) b a λa=>qK 12 (fr' 6) a
 λb=>R (.tup [b,bT]) a))
def z6t (R:AV->z00->Prop) (fr':Fr) (h197:z00) (v207:AV):Prop :=qK 3 v207 h197 λa=>qA 103 [n0,n0,nU 0] h197 λb c=>qT 3 b
 a c λa=>qG 0 b a λc=>qC .eql c (n6 1) (q1 (qH 2 b a λb c=>z9e (.int .i64) c a (later (λd=>qF 5 (fr' 5) λe=>qT 1 e bT a λa=>(z9e (.int .i64)
 c a (later (λb=>b=d/\a=a) ())/\q3 b c a)/\qF 6 (fr' 5) λb=>qT 1 b d a λa=>q2 (qK 12 (fr' 5) a λb=>qT 12 (fr' 6) b a λa=>qK 12 (fr' 6) a λb=>R (.tup
 [b,bT]) a)) ()))) (qC .eql c (n6 2) (qG 12 (fr' 3) a λc=>qG 2 b a λb=>qY 4 c b a λb=>qA 122 [n0,bF,n0,.nils] a λa c=>qT 4 a b c λb=>qG 0 a b λc=>qC
 .eql c (n6 2) (qF 1 a λa=>qK 3 a b λa=>qF 7 (fr' 5) λc=>qT 3 c a b λa=>qK 12 (fr' 5) a λb=>qT 12 (fr' 6) b a λa=>qK 12 (fr' 6) a λb=>R (.tup
 [b,bT]) a) (qK 12 (fr' 10) b λa=>qT 12 (fr' 6) a b λa=>qK 12 (fr' 6) a λb=>R (.tup [b,bT]) a)) (qK 12 (fr' 10) a λb=>qT 12 (fr' 6) b a λa=>qK 12 (fr'
 6) a λb=>R (.tup [b,bT]) a))
def z4o (R:AV->z00->Prop) (v1:AV) (v3:AV) (v5:AV) (v7:AV) (v26:AV) (v27:AV) (h49:z00) (v54:AV):Prop :=qL v54 h49 fun
 a=>qH 11 v5 h49 λb c=>qS P_ 63 [v26,a] h49 (λa d=>q3 b c d/\q8 [(0,1),(1,3),(4,1),(5,1),(6,1),(7,3),(10,1),(11,1)] [n0,bF,n0,.nils,n0,bF,n0,bF,n0,.nils,n0,n0]
 [(0,n6 4),(6,a),(7,c)] λa=>qA 42 [n0,bF,n0,.nils,n0,bF,n0,bF,n0,.nils,n0,n0] d λd e=>q3 b c e/\qT 12 d a e λa=>q2 (qG 0 v27 a λb=>qC .neq b (n6 2) (qK
 12 d a λb=>qT 12 v7 b a λa=>qK 12 v7 a λb=>R (.tup [b,bT]) a) (q1 (qG 10 d a λb=>qF 1 v27 λc=>qK 3 c a λe=>qF 10 v5 λf=>qT 1 f b a λa=>q4
 3 c e a/\qF 1 v5 λb=>qT 3 b e a λa=>q2 (qQ (λb=>qG 0 v3 a λc=>qE c (n6 3) λc=>qU c false 3 a (λb=>qH 0 v3 a λc d=>qE d (n6 6) λe=>b [c,d,e]
 a) λa e=>qP c bT (nth a 2) λa=>qI a (qF 0 v5 λa=>qT 1 a (n6 2) e λa=>qK 12 v5 a λb=>qT 12 v7 b a λa=>qK 12 v7 a λb=>R (.tup [b,bT]) a) (b (frOf
 [(3,v1),(4,v3),(5,v5),(6,v7),(10,d)]) e)) λa b=>qF 0 (a 5) λc=>qT 1 c (n6 3) b λb=>qF 4 (a 5) λc=>qT 1 c n0 b λb=>qG 7 (a 4) b λc=>qn c λc=>qC
 .neq c (n6 1) (qK 12 (a 10) b λc=>qT 12 (a 6) c b λb=>qK 12 (a 6) b λa=>R (.tup [a,bT]) b) (qG 7 (a 4) b λc=>qX 3 c n0 λc=>z6s
 R a b c))))))/\qA 42 [n0,bF,n0,.nils,n0,bF,n0,bF,n0,.nils,n0,n0] h49 λd e=>(q3 b c e/\q3 v54 a e)/\qS P_ 63 [v26,a] e λa e=>q3 b c e/\q8 [(0,1),(1,3),(4,1),(5,1),(6,1),(7,3),(10,1),(11,1)]
 [n0,bF,n0,.nils,n0,bF,n0,bF,n0,.nils,n0,n0] [(0,n6 4),(6,a),(7,c)] λa=>qT 12 d a e λa=>q2 (qG 0 v27 a λb=>qC .neq b (n6 2) (qK 12 d a λb=>qT 12 v7 b a
 λa=>qK 12 v7 a λb=>R (.tup [b,bT]) a) (q1 (qG 10 d a λb=>qF 1 v27 λc=>qK 3 c a λe=>qF 10 v5 λf=>qT 1 f b a λa=>q4 3 c e a/\qF 1 v5 λb=>qT 3
 b e a λa=>q2 (qQ (λb=>qG 0 v3 a λc=>qE c (n6 3) λc=>qU c false 3 a (λb=>qH 0 v3 a λc d=>qE d (n6 6) λe=>b [c,d,e] a) λa e=>qP c bT (nth a
 2) λa=>qI a (qF 0 v5 λa=>qT 1 a (n6 2) e λa=>qK 12 v5 a λb=>qT 12 v7 b a λa=>qK 12 v7 a λb=>R (.tup [b,bT]) a) (b (frOf [(3,v1),(4,v3),(5,v5),(6,v7),(10,d)])
 e)) λa b=>qF 0 (a 5) λc=>qT 1 c (n6 3) b λb=>qF 4 (a 5) λc=>qT 1 c n0 b λb=>qG 7 (a 4) b λc=>qn c λc=>qC .neq c (n6 1) (qK 12 (a 10) b λc=>qT
 12 (a 6) c b λb=>qK 12 (a 6) b λa=>R (.tup [a,bT]) b) (qG 7 (a 4) b λc=>qX 3 c n0 λc=>z6t R a b c)))))
theorem zea (H:qM true 69 a0 h λa b=>qM true 49 a1 b λb c=>qM false 42 a2 c λc d=>qA 42 [n0,bF,n0,.nils,n0,bF,n0,bF,n0,.nils,n0,n0] d fun
 d e=>q1 (qH 12 a e λf g=>qH 2 b e λi j=>qX 4 g j λk=>qK 4 k e λl=>qF 5 a λm=>qH 0 m e λm n=>qF 9 a λo=>qH 0 o e λo p=>qX 1 n p λq=>qL q
 e λs=>qH 2 b e λt u=>qX 1 s u λv=>qL v e λw=>qA 122 [n0,bF,n0,.nils] e λe x=>(q3 v w x/\q3 t u x/\q3 q s x/\q3 o p x/\q3 m n x/\q4 4 k l x/\q3 i j x/\q3 f
 g x)/\qT 4 e l x λf=>(q3 v w f/\q3 t u f/\q3 q s f/\q3 o p f/\q3 m n f)/\qG 0 e f λg=>qE g (n6 1) λg=>qU g false 2 f (λa=>qE w (nU 0) λb=>a [w,b] f) fun
 f i=>qP g bT (nth f 1) λf=>qI f (q8 [(0,1),(1,3),(4,1),(5,1),(6,1),(7,3),(10,1),(11,1)] [n0,bF,n0,.nils,n0,bF,n0,bF,n0,.nils,n0,n0] [] λa=>qT 12 d a i λa=>qK
 12 d a λb=>R (.tup [b,bF]) a) (q1 (qF 8 a λf=>z4o R a b c d w e i f)))):z01 P_ 40 [a0,a1,a2] h R:=cI zf5 z0d Tryd.func40
 Tryd.ntmps40 Tryd.call40 (by kernel_rfl) (by kernel_rfl) H
def ze4:=mkG [2,3,33] [(4,[2,3,4,6])] [4] []
theorem zd5 (H:qM true 69 a0 h λa b=>qM true 49 a1 b λb c=>qA 42 [n0,bF,n0,.nils,n0,bF,n0,bF,n0,.nils,n0,n0] c λc d=>qG 4 b d λe=>q8
 [(0,1),(1,3),(4,1),(5,1),(6,1),(7,3),(10,1),(11,1)] [n0,bF,n0,.nils,n0,bF,n0,bF,n0,.nils,n0,n0] [(0,n6 1),(2,e),(7,n6 3)] λe=>qA 42 [n0,bF,n0,.nils,n0,bF,n0,bF,n0,.nils,n0,n0]
 d λd f=>qT 12 d e f λe=>qQ (λf=>qG 0 b e λg=>qB .geq g (n6 5) λg=>qU g true 3 e (λa=>qH 0 b e λb c=>qB .leq c (n6 7) λd=>a [b,c,d] e) fun
 e i=>qP g (nth e 2) bF λe=>qI e (qF 11 d λe=>qT 1 e (n6 4) i λe=>f (frOf [(2,a),(3,b),(4,c),(6,d)]) e) (f (frOf [(2,a),(3,b),(4,c),(6,d)]) i)) λa b=>qG
 0 (a 3) b λc=>qE c (n6 2) λd=>qI d (qI d (qK 12 (a 6) b λc=>qT 12 (a 4) c b λb=>qK 12 (a 4) b λa=>R (.tup [a,bT]) b) (qE c (n6 3) λd=>qI d (qI d
 (qK 13 (a 2) b λc=>qK 8 (a 3) b λd=>qK 12 (a 6) b λe=>qS P_ 40 [c,d,e] b λb c=>qx 0 b λd=>qx 1 b λb=>qT 12 (a 4) d c λc=>qK 12 (a 4) c λa=>R
 (.tup [a,b]) c) (q8 [(0,1),(1,3),(4,1),(5,1),(6,1),(7,3),(10,1),(11,1)] [n0,bF,n0,.nils,n0,bF,n0,bF,n0,.nils,n0,n0] [] λc=>qT 12 (a 4) c b λb=>qK 12 (a 4) b
 λa=>R (.tup [a,bF]) b)) (qE c (n6 6) λd=>qI d (qI d (qK 13 (a 2) b λc=>qK 8 (a 3) b λd=>qK 12 (a 6) b λe=>qS P_ 40 [c,d,e] b λb c=>qx 0 b λd=>qx
 1 b λb=>qT 12 (a 4) d c λc=>qK 12 (a 4) c λa=>R (.tup [a,b]) c) (q8 [(0,1),(1,3),(4,1),(5,1),(6,1),(7,3),(10,1),(11,1)] [n0,bF,n0,.nils,n0,bF,n0,bF,n0,.nils,n0,n0]
 [] λc=>qT 12 (a 4) c b λb=>qK 12 (a 4) b λa=>R (.tup [a,bF]) b)) (qE c (n6 4) λd=>qI d (qI d (qK 13 (a 2) b λc=>qK 8 (a 3) b λd=>qK 12 (a 6) b fun
 e=>qS P_ 40 [c,d,e] b λb c=>qx 0 b λd=>qx 1 b λb=>qT 12 (a 4) d c λc=>qK 12 (a 4) c λa=>R (.tup [a,b]) c) (q8 [(0,1),(1,3),(4,1),(5,1),(6,1),(7,3),(10,1),(11,1)]
 [n0,bF,n0,.nils,n0,bF,n0,bF,n0,.nils,n0,n0] [] λc=>qT 12 (a 4) c b λb=>qK 12 (a 4) b λa=>R (.tup [a,bF]) b)) (qC .eql c (n6 7) (qK 13 (a 2) b λc=>qK 8
 (a 3) b λd=>qK 12 (a 6) b λe=>qS P_ 40 [c,d,e] b λb c=>qx 0 b λd=>qx 1 b λb=>qT 12 (a 4) d c λc=>qK 12 (a 4) c λa=>R (.tup [a,b]) c) (q8 [(0,1),(1,3),(4,1),(5,1),(6,1),(7,3),(10,1),(11,1)]
 [n0,bF,n0,.nils,n0,bF,n0,bF,n0,.nils,n0,n0] [] λc=>qT 12 (a 4) c b λb=>qK 12 (a 4) b λa=>R (.tup [a,bF]) b)))))) (qC .eql c (n6 5) (qK 12 (a 6) b λc=>qT
 12 (a 4) c b λb=>qK 12 (a 4) b λa=>R (.tup [a,bT]) b) (qE c (n6 3) λd=>qI d (qI d (qK 13 (a 2) b λc=>qK 8 (a 3) b λd=>qK 12 (a 6) b λe=>qS P_ 40
 [c,d,e] b λb c=>qx 0 b λd=>qx 1 b λb=>qT 12 (a 4) d c λc=>qK 12 (a 4) c λa=>R (.tup [a,b]) c) (q8 [(0,1),(1,3),(4,1),(5,1),(6,1),(7,3),(10,1),(11,1)]
 [n0,bF,n0,.nils,n0,bF,n0,bF,n0,.nils,n0,n0] [] λc=>qT 12 (a 4) c b λb=>qK 12 (a 4) b λa=>R (.tup [a,bF]) b)) (qE c (n6 6) λd=>qI d (qI d (qK 13 (a 2)
 b λc=>qK 8 (a 3) b λd=>qK 12 (a 6) b λe=>qS P_ 40 [c,d,e] b λb c=>qx 0 b λd=>qx 1 b λb=>qT 12 (a 4) d c λc=>qK 12 (a 4) c λa=>R (.tup [a,b])
 c) (q8 [(0,1),(1,3),(4,1),(5,1),(6,1),(7,3),(10,1),(11,1)] [n0,bF,n0,.nils,n0,bF,n0,bF,n0,.nils,n0,n0] [] λc=>qT 12 (a 4) c b λb=>qK 12 (a 4) b λa=>R (.tup
 [a,bF]) b)) (qE c (n6 4) λd=>qI d (qI d (qK 13 (a 2) b λc=>qK 8 (a 3) b λd=>qK 12 (a 6) b λe=>qS P_ 40 [c,d,e] b λb c=>qx 0 b λd=>qx 1 b λb=>qT
 12 (a 4) d c λc=>qK 12 (a 4) c λa=>R (.tup [a,b]) c) (q8 [(0,1),(1,3),(4,1),(5,1),(6,1),(7,3),(10,1),(11,1)] [n0,bF,n0,.nils,n0,bF,n0,bF,n0,.nils,n0,n0] []
 λc=>qT 12 (a 4) c b λb=>qK 12 (a 4) b λa=>R (.tup [a,bF]) b)) (qC .eql c (n6 7) (qK 13 (a 2) b λc=>qK 8 (a 3) b λd=>qK 12 (a 6) b λe=>qS P_ 40 [c,d,e]
 b λb c=>qx 0 b λd=>qx 1 b λb=>qT 12 (a 4) d c λc=>qK 12 (a 4) c λa=>R (.tup [a,b]) c) (q8 [(0,1),(1,3),(4,1),(5,1),(6,1),(7,3),(10,1),(11,1)] [n0,bF,n0,.nils,n0,bF,n0,bF,n0,.nils,n0,n0]
 [] λc=>qT 12 (a 4) c b λb=>qK 12 (a 4) b λa=>R (.tup [a,bF]) b))))))):z01 P_ 21 [a0,a1] h R:=cI ze4 z0d Tryd.func21 Tryd.ntmps21 Tryd.call21
 (by kernel_rfl) (by kernel_rfl) H
def z6z:=mkG [7,9,12] [(4,[0,1,12,13])] [] []
noncomputable def z3z:=lpOf 4 Tryd.f20
theorem zc0 (H:qn a0 λa=>qn a1 λb=>qC .neq a b (R bF h) (qn a0 λa=>qw P_ 26 z3z [(0,a0),(1,a1),(12,a),(13,n0)] h
 (λa _ b=>q5 a (R bT b)) λa b=>R (a 4) b)):z01 P_ 20 [a0,a1] h R:=cI z6z z0d Tryd.func20 Tryd.ntmps20 Tryd.call20 (by kernel_rfl) (by
 kernel_rfl) H
theorem z9p (H:qC .lss s13 s12 (q1 (qZ 1 s0 s13 h λa=>qZ 1 s1 s13 h λb=>qC .neq a b (Q .ret (frOf [(4,bF)]) h) (qB .add s13 (n6 1) fun
 a=>Q .normal (frOf [(0,s0),(1,s1),(12,s12),(13,a)]) h))) (Q (.exit 0) (frOf []) h)):WP P_ 26 z3z (frOf [(0,s0),(1,s1),(12,s12),(13,s13)]) h Q:=z15
 z6z [0] [0,1,12,13] [] [4] z0d (by kernel_rfl) (Eq.mpr (by kernel_rfl) H)
def zt3:=mkG [2,3,22] [] [] []
theorem zrn (H:qM true 40 a0 h λa b=>qM true 40 a1 b λb c=>qG 0 a c λd=>qG 0 b c λe=>qD .bool .eql d e λd=>qU d true 5 c (λd=>qH 1 a c
 λa e=>qH 1 b c λb f=>qE e f λg=>d [a,e,b,f,g] c) λc e=>qP d (nth c 4) bF λc=>qU c true 5 e (λc=>qH 2 a e λa d=>qH 2 b e λb f=>qS P_ 20 [d,f]
 e λe g=>c [a,d,b,f,e] g) λa b=>qP c (nth a 4) bF λa=>R a b):z01 P_ 64 [a0,a1] h R:=cI zt3 z0d Tryd.func64 Tryd.ntmps64 Tryd.call64 (by kernel_rfl)
 (by kernel_rfl) H
def zt4:=mkG [2,3,43,50] [] [] [(1,[(12,[2,3,24,29])])]
theorem zrp (H:qM true 42 a0 h λa b=>qM true 42 a1 b λb c=>qG 0 a c λd=>qG 0 b c λe=>qE d e λd=>qU d true 5 c (λd=>qH 4 a c λa e=>qH
 4 b c λb f=>qE e f λg=>d [a,e,b,f,g] c) λc e=>qP d (nth c 4) bF λc=>qU c true 5 e (λc=>qH 5 a e λa d=>qH 5 b e λb f=>qD .bool .eql d f λg=>c
 [a,d,b,f,g] e) λd e=>qP c (nth d 4) bF λc=>qU c true 5 e (λc=>qH 6 a e λa d=>qH 6 b e λb f=>qE d f λg=>c [a,d,b,f,g] e) λd e=>z4r [a,b,c,nth
 d 4] (later (λa=>qP (nth a 2) (nth a 3) bF λb=>qU b true 5 e (λb=>qH 10 (nth a 0) e λc d=>qH 10 (nth a 1) e λa f=>qE d f λg=>b [c,d,a,f,g] e) fun
 c d=>qP b (nth c 4) bF λb=>qU b true 5 d (λb=>qF 1 (nth a 0) λc=>qK 3 c d λe=>qF 1 (nth a 1) λa=>qK 3 a d λf=>qS P_ 64 [e,f] d λd g=>b [c,e,a,f,d]
 g) λc d=>qP b (nth c 4) bF λb=>qU b true 5 d (λb=>qF 7 (nth a 0) λc=>qK 3 c d λe=>qF 7 (nth a 1) λa=>qK 3 a d λf=>qS P_ 64 [e,f] d λd g=>b
 [c,e,a,f,d] g) λa c=>qP b (nth a 4) bF λa=>R a c) ())):z01 P_ 43 [a0,a1] h R:=cI zt4 z0d Tryd.func43 Tryd.ntmps43 Tryd.call43 (by kernel_rfl)
 (by kernel_rfl) H
def zqt:=mkG [2,6] [] [] []
theorem zpe (H:qM true 42 a0 h λa b=>qK 12 a b λa=>qK 12 a1 b λc=>qS P_ 43 [a,c] b λa b=>R a b):z01 P_ 61 [a0,a1] h R:=cI zqt z0d
 Tryd.func61 Tryd.ntmps61 Tryd.call61 (by kernel_rfl) (by kernel_rfl) H
def g_plan_put:=mkG [3,8,20,26] [] [] []
theorem ztp (H:qM true 42 a1 h λa b=>qS P_ 60 [a0,.fn (Fn.func 61) [] [a]] b λb c=>qC .geq b n0 (q1 (qX 12 a0 b λd=>qG 11 d c λd=>qG 11 a c fun
 a=>z8d (maxA [d,a]) (later (λa=>qX 12 a0 b λb=>qF 11 b λb=>qT 1 b a c λa=>q2 (R a0 a)) ()))) (qK 12 a c λa=>(1=0->[(0,Operand.tmp 25)]=[])/\z10
 true ⟨42,12,128⟩ [n0,bF,n0,.nils,n0,bF,n0,bF,n0,.nils,n0,n0] 1 [(0,a)] c (later (λa b=>q1 (q7 false ⟨42,12,128⟩ a0 a b λa b=>R a b)) ()))):z01 P_ 36 [a0,a1]
 h R:=cI g_plan_put z0d Tryd.func36 Tryd.ntmps36 Tryd.call36 (by kernel_rfl) (by kernel_rfl) H
def zib:=mkG [9,17] [(3,[1,5,8,9,10])] [] []
noncomputable def zed:=lpOf 3 Tryd.f37
theorem zpd (H:qn a0 λa=>qw P_ 22 zed [(1,a1),(5,n0),(8,a0),(9,a),(10,n0)] h (λa b c=>q5 a (R (b 5) c)) λa b=>R (a 4) b):z01 P_ 37
 [a0,a1] h R:=cI zib z0d Tryd.func37 Tryd.ntmps37 Tryd.call37 (by kernel_rfl) (by kernel_rfl) H
theorem zj7 (H:qC .lss s10 s9 (qY 12 s8 s10 h λa=>qA 42 [n0,bF,n0,.nils,n0,bF,n0,bF,n0,.nils,n0,n0] h λb c=>qT 12 b a c λa=>qG 0 b a λb=>qS
 P_ 62 [s1,b] a λa b=>qI a (qB .add s5 (n6 1) λa=>qB .add s10 (n6 1) λc=>Q .normal (frOf [(1,s1),(5,a),(8,s8),(9,s9),(10,c)]) b) (qB .add s10 (n6 1) λa=>Q
 .normal (frOf [(1,s1),(5,s5),(8,s8),(9,s9),(10,a)]) b)) (Q (.exit 0) (frOf [(5,s5)]) h)):WP P_ 22 zed (frOf [(1,s1),(5,s5),(8,s8),(9,s9),(10,s10)]) h Q:=z15
 zib [0] [1,5,8,9,10] [5] [4] z0d (by kernel_rfl) (Eq.mpr (by kernel_rfl) H)
def zeg:=mkG [7,27] [(3,[3,6,7,8])] [] []
noncomputable def zca:=lpOf 3 Tryd.f38
theorem zl3 (H:qn a0 λa=>qw P_ 30 zca [(3,.nils),(6,a0),(7,a),(8,n0)] h (λa b c=>q5 a (R (b 3) c)) λa b=>R (a 2) b):z01 P_ 38
 [a0] h R:=cI zeg z0d Tryd.func38 Tryd.ntmps38 Tryd.call38 (by kernel_rfl) (by kernel_rfl) H
theorem zgt (H:qC .lss s8 s7 (qY 12 s6 s8 h λa=>qA 42 [n0,bF,n0,.nils,n0,bF,n0,bF,n0,.nils,n0,n0] h λb c=>qT 12 b a c λa=>qG 0 b a λc=>qE
 c (n6 2) λc=>qU c false 3 a (λc=>qH 0 b a λb d=>qE d (n6 3) λe=>c [b,d,e] a) λa d=>qP c bT (nth a 2) λa=>qI a (qG 10 b d λa=>qG 11 b d λc=>q8
 [(0,1),(1,3),(4,1),(5,1),(6,1),(7,3),(10,1),(11,1)] [n0,bF,n0,.nils,n0,bF,n0,bF,n0,.nils,n0,n0] [(0,n6 4),(6,a),(7,c)] λa=>qT 12 b a d λa=>qK 12 b a λb=>qS
 P_ 36 [s3,b] a λa b=>qB .add s8 (n6 1) λc=>Q .normal (frOf [(3,a),(6,s6),(7,s7),(8,c)]) b) (qK 12 b d λa=>qS P_ 36 [s3,a] d λa b=>qB .add s8 (n6 1) fun
 c=>Q .normal (frOf [(3,a),(6,s6),(7,s7),(8,c)]) b)) (Q (.exit 0) (frOf [(3,s3)]) h)):WP P_ 30 zca (frOf [(3,s3),(6,s6),(7,s7),(8,s8)]) h Q:=z15 zeg
 [0] [3,6,7,8] [3] [2] z0d (by kernel_rfl) (Eq.mpr (by kernel_rfl) H)
def zn3:=mkG [7,15,19] [(3,[3,6,7,8])] [] []
noncomputable def zi9:=lpOf 3 Tryd.f39
theorem zto (H:qn a0 λa=>qw P_ 20 zi9 [(3,n6 3),(6,a0),(7,a),(8,n0)] h (λa b c=>q5 a (q8 [(0,1),(1,3),(4,1),(5,1),(6,1),(7,3),(10,1),(11,1)]
 [n0,bF,n0,.nils,n0,bF,n0,bF,n0,.nils,n0,n0] [(0,n6 5),(7,b 3)] λa=>(1=0->[(0,Operand.tmp 18)]=[])/\z10 true ⟨42,12,128⟩ [n0,bF,n0,.nils,n0,bF,n0,bF,n0,.nils,n0,n0]
 1 [(0,a)] c (later (λa b=>R a b) ()))) λa b=>R (a 2) b):z01 P_ 39 [a0] h R:=cI zn3 z0d Tryd.func39 Tryd.ntmps39 Tryd.call39 (by kernel_rfl) (by
 kernel_rfl) H
theorem zmf (H:qC .lss s8 s7 (qY 12 s6 s8 h λa=>qA 42 [n0,bF,n0,.nils,n0,bF,n0,bF,n0,.nils,n0,n0] h λb c=>qT 12 b a c λa=>qG 11 b a λb=>z8d
 (maxA [s3,b]) (later (λb=>qB .add s8 (n6 1) λc=>Q .normal (frOf [(3,b),(6,s6),(7,s7),(8,c)]) a) ())) (Q (.exit 0) (frOf [(3,s3)]) h)):WP P_ 20 zi9
 (frOf [(3,s3),(6,s6),(7,s7),(8,s8)]) h Q:=z15 zn3 [0] [3,6,7,8] [3] [2] z0d (by kernel_rfl) (Eq.mpr (by kernel_rfl) H)
def z9a:=mkG [2,3,27,35,41,44,45,50,52,53,58] [(3,[2,3,5,26,27,28])] [] []
noncomputable def z7t:=lpOf 3 Tryd.f19
theorem ze9 (H:qM true 69 a0 h λa b=>qM true 30 a1 b λb c=>q1 (qF 0 a λd=>qG 2 d c λd=>qF 9 a λe=>qG 0 e c λe=>qX 3 d e λd=>qG
 1 d c λd=>qF 9 a λe=>qG 1 e c λe=>qF 9 a λf=>qG 2 f c λf=>qB .add f (n6 1) λf=>qs 8 d (some e) (some f) λd=>qn d λe=>qw P_ 60 z7t
 [(2,a),(3,b),(5,.nils),(26,d),(27,e),(28,n0)] c (λa b c=>q5 a (q1 ((2=0->[(0,Operand.const (Value.int .i64 2)),(1,Operand.const (Value.int .i64 3))]=[])/\z10
 true ⟨3,1,8⟩ [n0] 2 [(0,n6 2),(1,n6 3)] c (later (λa c=>qH 0 (b 3) c λd e=>qS P_ 37 [b 5,a] c λa c=>q3 d e c/\qC .gtr a e (qS P_ 38 [b 5] c λa c=>q1 ((1=0->[(0,Operand.const
 (Value.int .i64 4))]=[])/\z10 true ⟨3,1,8⟩ [n0] 1 [(0,n6 4)] c (later (λc d=>qH 1 (b 3) d λb e=>qS P_ 37 [a,c] d λc d=>q3 b e d/\qC .gtr c e (qS P_ 39
 [a] d λa b=>R a b) (R a d)) ()))) (q1 ((1=0->[(0,Operand.const (Value.int .i64 4))]=[])/\z10 true ⟨3,1,8⟩ [n0] 1 [(0,n6 4)] c (later (λa c=>qH 1 (b 3) c
 λd e=>qS P_ 37 [b 5,a] c λa c=>q3 d e c/\qC .gtr a e (qS P_ 39 [b 5] c λa b=>R a b) (R (b 5) c)) ())))) ())))) λa b=>R (a 4) b)):z01 P_ 19 [a0,a1] h
 R:=cI z9a z0d Tryd.func19 Tryd.ntmps19 Tryd.call19 (by kernel_rfl) (by kernel_rfl) H
theorem zbw (H:qC .lss s28 s27 (qY 8 s26 s28 h λa=>qA 49 [n0,n0,n0,n0,n0,n0,.nils,.nils] h λb c=>qT 8 b a c λa=>qK 13 s2 a λc=>qK
 8 b a λb=>qS P_ 21 [c,b] a λa b=>qx 0 a λc=>qx 1 a λa=>qA 42 [n0,bF,n0,.nils,n0,bF,n0,bF,n0,.nils,n0,n0] b λb d=>qT 12 b c d λc=>qI a (qK 12 b c
 λa=>qS P_ 36 [s5,a] c λa b=>qB .add s28 (n6 1) λc=>Q .normal (frOf [(2,s2),(3,s3),(5,a),(26,s26),(27,s27),(28,c)]) b) (qB .add s28 (n6 1) λa=>Q .normal
 (frOf [(2,s2),(3,s3),(5,s5),(26,s26),(27,s27),(28,a)]) c)) (Q (.exit 0) (frOf [(3,s3),(5,s5)]) h)):WP P_ 60 z7t (frOf [(2,s2),(3,s3),(5,s5),(26,s26),(27,s27),(28,s28)])
 h Q:=z15 z9a [0] [2,3,5,26,27,28] [3,5] [4] z0d (by kernel_rfl) (Eq.mpr (by kernel_rfl) H)
def zqs:=mkG [2,3,11,15,19,22,24,27,36,38,39,40] [(7,[2,3,6,7,8,27,28])] [] []
noncomputable def zeq:=lpOf 7 Tryd.f9
theorem plan_Of_wp (H:qM true 28 a0 h λa b=>qM true 30 a1 b λb c=>qK 5 a c λd=>qS P_ 14 [d] c λc d=>qN c λc=>qU c false 3 d (λa=>qK 3 b d λb=>qS
 P_ 15 [b] d λc d=>qN c λe=>a [b,c,e] d) λd e=>qP c bT (nth d 2) λc=>qI c (R (.tup [.nils,.nils]) e) (qK 5 a e λc=>qS P_ 16 [c] e λc d=>qA 64 [.nils,.nils,.nils]
 d λd e=>qT 3 d c e λc=>qG 3 a c λe=>qn e λe=>qK 3 d c λf=>qS P_ 17 [e,f] c λc e=>qG 4 a e λf=>qn f λf=>qw P_ 44 zeq [(2,a),(3,b),(6,d),(7,c),(8,.nils),(27,f),(28,n0)]
 e (λa b c=>q5 a (R (.tup [b 7,b 8]) c)) λa b=>R (.tup [a 4,a 5]) b)):z01 P_ 9 [a0,a1] h R:=cI zqs z0d Tryd.func9 Tryd.ntmps9 Tryd.call9 (by kernel_rfl)
 (by kernel_rfl) H
theorem zpc (H:qC .lss s28 s27 (q1 (qK 5 s2 h λa=>qK 3 s6 h λb=>qK 3 s3 h λc=>((q4 3 s3 c h/\q4 3 s6 b h/\q4 5 s2 a h)/\qS P_ 18 [a,b,s7,s28] h fun
 a b=>q4 3 s3 c b/\qS P_ 19 [a,c] b λa b=>q2 ((1=0->[(0,Operand.tmp 38)]=[])/\z10 true ⟨38,1,24⟩ [.nils] 1 [(0,a)] b (later (λa b=>q1 (q7 true ⟨38,1,24⟩ s8
 a b λa b=>q2 (q2 (qB .add s28 (n6 1) λc=>Q .normal (frOf [(2,s2),(3,s3),(6,s6),(7,s7),(8,a),(27,s27),(28,c)]) b)))) ())))/\qS P_ 18 [a,b,s7,s28] h λa b=>q4
 3 s3 c b/\(q4 3 s3 c b/\qS P_ 19 [a,c] b λa b=>q2 ((1=0->[(0,Operand.tmp 38)]=[])/\z10 true ⟨38,1,24⟩ [.nils] 1 [(0,a)] b (later (λa b=>q1 (q7 true ⟨38,1,24⟩
 s8 a b λa b=>q2 (q2 (qB .add s28 (n6 1) λc=>Q .normal (frOf [(2,s2),(3,s3),(6,s6),(7,s7),(8,a),(27,s27),(28,c)]) b)))) ())))/\qS P_ 19 [a,c] b λa b=>q2 ((1=0->[(0,Operand.tmp
 38)]=[])/\z10 true ⟨38,1,24⟩ [.nils] 1 [(0,a)] b (later (λa b=>q2 (q1 (q7 true ⟨38,1,24⟩ s8 a b λa b=>q2 (q2 (qB .add s28 (n6 1) λc=>Q .normal (frOf
 [(2,s2),(3,s3),(6,s6),(7,s7),(8,a),(27,s27),(28,c)]) b))))) ())))) (Q (.exit 0) (frOf [(7,s7),(8,s8)]) h)):WP P_ 44 zeq (frOf [(2,s2),(3,s3),(6,s6),(7,s7),(8,s8),(27,s27),(28,s28)])
 h Q:=z15 zqs [0] [2,3,6,7,8,27,28] [7,8] [4,5] z0d (by kernel_rfl) (Eq.mpr (by kernel_rfl) H)
def zkh:=mkG [2,30] [] [] []
theorem zj8 (H:qM true 42 a0 h λa b=>qG 11 a b λc=>qG 11 a1 b λd=>qC .lss c d (R bF b) (qG 0 a b λc=>qC .eql c (n6 5) (R bT b) (qG 0 a b
 λc=>qC .eql c (n6 4) (qG 0 a1 b λc=>qB .neq c (n6 1) λc=>qU c true 5 b (λc=>qH 10 a b λa d=>qH 10 a1 b λe f=>qE d f λg=>c [a,d,e,f,g] b) fun
 a b=>qP c (nth a 4) bF λa=>R a b) (qK 12 a b λa=>qK 12 a1 b λc=>qS P_ 43 [a,c] b λa b=>R a b)))):z01 P_ 42 [a0,a1] h R:=cI zkh z0d Tryd.func42
 Tryd.ntmps42 Tryd.call42 (by kernel_rfl) (by kernel_rfl) H
def zoe:=mkG [3,7] [] [] []
theorem zmg (H:qM true 42 a1 h λa b=>qS P_ 41 [a0,.fn (Fn.func 42) [] [a]] b λa b=>R a b):z01 P_ 22 [a0,a1] h R:=cI zoe z0d Tryd.func22
 Tryd.ntmps22 Tryd.call22 (by kernel_rfl) (by kernel_rfl) H
def zcu:=mkG [3,16,20,23,27,31,33,34,37,47,64,72,79] [(7,[1,3,7,36,37,38]),(11,[1,3,7,9,10,36,37,38,63,64,65])] [] []
noncomputable def za4:=lpOf 7 Tryd.f10
noncomputable def z90:=lpOf 11 Tryd.f10
theorem zpb (H:qM true 28 a0 h λa b=>qK 5 a b λc=>qS P_ 14 [c] b λb c=>qN b λb=>qU b false 6 c (λb=>qn a2 λd=>qH 4 a c λa e=>qn e fun
 f=>qB .neq d f λg=>b [a2,d,a,e,f,g] c) λc d=>qP b bT (nth c 5) λb=>qI b (R bF d) (qK 5 a d λb=>qS P_ 16 [b] d λb c=>qA 64 [.nils,.nils,.nils] c fun
 c d=>qT 3 c b d λb=>qG 3 a b λd=>qn d λd=>qK 3 c b λe=>qS P_ 17 [d,e] b λb d=>qS P_ 20 [a1,b] d λb d=>qN b λb=>qI b (R bF d) (qn a2 λb=>qw
 P_ 84 za4 [(1,a1),(3,a),(7,c),(36,a2),(37,b),(38,n0)] d (λa _ b=>q5 a (R bT b)) λa b=>R (a 6) b))):z01 P_ 10 [a0,a1,a2] h R:=cI zcu z0d
 Tryd.func10 Tryd.ntmps10 Tryd.call10 (by kernel_rfl) (by kernel_rfl) H
theorem zj6 (H:qC .lss s38 s37 (qZ 1 s36 s38 h λa=>qK 5 s3 h λb=>qK 3 s7 h λc=>qS P_ 18 [b,c,s1,s38] h λb c=>qA 69 [.nils,.nils,.nils,.nils,.nils,.nils,.nils,.nils,.nils,n0,n0,n0,.nils]
 c λc d=>qT 13 c b d λb=>q1 (qG 2 s3 b λd=>qF 9 c λe=>qG 0 e b λe=>qX 3 d e λd=>qG 1 d b λd=>qF 9 c λe=>qG 1 e b λe=>qF 9 c λf=>qG 2
 f b λf=>qB .add f (n6 1) λf=>qs 8 d (some e) (some f) λd=>qn d λe=>qw P_ 84 z90 [(1,s1),(3,s3),(7,s7),(9,a),(10,c),(36,s36),(37,s37),(38,s38),(63,d),(64,e),(65,n0)]
 b (λa b c=>pIdx a 2 (pIdx 2 2 (qB .add (b 38) (n6 1) λa=>Q .normal (frOf (kq b [1,3,7,36,37] [(38,a)])) c) (pIdx 2 1 (qB .add (b 38) (n6 1) λa=>Q .normal
 (frOf (kq b [1,3,7,36,37] [(38,a)])) c) (Q (.exit 2) (frOf []) c))) False) λa b=>Q .ret (frOf [(6,a 6)]) b)) (Q (.exit 0) (frOf []) h)):WP P_ 84 za4
 (frOf [(1,s1),(3,s3),(7,s7),(36,s36),(37,s37),(38,s38)]) h Q:=z15 zcu [0] [1,3,7,36,37,38] [] [6] z0d (by kernel_rfl) (Eq.mpr (by kernel_rfl) H)
theorem zhz (H:qC .lss s65 s64 (qY 8 s63 s65 h λa=>qA 49 [n0,n0,n0,n0,n0,n0,.nils,.nils] h λb c=>qT 8 b a c λa=>qK 13 s10 a λc=>qK 8 b a
 λb=>qS P_ 21 [c,b] a λa b=>qx 0 a λc=>qx 1 a λa=>qA 42 [n0,bF,n0,.nils,n0,bF,n0,bF,n0,.nils,n0,n0] b λb d=>qT 12 b c d λc=>qU a true 4 c (λa=>qK
 12 b c λb=>qS P_ 22 [s9,b] c λc d=>qN c λe=>a [s9,b,c,e] d) λb c=>qP a (nth b 3) bF λa=>qI a (Q .ret (frOf [(6,bF)]) c) (qB .add s65 (n6 1) λa=>Q
 .normal (frOf [(1,s1),(3,s3),(7,s7),(9,s9),(10,s10),(36,s36),(37,s37),(38,s38),(63,s63),(64,s64),(65,a)]) c)) (Q (.exit 2) (frOf [(1,s1),(3,s3),(7,s7),(36,s36),(37,s37),(38,s38)])
 h)):WP P_ 84 z90 (frOf [(1,s1),(3,s3),(7,s7),(9,s9),(10,s10),(36,s36),(37,s37),(38,s38),(63,s63),(64,s64),(65,s65)]) h Q:=z15 zcu [2,1,0]
 [1,3,7,9,10,36,37,38,63,64,65] [1,3,7,36,37,38] [6] z0d (by kernel_rfl) (Eq.mpr (by kernel_rfl) H)
def ze0:=mkG [5,7,12,14,16,21,25,31,56,61,62] [] [] [(3,[(10,[1,2,3,43,50])])]
theorem zd0 (H:q8 [(0,1),(1,1),(2,1)] [n0,n0,bF] [(0,n6 1)] λa=>(1=0->[(0,Operand.tmp 4)]=[])/\z10 true ⟨46,3,24⟩ [n0,n0,bF] 1 [(0,a)] h (later
 (λa b=>q8 [(0,1),(1,1),(2,1)] [n0,n0,bF] [(0,n6 1)] λc=>(1=0->[(0,Operand.tmp 6)]=[])/\z10 true ⟨46,3,24⟩ [n0,n0,bF] 1 [(0,c)] b (later (λb c=>q8 [(0,1),(1,1),(2,1),(3,1),(4,1),(5,1),(6,1),(7,1)]
 [n0,n0,n0,n0,n0,n0,.nils,.nils] [(0,n6 15)] λd=>q8 [(0,1),(1,1),(2,1),(3,1),(4,1),(5,1),(6,1),(7,1)] [n0,n0,n0,n0,n0,n0,.nils,.nils] [(0,n6 2)] λe=>q8 [(0,1),(1,1),(2,1),(3,1),(4,1),(5,1),(6,1),(7,1)]
 [n0,n0,n0,n0,n0,n0,.nils,.nils] [(0,n6 16)] λf=>q8 [(0,1),(1,1),(2,1),(3,1),(4,1),(5,1),(6,1),(7,1)] [n0,n0,n0,n0,n0,n0,.nils,.nils] [(0,n6 17)] λg=>(4=0->[(0,Operand.tmp
 8),(1,Operand.tmp 9),(2,Operand.tmp 10),(3,Operand.tmp 11)]=[])/\z10 true ⟨49,8,96⟩ [n0,n0,n0,n0,n0,n0,.nils,.nils] 4 [(0,d),(1,e),(2,f),(3,g)] c (later (fun
 c d=>q8 [(0,1),(1,1),(2,1)] [.nils,.nils,n0] [(0,b),(1,c)] λb=>(1=0->[(0,Operand.tmp 13)]=[])/\z10 true ⟨52,3,56⟩ [.nils,.nils,n0] 1 [(0,b)] d (later (λb
 c=>q8 [(0,1),(1,1),(2,1)] [n0,n0,n0] [(1,n0),(2,n6 2)] λd=>(1=0->[(0,Operand.tmp 15)]=[])/\z10 true ⟨54,3,24⟩ [n0,n0,n0] 1 [(0,d)] c (later (λc d=>q8 [(0,1),(1,1),(2,1),(3,1),(4,1)]
 [.nils,.nils,.nils,.nils,.nils] [(1,a),(2,b),(4,c)] λa=>qA 28 [.nils,.nils,.nils,.nils,.nils] d λb c=>qT 5 b a c λa=>qK 5 b a λc=>q8 [(0,1),(1,1),(2,1)]
 [n0,n0,n0] [] λd=>qS P_ 9 [c,d] a λa c=>qx 0 a λd=>qx 1 a λa=>qn a λe=>qE e (n6 1) λe=>qU e true 5 c (λb=>qX 1 a n0 λd=>qL d c λe=>qn e
 λf=>qE f (n6 1) λg=>b [a,d,e,f,g] c) λc f=>qP e (nth c 4) bF λc=>qU c true 7 f (λb=>qX 1 a n0 λc=>qL c f λd=>qX 12 d n0 λe=>qH 0 e f λg
 i=>qE i (n6 1) λj=>b [a,c,d,e,g,i,j] f) λe f=>qP c (nth e 6) bF λc=>qU c true 7 f (λb=>qX 1 a n0 λc=>qL c f λd=>qX 12 d n0 λe=>qH 11 e f fun
 g i=>qE i (n6 3) λj=>b [a,c,d,e,g,i,j] f) λe f=>z4r [b,d,a,c,nth e 6] (later (λa=>qP (nth a 3) (nth a 4) bF λb=>qU b true 4 f (λb=>qK 5 (nth a 0)
 f λc=>qS P_ 10 [c,nth a 1,nth a 2] f λd e=>b [c,nth a 1,nth a 2,d] e) λc d=>qP b (nth c 3) bF λb=>qU b true 5 d (λb=>qK 5 (nth a 0) d λc=>(1=0->[(0,Operand.const
 (Value.slice none 0 0))]=[])/\z10 true ⟨38,1,24⟩ [.nils] 1 [(0,.nils)] d (later (λd e=>qS P_ 10 [c,nth a 1,d] e λe f=>qN e λg=>b [c,nth a 1,d,e,g] f)
 ())) λa c=>qP b (nth a 4) bF λa=>R a c) ())) ())) ())) ())) ())) ())):z01 P_ 5 [] h R:=cI ze0 z0d Tryd.func5 Tryd.ntmps5 Tryd.call5 (by
 kernel_rfl) (by kernel_rfl) H
def z4y:=mkG [2,11,14,17,32,36,42,56,63,66] [(7,[2,6,35,36,37]),(10,[2,6,8,35,36,37,41,42,43])] [] []
noncomputable def z3y:=lpOf 7 Tryd.f4
noncomputable def z3p:=lpOf 10 Tryd.f4
theorem zbs (H:qM true 28 a0 h λa b=>qS P_ 5 [] b λb c=>qN b λb=>qI b (R bF c) (qK 5 a c λb=>qS P_ 6 [b] c λb c=>qU b false 3 c
 (λb=>qK 5 a c λa=>qS P_ 7 [a] c λc d=>qN c λe=>b [a,c,e] d) λc d=>qP b bT (nth c 2) λb=>qU b false 2 d (λa=>qB .lss a1 n0 λb=>a [a1,b] d)
 λc d=>qP b bT (nth c 1) λb=>qU b false 2 d (λa=>qB .gtr a1 (n6 8) λb=>a [a1,b] d) λc d=>qP b bT (nth c 1) λb=>qI b (R bT d) (qK 5 a d λb=>q8
 [(0,1),(1,1),(2,1)] [n0,n0,n0] [(2,a1)] λc=>qS P_ 9 [b,c] d λb c=>qx 0 b λ_=>qx 1 b λb=>qn b λd=>qw P_ 68 z3y [(2,a),(6,b),(35,b),(36,d),(37,n0)]
 c (λa b c=>q5 a (qn (b 6) λa=>qG 4 (b 2) c λb=>qn b λb=>qE a b λa=>R a c)) λa b=>R (a 4) b))):z01 P_ 4 [a0,a1] h R:=cI z4y
 z0d Tryd.func4 Tryd.ntmps4 Tryd.call4 (by kernel_rfl) (by kernel_rfl) H
theorem z9m (H:qC .lss s37 s36 (qZ 1 s35 s37 h λa=>qn a λb=>qw P_ 68 z3p [(2,s2),(6,s6),(8,a),(35,s35),(36,s36),(37,s37),(41,a),(42,b),(43,n0)]
 h (λa b c=>pIdx a 2 (pIdx 2 2 (qB .add (b 37) (n6 1) λa=>Q .normal (frOf (kq b [2,6,35,36] [(37,a)])) c) (pIdx 2 1 (qB .add (b 37) (n6 1) λa=>Q .normal (frOf
 (kq b [2,6,35,36] [(37,a)])) c) (Q (.exit 2) (frOf (kq b [2,6] [])) c))) False) λa b=>Q .ret (frOf [(4,a 4)]) b) (Q (.exit 0) (frOf [(2,s2),(6,s6)]) h)):WP P_
 68 z3y (frOf [(2,s2),(6,s6),(35,s35),(36,s36),(37,s37)]) h Q:=z15 z4y [0] [2,6,35,36,37] [2,6] [4] z0d (by kernel_rfl)
 (Eq.mpr (by kernel_rfl) H)
theorem z9h (H:qC .lss s43 s42 (qY 12 s41 s43 h λa=>qA 42 [n0,bF,n0,.nils,n0,bF,n0,bF,n0,.nils,n0,n0] h λb c=>qT 12 b a c λa=>qG
 0 b a λc=>qB .neq c (n6 1) λc=>qU c true 4 a (λc=>qH 0 b a λb d=>qB .neq d (n6 5) λe=>c [b,d,e,e] a) λa b=>qU (nth a 3) false 3 b (λa=>qn s8
 λc=>qB .neq c (n6 1) λd=>a [s8,c,d] b) λb d=>qU c true 1 d (λc=>qP (nth a 3) bT (nth b 2) λa=>c [a] d) λa b=>qP c (nth a 0) bF λa=>qI a (Q .ret
 (frOf [(4,bF)]) b) (qB .add s43 (n6 1) λa=>Q .normal (frOf [(2,s2),(6,s6),(8,s8),(35,s35),(36,s36),(37,s37),(41,s41),(42,s42),(43,a)]) b)) (Q (.exit 2) (frOf [(2,s2),(6,s6),(35,s35),(36,s36),(37,s37)])
 h)):WP P_ 68 z3p (frOf [(2,s2),(6,s6),(8,s8),(35,s35),(36,s36),(37,s37),(41,s41),(42,s42),(43,s43)]) h Q:=z15 z4y [2,1,0]
 [2,6,8,35,36,37,41,42,43] [2,6,35,36,37] [4] z0d (by kernel_rfl) (Eq.mpr (by kernel_rfl) H)
end
end
section
open Go.Abs
abbrev It:=z0e
def sgN (n:Nat):Int:=IntKind.i64.wrap n
def z2y (op:Int):Int:=if 1<=op/\op<=3 then 0 else if 4<=op/\op<=7 then 1 else if 8<=op/\op<=10 then 2 else -1
def z4q (x:It) (s:Int):Bool:=
 if x.Op=1 then decide (x.Bin=0)
 else if x.Op=2 then decide (x.Bin=0)&&decide ((x.N:Int)<max s 0)
 else if x.Op=3 then decide (x.Bin=0)&&decide (x.N<16)
 else if 4<=x.Op/\x.Op<=7 then decide (x.Bin=0)&&decide (x.N=0)
 else if x.Op=8 then decide (x.N=0)&&decide (0<=x.Bin/\x.Bin<=8)
 else if x.Op=9 then decide (x.N=0)&&decide (0<=x.Bin/\x.Bin<=8/\x.Bin≠4)
 else if x.Op=10 then decide (x.N=0)&&decide (x.Bin=5\/x.Bin=6)
 else false
theorem zdk {x:It} {s:Int} (h:z4q x s=true):0<=z2y x.Op/\z2y x.Op<=2:=by
 unfold z4q at h;unfold z2y;by_cases h1:1<=x.Op/\x.Op<=3
 ·rw [if_pos h1];omega
 ·rw [if_neg h1];by_cases h2:4<=x.Op/\x.Op<=7
  ·rw [if_pos h2];omega
  ·rw [if_neg h2];by_cases h3:8<=x.Op/\x.Op<=10
   ·rw [if_pos h3];omega
   ·rw [if_neg (by omega),if_neg (by omega),if_neg (by omega),if_neg h2,if_neg (by omega),if_neg (by omega),if_neg (by omega)] at h;cases h
def z4d (x:It) (s:Int):Int:=if z4q x s then z2y x.Op else -1
def high:List It->Int
 | []=>0
 | x::l=>1-z2y x.Op+high l
theorem zt8 (l m:List It):high (l++m)=high l+high m:=by
 induction l with
 | nil=>simp [high]
 | cons x l ih=>simp only [List.cons_append,high,ih];omega
theorem zga (l:List It) (x:It):high (l++[x])=high l+(1-z2y x.Op):=by rw [zt8];simp [high]
def okL (s:Int) (l:List It):Prop:=∀ k,k<l.length->∀ x,l[k]?=some x->z4q x s=true/\z2y x.Op<=high (l.take k)
def goodP (l:List It) (s:Int):Prop:=okL s l/\high l=1/\l.length<=64
theorem zm5 {l:List It} {k:Nat} {x:It} (hx:l[k]?=some x):high (l.take (k+1))=high (l.take k)+(1-z2y x.Op):=by
 rw [List.take_add_one,hx];exact zga _ _
theorem okL_high {s:Int} {l:List It} (h:okL s l):∀ k,k<=l.length->0<=high (l.take k)/\(0<k->1<=high (l.take k)):=by
 intro k
 induction k with
 | zero=>intro _;simp [high]
 | succ k ih=>
  intro hk;have hx:l[k]?=some l[k]:=List.getElem?_eq_getElem (by omega);obtain ⟨h1,h2⟩:=h k (by omega) _ hx;rw [zm5 hx];omega
def zpq (s:Int):List It->Int->Option Int
 | [],w=>some w
 | x::l,w=>if z4d x s<0\/w=0 then none else zpq s l (w-1+z4d x s)
theorem zok {s:Int} {l:List It} {x:It}:okL s (l++[x])↔okL s l/\z4q x s=true/\z2y x.Op<=high l:=by
 constructor
 ·intro h;refine ⟨λk hk y hy=>?_,?_⟩
  ·have:=h k (by simp;omega) y (by rw [List.getElem?_append_left hk];exact hy);rwa [List.take_append_of_le_length (by omega)] at this
  ·have:=h l.length (by simp) x (by simp);rwa [List.take_left'] at this
   rfl
 ·rintro ⟨h,h1,h2⟩ k hk y hy;by_cases hkl:k<l.length
  ·rw [List.getElem?_append_left hkl] at hy;rw [List.take_append_of_le_length (by omega)];exact h k hkl y hy
  ·have hke:k=l.length:=by simp at hk;omega
   subst hke;simp at hy;subst hy;rw [List.take_left' rfl];exact ⟨h1,h2⟩
theorem want_good (s:Int):∀ (n:Nat) (l:List It),l.length=n->∀ (w:Int),0<=w->(zpq s l.reverse w=some 0↔okL s l/\high l=w):=by
 intro n
 induction n with
 | zero=>
  intro l hl w hw;have:l=[]:=List.length_eq_zero_iff.1 hl;subst this;simp [zpq,high,okL];omega
 | succ n ih=>
  intro l hl w hw;rcases List.eq_nil_or_concat l with rfl | ⟨m,x,rfl⟩
  ·simp at hl
  ·rw [List.concat_eq_append] at *;simp at hl;rw [List.reverse_append,List.reverse_singleton,List.singleton_append];simp only [zpq];rw [zok,zga];by_cases hf:z4q x s=true
   ·have ht:z4d x s=z2y x.Op:=by unfold z4d;rw [if_pos hf]
    obtain ⟨h1,h2⟩:=zdk hf;rw [ht];by_cases hw0:w=0
    ·rw [if_pos (Or.inr hw0)];constructor
     ·intro h;cases h
     ·rintro ⟨⟨h3,h4,h5⟩,h6⟩;omega
    ·rw [if_neg (by omega),ih m hl _ (by omega)];constructor
     ·rintro ⟨h3,h4⟩;exact ⟨⟨h3,hf,by omega⟩,by omega⟩
     ·rintro ⟨⟨h3,h4,h5⟩,h6⟩;exact ⟨h3,by omega⟩
   ·have ht:z4d x s=-1:=by unfold z4d;rw [if_neg hf]
    rw [ht,if_pos (Or.inl (by omega))];constructor
    ·intro h;cases h
    ·rintro ⟨⟨h3,h4,h5⟩,h6⟩;exact absurd h4 hf
end
end Go.Proofs.YtjlogcfggfmacaaDoor

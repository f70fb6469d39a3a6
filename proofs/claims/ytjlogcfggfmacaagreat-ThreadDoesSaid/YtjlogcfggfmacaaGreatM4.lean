/- Own texts, merged: Types, VcK, VcR, VcG, VcQ, CdMath. -/
import Derived.Test.YtjlogcfggfmacaaGreatM3
import Derived.Test.YtjlogcfggfmacaaGreatProg
set_option linter.unusedVariables false
set_option linter.unusedSimpArgs false
open Nat (reduceEqDiff reduceAdd reduceLeDiff)
set_option maxRecDepth 100000
set_option maxHeartbeats 4000000
namespace Go.Proofs.YtjlogcfggfmacaaGreat
section
open Go.Abs
structure z0b where
 Kind:Int
 Rec:Int
 Once:Bool
 deriving DecidableEq,Inhabited
def z0b.cells (x:z0b):List AV:=[.int .i64 x.Kind,.int .i64 x.Rec,.bool x.Once]
def z0b.ok (x:z0b):Prop:=okI x.Kind/\okI x.Rec/\okT x.Once
theorem z0b.of {cs:List AV} (h:TyA Tryz.prog 147 cs):∃ x:z0b,cs=x.cells/\x.ok:=by
 obtain ⟨parts,rfl,hp⟩:=h.z5f Tryz.underlying147;simp only [List.map_cons,List.map_nil] at hp;obtain ⟨p0,r0,rfl,t0,hp⟩:=hp.cons_inv;obtain ⟨p1,r1,rfl,t1,hp⟩:=hp.cons_inv;obtain ⟨p2,r2,rfl,t2,hp⟩:=hp.cons_inv;obtain rfl:=hp.z8k;obtain ⟨x0,rfl,k0⟩:=((λ_ h=>h.z3f Tryz.underlying3:∀ cs,TyA Tryz.prog 3 cs->∃ x:Int,cs=(encI) x/\(okI) x)) _ t0;obtain ⟨x1,rfl,k1⟩:=((λ_ h=>h.z3f Tryz.underlying3:∀ cs,TyA Tryz.prog 3 cs->∃ x:Int,cs=(encI) x/\(okI) x)) _ t1;obtain ⟨x2,rfl,k2⟩:=((λ_ h=>h.zwt Tryz.underlying4:∀ cs,TyA Tryz.prog 4 cs->∃ x:Bool,cs=(encT) x/\(okT) x)) _ t2;exact ⟨⟨x0,x1,x2⟩,rfl,⟨k0,k1,k2⟩⟩
theorem z0b.c0 (x:z0b) (K:AV->Prop):z04 none x.cells 0 K=K (.int .i64 x.Kind):=by simp [z04,z0b.cells]
theorem z0b.c1 (x:z0b) (K:AV->Prop):z04 none x.cells 1 K=K (.int .i64 x.Rec):=by simp [z04,z0b.cells]
theorem z0b.c2 (x:z0b) (K:AV->Prop):z04 none x.cells 2 K=K (.bool x.Once):=by simp [z04,z0b.cells]
theorem z0b.call (x:z0b) (K:AV->Prop):z04 (some 3) x.cells 0 K=K (.agg x.cells):=by simp [z04,z0b.cells]
theorem z0b.put (x:z0b) (h:z00) (ty:TypeId) (K:z00->Prop):z1d 3 (.ptr h.next 0) (.agg x.cells) (h.push (.row ty [.int .i64 0,.int .i64 0,.bool false])) K=K (h.push (.row ty x.cells)):=z13 (by rfl) (by rfl) K
theorem z0b.r:(type_of% @z0b.c0)/\(type_of% @z0b.c1)/\(type_of% @z0b.c2)/\(type_of% @z0b.call)/\(type_of% @z0b.put):=⟨@z0b.c0,@z0b.c1,@z0b.c2,@z0b.call,@z0b.put⟩
structure z09 where
 Op:Int
 Bin:Int
 N:Nat
 deriving DecidableEq,Inhabited
def z09.cells (x:z09):List AV:=[.int .i64 x.Op,.int .i64 x.Bin,.int .u64 (x.N:Nat)]
def z09.ok (x:z09):Prop:=okI x.Op/\okI x.Bin/\okN x.N
theorem z09.of {cs:List AV} (h:TyA Tryz.prog 67 cs):∃ x:z09,cs=x.cells/\x.ok:=by
 obtain ⟨parts,rfl,hp⟩:=h.z5f Tryz.underlying67;simp only [List.map_cons,List.map_nil] at hp;obtain ⟨p0,r0,rfl,t0,hp⟩:=hp.cons_inv;obtain ⟨p1,r1,rfl,t1,hp⟩:=hp.cons_inv;obtain ⟨p2,r2,rfl,t2,hp⟩:=hp.cons_inv;obtain rfl:=hp.z8k;obtain ⟨x0,rfl,k0⟩:=((λ_ h=>h.z3f Tryz.underlying3:∀ cs,TyA Tryz.prog 3 cs->∃ x:Int,cs=(encI) x/\(okI) x)) _ t0;obtain ⟨x1,rfl,k1⟩:=((λ_ h=>h.z3f Tryz.underlying3:∀ cs,TyA Tryz.prog 3 cs->∃ x:Int,cs=(encI) x/\(okI) x)) _ t1;obtain ⟨x2,rfl,k2⟩:=((λ_ h=>h.u64_of Tryz.underlying65:∀ cs,TyA Tryz.prog 65 cs->∃ x:Nat,cs=(encN) x/\(okN) x)) _ t2;exact ⟨⟨x0,x1,x2⟩,rfl,⟨k0,k1,k2⟩⟩
theorem z09.c0 (x:z09) (K:AV->Prop):z04 none x.cells 0 K=K (.int .i64 x.Op):=by simp [z04,z09.cells]
theorem z09.c1 (x:z09) (K:AV->Prop):z04 none x.cells 1 K=K (.int .i64 x.Bin):=by simp [z04,z09.cells]
theorem z09.c2 (x:z09) (K:AV->Prop):z04 none x.cells 2 K=K (.int .u64 (x.N:Nat)):=by simp [z04,z09.cells]
theorem z09.call (x:z09) (K:AV->Prop):z04 (some 3) x.cells 0 K=K (.agg x.cells):=by simp [z04,z09.cells]
theorem z09.put (x:z09) (h:z00) (ty:TypeId) (K:z00->Prop):z1d 3 (.ptr h.next 0) (.agg x.cells) (h.push (.row ty [.int .i64 0,.int .i64 0,.int .u64 0])) K=K (h.push (.row ty x.cells)):=z13 (by rfl) (by rfl) K
theorem z09.r:(type_of% @z09.c0)/\(type_of% @z09.c1)/\(type_of% @z09.c2)/\(type_of% @z09.call)/\(type_of% @z09.put):=⟨@z09.c0,@z09.c1,@z09.c2,@z09.call,@z09.put⟩
structure z0a where
 Op:Int
 Dst:Int
 Src:Int
 Rec:Int
 N:Int
 To:Int
 Items:Option (List z09)
 Index:Option (List z09)
 deriving DecidableEq,Inhabited
def z0a.cells (x:z0a):List AV:=[.int .i64 x.Op,.int .i64 x.Dst,.int .i64 x.Src,.int .i64 x.Rec,.int .i64 x.N,.int .i64 x.To,slAV 3 (z09.cells) x.Items,slAV 3 (z09.cells) x.Index]
def z0a.ok (x:z0a):Prop:=okI x.Op/\okI x.Dst/\okI x.Src/\okI x.Rec/\okI x.N/\okI x.To/\(okSl (z09.ok)) x.Items/\(okSl (z09.ok)) x.Index
theorem z0a.of {cs:List AV} (h:TyA Tryz.prog 56 cs):∃ x:z0a,cs=x.cells/\x.ok:=by
 obtain ⟨parts,rfl,hp⟩:=h.z5f Tryz.underlying56;simp only [List.map_cons,List.map_nil] at hp;obtain ⟨p0,r0,rfl,t0,hp⟩:=hp.cons_inv;obtain ⟨p1,r1,rfl,t1,hp⟩:=hp.cons_inv;obtain ⟨p2,r2,rfl,t2,hp⟩:=hp.cons_inv;obtain ⟨p3,r3,rfl,t3,hp⟩:=hp.cons_inv;obtain ⟨p4,r4,rfl,t4,hp⟩:=hp.cons_inv;obtain ⟨p5,r5,rfl,t5,hp⟩:=hp.cons_inv;obtain ⟨p6,r6,rfl,t6,hp⟩:=hp.cons_inv;obtain ⟨p7,r7,rfl,t7,hp⟩:=hp.cons_inv;obtain rfl:=hp.z8k;obtain ⟨x0,rfl,k0⟩:=((λ_ h=>h.z3f Tryz.underlying3:∀ cs,TyA Tryz.prog 3 cs->∃ x:Int,cs=(encI) x/\(okI) x)) _ t0;obtain ⟨x1,rfl,k1⟩:=((λ_ h=>h.z3f Tryz.underlying3:∀ cs,TyA Tryz.prog 3 cs->∃ x:Int,cs=(encI) x/\(okI) x)) _ t1;obtain ⟨x2,rfl,k2⟩:=((λ_ h=>h.z3f Tryz.underlying3:∀ cs,TyA Tryz.prog 3 cs->∃ x:Int,cs=(encI) x/\(okI) x)) _ t2;obtain ⟨x3,rfl,k3⟩:=((λ_ h=>h.z3f Tryz.underlying3:∀ cs,TyA Tryz.prog 3 cs->∃ x:Int,cs=(encI) x/\(okI) x)) _ t3;obtain ⟨x4,rfl,k4⟩:=((λ_ h=>h.z3f Tryz.underlying3:∀ cs,TyA Tryz.prog 3 cs->∃ x:Int,cs=(encI) x/\(okI) x)) _ t4;obtain ⟨x5,rfl,k5⟩:=((λ_ h=>h.z3f Tryz.underlying3:∀ cs,TyA Tryz.prog 3 cs->∃ x:Int,cs=(encI) x/\(okI) x)) _ t5;obtain ⟨x6,rfl,k6⟩:=((λ_ h=>h.zgg Tryz.underlying54 (show Tryz.prog.cellsOf 67=3 by kernel_rfl) (by omega) (λ_ h=>z09.of h):∀ cs,TyA Tryz.prog 54 cs->∃ x:Option (List z09),cs=(λo=>[slAV 3 (z09.cells) o]) x/\(okSl (z09.ok)) x)) _ t6;obtain ⟨x7,rfl,k7⟩:=((λ_ h=>h.zgg Tryz.underlying54 (show Tryz.prog.cellsOf 67=3 by kernel_rfl) (by omega) (λ_ h=>z09.of h):∀ cs,TyA Tryz.prog 54 cs->∃ x:Option (List z09),cs=(λo=>[slAV 3 (z09.cells) o]) x/\(okSl (z09.ok)) x)) _ t7
 exact ⟨⟨x0,x1,x2,x3,x4,x5,x6,x7⟩,rfl,⟨k0,k1,k2,k3,k4,k5,k6,k7⟩⟩
theorem z0a.c0 (x:z0a) (K:AV->Prop):z04 none x.cells 0 K=K (.int .i64 x.Op):=by simp [z04,z0a.cells]
theorem z0a.c1 (x:z0a) (K:AV->Prop):z04 none x.cells 1 K=K (.int .i64 x.Dst):=by simp [z04,z0a.cells]
theorem z0a.c2 (x:z0a) (K:AV->Prop):z04 none x.cells 2 K=K (.int .i64 x.Src):=by simp [z04,z0a.cells]
theorem z0a.c3 (x:z0a) (K:AV->Prop):z04 none x.cells 3 K=K (.int .i64 x.Rec):=by simp [z04,z0a.cells]
theorem z0a.c4 (x:z0a) (K:AV->Prop):z04 none x.cells 4 K=K (.int .i64 x.N):=by simp [z04,z0a.cells]
theorem z0a.c5 (x:z0a) (K:AV->Prop):z04 none x.cells 5 K=K (.int .i64 x.To):=by simp [z04,z0a.cells]
theorem z0a.c6 (x:z0a) (K:AV->Prop):z04 none x.cells 6 K=K (slAV 3 (z09.cells) x.Items):=by simp [z04,z0a.cells]
theorem z0a.c7 (x:z0a) (K:AV->Prop):z04 none x.cells 7 K=K (slAV 3 (z09.cells) x.Index):=by simp [z04,z0a.cells]
theorem z0a.call (x:z0a) (K:AV->Prop):z04 (some 8) x.cells 0 K=K (.agg x.cells):=by simp [z04,z0a.cells]
theorem z0a.put (x:z0a) (h:z00) (ty:TypeId) (K:z00->Prop):z1d 8 (.ptr h.next 0) (.agg x.cells) (h.push (.row ty [.int .i64 0,.int .i64 0,.int .i64 0,.int .i64 0,.int .i64 0,.int .i64 0,.nils,.nils])) K=K (h.push (.row ty x.cells)):=z13 (by rfl) (by rfl) K
theorem z0a.r:(type_of% @z0a.c0)/\(type_of% @z0a.c1)/\(type_of% @z0a.c2)/\(type_of% @z0a.c3)/\(type_of% @z0a.c4)/\(type_of% @z0a.c5)/\(type_of% @z0a.c6)/\(type_of% @z0a.c7)/\(type_of% @z0a.call)/\(type_of% @z0a.put):=⟨@z0a.c0,@z0a.c1,@z0a.c2,@z0a.c3,@z0a.c4,@z0a.c5,@z0a.c6,@z0a.c7,@z0a.call,@z0a.put⟩
structure z0t where
 Slots:Option (List z0b)
 Code:Option (List z0a)
 Most:Int
 deriving DecidableEq,Inhabited
def z0t.cells (x:z0t):List AV:=[slAV 3 (z0b.cells) x.Slots,slAV 8 (z0a.cells) x.Code,.int .i64 x.Most]
def z0t.ok (x:z0t):Prop:=(okSl (z0b.ok)) x.Slots/\(okSl (z0a.ok)) x.Code/\okI x.Most
theorem z0t.of {cs:List AV} (h:TyA Tryz.prog 70 cs):∃ x:z0t,cs=x.cells/\x.ok:=by
 obtain ⟨parts,rfl,hp⟩:=h.z5f Tryz.underlying70;simp only [List.map_cons,List.map_nil] at hp;obtain ⟨p0,r0,rfl,t0,hp⟩:=hp.cons_inv;obtain ⟨p1,r1,rfl,t1,hp⟩:=hp.cons_inv;obtain ⟨p2,r2,rfl,t2,hp⟩:=hp.cons_inv;obtain rfl:=hp.z8k;obtain ⟨x0,rfl,k0⟩:=((λ_ h=>h.zgg Tryz.underlying23 (show Tryz.prog.cellsOf 147=3 by kernel_rfl) (by omega) (λ_ h=>z0b.of h):∀ cs,TyA Tryz.prog 23 cs->∃ x:Option (List z0b),cs=(λo=>[slAV 3 (z0b.cells) o]) x/\(okSl (z0b.ok)) x)) _ t0;obtain ⟨x1,rfl,k1⟩:=((λ_ h=>h.zgg Tryz.underlying68 (show Tryz.prog.cellsOf 56=8 by kernel_rfl) (by omega) (λ_ h=>z0a.of h):∀ cs,TyA Tryz.prog 68 cs->∃ x:Option (List z0a),cs=(λo=>[slAV 8 (z0a.cells) o]) x/\(okSl (z0a.ok)) x)) _ t1;obtain ⟨x2,rfl,k2⟩:=((λ_ h=>h.z3f Tryz.underlying3:∀ cs,TyA Tryz.prog 3 cs->∃ x:Int,cs=(encI) x/\(okI) x)) _ t2;exact ⟨⟨x0,x1,x2⟩,rfl,⟨k0,k1,k2⟩⟩
theorem z0t.c0 (x:z0t) (K:AV->Prop):z04 none x.cells 0 K=K (slAV 3 (z0b.cells) x.Slots):=by simp [z04,z0t.cells]
theorem z0t.c1 (x:z0t) (K:AV->Prop):z04 none x.cells 1 K=K (slAV 8 (z0a.cells) x.Code):=by simp [z04,z0t.cells]
theorem z0t.c2 (x:z0t) (K:AV->Prop):z04 none x.cells 2 K=K (.int .i64 x.Most):=by simp [z04,z0t.cells]
theorem z0t.call (x:z0t) (K:AV->Prop):z04 (some 3) x.cells 0 K=K (.agg x.cells):=by simp [z04,z0t.cells]
theorem z0t.put (x:z0t) (h:z00) (ty:TypeId) (K:z00->Prop):z1d 3 (.ptr h.next 0) (.agg x.cells) (h.push (.row ty [.nils,.nils,.int .i64 0])) K=K (h.push (.row ty x.cells)):=z13 (by rfl) (by rfl) K
theorem z0t.r:(type_of% @z0t.c0)/\(type_of% @z0t.c1)/\(type_of% @z0t.c2)/\(type_of% @z0t.call)/\(type_of% @z0t.put):=⟨@z0t.c0,@z0t.c1,@z0t.c2,@z0t.call,@z0t.put⟩
structure z0v where
 Thread:Int
 At:Int
 Rec:Int
 deriving DecidableEq,Inhabited
def z0v.cells (x:z0v):List AV:=[.int .i64 x.Thread,.int .i64 x.At,.int .i64 x.Rec]
def z0v.ok (x:z0v):Prop:=okI x.Thread/\okI x.At/\okI x.Rec
theorem z0v.of {cs:List AV} (h:TyA Tryz.prog 151 cs):∃ x:z0v,cs=x.cells/\x.ok:=by
 obtain ⟨parts,rfl,hp⟩:=h.z5f Tryz.underlying151;simp only [List.map_cons,List.map_nil] at hp;obtain ⟨p0,r0,rfl,t0,hp⟩:=hp.cons_inv;obtain ⟨p1,r1,rfl,t1,hp⟩:=hp.cons_inv;obtain ⟨p2,r2,rfl,t2,hp⟩:=hp.cons_inv;obtain rfl:=hp.z8k;obtain ⟨x0,rfl,k0⟩:=((λ_ h=>h.z3f Tryz.underlying3:∀ cs,TyA Tryz.prog 3 cs->∃ x:Int,cs=(encI) x/\(okI) x)) _ t0;obtain ⟨x1,rfl,k1⟩:=((λ_ h=>h.z3f Tryz.underlying3:∀ cs,TyA Tryz.prog 3 cs->∃ x:Int,cs=(encI) x/\(okI) x)) _ t1;obtain ⟨x2,rfl,k2⟩:=((λ_ h=>h.z3f Tryz.underlying3:∀ cs,TyA Tryz.prog 3 cs->∃ x:Int,cs=(encI) x/\(okI) x)) _ t2;exact ⟨⟨x0,x1,x2⟩,rfl,⟨k0,k1,k2⟩⟩
theorem z0v.c0 (x:z0v) (K:AV->Prop):z04 none x.cells 0 K=K (.int .i64 x.Thread):=by simp [z04,z0v.cells]
theorem z0v.c1 (x:z0v) (K:AV->Prop):z04 none x.cells 1 K=K (.int .i64 x.At):=by simp [z04,z0v.cells]
theorem z0v.c2 (x:z0v) (K:AV->Prop):z04 none x.cells 2 K=K (.int .i64 x.Rec):=by simp [z04,z0v.cells]
theorem z0v.call (x:z0v) (K:AV->Prop):z04 (some 3) x.cells 0 K=K (.agg x.cells):=by simp [z04,z0v.cells]
theorem z0v.put (x:z0v) (h:z00) (ty:TypeId) (K:z00->Prop):z1d 3 (.ptr h.next 0) (.agg x.cells) (h.push (.row ty [.int .i64 0,.int .i64 0,.int .i64 0])) K=K (h.push (.row ty x.cells)):=z13 (by rfl) (by rfl) K
theorem z0v.r:(type_of% @z0v.c0)/\(type_of% @z0v.c1)/\(type_of% @z0v.c2)/\(type_of% @z0v.call)/\(type_of% @z0v.put):=⟨@z0v.c0,@z0v.c1,@z0v.c2,@z0v.call,@z0v.put⟩
structure z08 where
 Thread:Int
 From:Int
 To:Int
 deriving DecidableEq,Inhabited
def z08.cells (x:z08):List AV:=[.int .i64 x.Thread,.int .i64 x.From,.int .i64 x.To]
def z08.ok (x:z08):Prop:=okI x.Thread/\okI x.From/\okI x.To
theorem z08.of {cs:List AV} (h:TyA Tryz.prog 123 cs):∃ x:z08,cs=x.cells/\x.ok:=by
 obtain ⟨parts,rfl,hp⟩:=h.z5f Tryz.underlying123;simp only [List.map_cons,List.map_nil] at hp;obtain ⟨p0,r0,rfl,t0,hp⟩:=hp.cons_inv;obtain ⟨p1,r1,rfl,t1,hp⟩:=hp.cons_inv;obtain ⟨p2,r2,rfl,t2,hp⟩:=hp.cons_inv;obtain rfl:=hp.z8k;obtain ⟨x0,rfl,k0⟩:=((λ_ h=>h.z3f Tryz.underlying3:∀ cs,TyA Tryz.prog 3 cs->∃ x:Int,cs=(encI) x/\(okI) x)) _ t0;obtain ⟨x1,rfl,k1⟩:=((λ_ h=>h.z3f Tryz.underlying3:∀ cs,TyA Tryz.prog 3 cs->∃ x:Int,cs=(encI) x/\(okI) x)) _ t1;obtain ⟨x2,rfl,k2⟩:=((λ_ h=>h.z3f Tryz.underlying3:∀ cs,TyA Tryz.prog 3 cs->∃ x:Int,cs=(encI) x/\(okI) x)) _ t2;exact ⟨⟨x0,x1,x2⟩,rfl,⟨k0,k1,k2⟩⟩
theorem z08.c0 (x:z08) (K:AV->Prop):z04 none x.cells 0 K=K (.int .i64 x.Thread):=by simp [z04,z08.cells]
theorem z08.c1 (x:z08) (K:AV->Prop):z04 none x.cells 1 K=K (.int .i64 x.From):=by simp [z04,z08.cells]
theorem z08.c2 (x:z08) (K:AV->Prop):z04 none x.cells 2 K=K (.int .i64 x.To):=by simp [z04,z08.cells]
theorem z08.call (x:z08) (K:AV->Prop):z04 (some 3) x.cells 0 K=K (.agg x.cells):=by simp [z04,z08.cells]
theorem z08.put (x:z08) (h:z00) (ty:TypeId) (K:z00->Prop):z1d 3 (.ptr h.next 0) (.agg x.cells) (h.push (.row ty [.int .i64 0,.int .i64 0,.int .i64 0])) K=K (h.push (.row ty x.cells)):=z13 (by rfl) (by rfl) K
theorem z08.r:(type_of% @z08.c0)/\(type_of% @z08.c1)/\(type_of% @z08.c2)/\(type_of% @z08.call)/\(type_of% @z08.put):=⟨@z08.c0,@z08.c1,@z08.c2,@z08.call,@z08.put⟩
structure z0g where
 Records:Option (List (Option (List z0b)))
 Globals:Option (List z0b)
 Threads:Option (List z0t)
 Sites:Option (List z0v)
 Sections:Option (List z08)
 deriving DecidableEq,Inhabited
def z0g.cells (x:z0g):List AV:=[slAV 1 (λo=>[slAV 3 (z0b.cells) o]) x.Records,slAV 3 (z0b.cells) x.Globals,slAV 3 (z0t.cells) x.Threads,slAV 3 (z0v.cells) x.Sites,slAV 3 (z08.cells) x.Sections]
def z0g.ok (x:z0g):Prop:=(okSl (okSl (z0b.ok))) x.Records/\(okSl (z0b.ok)) x.Globals/\(okSl (z0t.ok)) x.Threads/\(okSl (z0v.ok)) x.Sites/\(okSl (z08.ok)) x.Sections
theorem z0g.of {cs:List AV} (h:TyA Tryz.prog 28 cs):∃ x:z0g,cs=x.cells/\x.ok:=by
 obtain ⟨parts,rfl,hp⟩:=h.z5f Tryz.underlying28;simp only [List.map_cons,List.map_nil] at hp;obtain ⟨p0,r0,rfl,t0,hp⟩:=hp.cons_inv;obtain ⟨p1,r1,rfl,t1,hp⟩:=hp.cons_inv;obtain ⟨p2,r2,rfl,t2,hp⟩:=hp.cons_inv;obtain ⟨p3,r3,rfl,t3,hp⟩:=hp.cons_inv;obtain ⟨p4,r4,rfl,t4,hp⟩:=hp.cons_inv;obtain rfl:=hp.z8k;obtain ⟨x0,rfl,k0⟩:=((λ_ h=>h.zgg Tryz.underlying22 (show Tryz.prog.cellsOf 23=1 by kernel_rfl) (by omega) (λ_ h=>h.zgg Tryz.underlying23 (show Tryz.prog.cellsOf 147=3 by kernel_rfl) (by omega) (λ_ h=>z0b.of h)):∀ cs,TyA Tryz.prog 22 cs->∃ x:Option (List (Option (List z0b))),cs=(λo=>[slAV 1 (λo=>[slAV 3 (z0b.cells) o]) o]) x/\(okSl (okSl (z0b.ok))) x)) _ t0;obtain ⟨x1,rfl,k1⟩:=((λ_ h=>h.zgg Tryz.underlying23 (show Tryz.prog.cellsOf 147=3 by kernel_rfl) (by omega) (λ_ h=>z0b.of h):∀ cs,TyA Tryz.prog 23 cs->∃ x:Option (List z0b),cs=(λo=>[slAV 3 (z0b.cells) o]) x/\(okSl (z0b.ok)) x)) _ t1;obtain ⟨x2,rfl,k2⟩:=((λ_ h=>h.zgg Tryz.underlying24 (show Tryz.prog.cellsOf 70=3 by kernel_rfl) (by omega) (λ_ h=>z0t.of h):∀ cs,TyA Tryz.prog 24 cs->∃ x:Option (List z0t),cs=(λo=>[slAV 3 (z0t.cells) o]) x/\(okSl (z0t.ok)) x)) _ t2;obtain ⟨x3,rfl,k3⟩:=((λ_ h=>h.zgg Tryz.underlying25 (show Tryz.prog.cellsOf 151=3 by kernel_rfl) (by omega) (λ_ h=>z0v.of h):∀ cs,TyA Tryz.prog 25 cs->∃ x:Option (List z0v),cs=(λo=>[slAV 3 (z0v.cells) o]) x/\(okSl (z0v.ok)) x)) _ t3;obtain ⟨x4,rfl,k4⟩:=((λ_ h=>h.zgg Tryz.underlying26 (show Tryz.prog.cellsOf 123=3 by kernel_rfl) (by omega) (λ_ h=>z08.of h):∀ cs,TyA Tryz.prog 26 cs->∃ x:Option (List z08),cs=(λo=>[slAV 3 (z08.cells) o]) x/\(okSl (z08.ok)) x)) _ t4
 exact ⟨⟨x0,x1,x2,x3,x4⟩,rfl,⟨k0,k1,k2,k3,k4⟩⟩
theorem z0g.c0 (x:z0g) (K:AV->Prop):z04 none x.cells 0 K=K (slAV 1 (λo=>[slAV 3 (z0b.cells) o]) x.Records):=by simp [z04,z0g.cells]
theorem z0g.c1 (x:z0g) (K:AV->Prop):z04 none x.cells 1 K=K (slAV 3 (z0b.cells) x.Globals):=by simp [z04,z0g.cells]
theorem z0g.c2 (x:z0g) (K:AV->Prop):z04 none x.cells 2 K=K (slAV 3 (z0t.cells) x.Threads):=by simp [z04,z0g.cells]
theorem z0g.c3 (x:z0g) (K:AV->Prop):z04 none x.cells 3 K=K (slAV 3 (z0v.cells) x.Sites):=by simp [z04,z0g.cells]
theorem z0g.c4 (x:z0g) (K:AV->Prop):z04 none x.cells 4 K=K (slAV 3 (z08.cells) x.Sections):=by simp [z04,z0g.cells]
theorem z0g.call (x:z0g) (K:AV->Prop):z04 (some 5) x.cells 0 K=K (.agg x.cells):=by simp [z04,z0g.cells]
theorem z0g.put (x:z0g) (h:z00) (ty:TypeId) (K:z00->Prop):z1d 5 (.ptr h.next 0) (.agg x.cells) (h.push (.row ty [.nils,.nils,.nils,.nils,.nils])) K=K (h.push (.row ty x.cells)):=z13 (by rfl) (by rfl) K
theorem z0g.r:(type_of% @z0g.c0)/\(type_of% @z0g.c1)/\(type_of% @z0g.c2)/\(type_of% @z0g.c3)/\(type_of% @z0g.c4)/\(type_of% @z0g.call)/\(type_of% @z0g.put):=⟨@z0g.c0,@z0g.c1,@z0g.c2,@z0g.c3,@z0g.c4,@z0g.call,@z0g.put⟩
structure z0f where
 Global:Bool
 N:Int
 Fields:Option (List Int)
 deriving DecidableEq,Inhabited
def z0f.cells (x:z0f):List AV:=[.bool x.Global,.int .i64 x.N,slAV 1 (encI) x.Fields]
def z0f.ok (x:z0f):Prop:=okT x.Global/\okI x.N/\(okSl (okI)) x.Fields
theorem z0f.of {cs:List AV} (h:TyA Tryz.prog 107 cs):∃ x:z0f,cs=x.cells/\x.ok:=by
 obtain ⟨parts,rfl,hp⟩:=h.z5f Tryz.underlying107;simp only [List.map_cons,List.map_nil] at hp;obtain ⟨p0,r0,rfl,t0,hp⟩:=hp.cons_inv;obtain ⟨p1,r1,rfl,t1,hp⟩:=hp.cons_inv;obtain ⟨p2,r2,rfl,t2,hp⟩:=hp.cons_inv;obtain rfl:=hp.z8k;obtain ⟨x0,rfl,k0⟩:=((λ_ h=>h.zwt Tryz.underlying4:∀ cs,TyA Tryz.prog 4 cs->∃ x:Bool,cs=(encT) x/\(okT) x)) _ t0;obtain ⟨x1,rfl,k1⟩:=((λ_ h=>h.z3f Tryz.underlying3:∀ cs,TyA Tryz.prog 3 cs->∃ x:Int,cs=(encI) x/\(okI) x)) _ t1;obtain ⟨x2,rfl,k2⟩:=((λ_ h=>h.zgg Tryz.underlying29 (show Tryz.prog.cellsOf 3=1 by kernel_rfl) (by omega) (λ_ h=>h.z3f Tryz.underlying3):∀ cs,TyA Tryz.prog 29 cs->∃ x:Option (List Int),cs=(λo=>[slAV 1 (encI) o]) x/\(okSl (okI)) x)) _ t2;exact ⟨⟨x0,x1,x2⟩,rfl,⟨k0,k1,k2⟩⟩
theorem z0f.c0 (x:z0f) (K:AV->Prop):z04 none x.cells 0 K=K (.bool x.Global):=by simp [z04,z0f.cells]
theorem z0f.c1 (x:z0f) (K:AV->Prop):z04 none x.cells 1 K=K (.int .i64 x.N):=by simp [z04,z0f.cells]
theorem z0f.c2 (x:z0f) (K:AV->Prop):z04 none x.cells 2 K=K (slAV 1 (encI) x.Fields):=by simp [z04,z0f.cells]
theorem z0f.call (x:z0f) (K:AV->Prop):z04 (some 3) x.cells 0 K=K (.agg x.cells):=by simp [z04,z0f.cells]
theorem z0f.put (x:z0f) (h:z00) (ty:TypeId) (K:z00->Prop):z1d 3 (.ptr h.next 0) (.agg x.cells) (h.push (.row ty [.bool false,.int .i64 0,.nils])) K=K (h.push (.row ty x.cells)):=z13 (by rfl) (by rfl) K
theorem z0f.r:(type_of% @z0f.c0)/\(type_of% @z0f.c1)/\(type_of% @z0f.c2)/\(type_of% @z0f.call)/\(type_of% @z0f.put):=⟨@z0f.c0,@z0f.c1,@z0f.c2,@z0f.call,@z0f.put⟩
structure z06 where
 Op:Int
 Path:z0f
 N:Int
 Const:Bool
 At:Int
 Index:z0f
 Class:Int
 Mode:Int
 deriving DecidableEq,Inhabited
def z06.cells (x:z06):List AV:=[.int .i64 x.Op,.bool x.Path.Global,.int .i64 x.Path.N,slAV 1 (encI) x.Path.Fields,.int .i64 x.N,.bool x.Const,.int .i64 x.At,.bool x.Index.Global,.int .i64 x.Index.N,slAV 1 (encI) x.Index.Fields,.int .i64 x.Class,.int .i64 x.Mode]
def z06.ok (x:z06):Prop:=okI x.Op/\z0f.ok x.Path/\okI x.N/\okT x.Const/\okI x.At/\z0f.ok x.Index/\okI x.Class/\okI x.Mode
theorem z06.of {cs:List AV} (h:TyA Tryz.prog 109 cs):∃ x:z06,cs=x.cells/\x.ok:=by
 obtain ⟨parts,rfl,hp⟩:=h.z5f Tryz.underlying109;simp only [List.map_cons,List.map_nil] at hp;obtain ⟨p0,r0,rfl,t0,hp⟩:=hp.cons_inv;obtain ⟨p1,r1,rfl,t1,hp⟩:=hp.cons_inv;obtain ⟨p2,r2,rfl,t2,hp⟩:=hp.cons_inv;obtain ⟨p3,r3,rfl,t3,hp⟩:=hp.cons_inv;obtain ⟨p4,r4,rfl,t4,hp⟩:=hp.cons_inv;obtain ⟨p5,r5,rfl,t5,hp⟩:=hp.cons_inv;obtain ⟨p6,r6,rfl,t6,hp⟩:=hp.cons_inv;obtain ⟨p7,r7,rfl,t7,hp⟩:=hp.cons_inv;obtain rfl:=hp.z8k;obtain ⟨x0,rfl,k0⟩:=((λ_ h=>h.z3f Tryz.underlying3:∀ cs,TyA Tryz.prog 3 cs->∃ x:Int,cs=(encI) x/\(okI) x)) _ t0;obtain ⟨x1,rfl,k1⟩:=((λ_ h=>z0f.of h:∀ cs,TyA Tryz.prog 107 cs->∃ x:z0f,cs=(z0f.cells) x/\(z0f.ok) x)) _ t1;obtain ⟨x2,rfl,k2⟩:=((λ_ h=>h.z3f Tryz.underlying3:∀ cs,TyA Tryz.prog 3 cs->∃ x:Int,cs=(encI) x/\(okI) x)) _ t2;obtain ⟨x3,rfl,k3⟩:=((λ_ h=>h.zwt Tryz.underlying4:∀ cs,TyA Tryz.prog 4 cs->∃ x:Bool,cs=(encT) x/\(okT) x)) _ t3;obtain ⟨x4,rfl,k4⟩:=((λ_ h=>h.z3f Tryz.underlying3:∀ cs,TyA Tryz.prog 3 cs->∃ x:Int,cs=(encI) x/\(okI) x)) _ t4;obtain ⟨x5,rfl,k5⟩:=((λ_ h=>z0f.of h:∀ cs,TyA Tryz.prog 107 cs->∃ x:z0f,cs=(z0f.cells) x/\(z0f.ok) x)) _ t5;obtain ⟨x6,rfl,k6⟩:=((λ_ h=>h.z3f Tryz.underlying3:∀ cs,TyA Tryz.prog 3 cs->∃ x:Int,cs=(encI) x/\(okI) x)) _ t6;obtain ⟨x7,rfl,k7⟩:=((λ_ h=>h.z3f Tryz.underlying3:∀ cs,TyA Tryz.prog 3 cs->∃ x:Int,cs=(encI) x/\(okI) x)) _ t7;exact ⟨⟨x0,x1,x2,x3,x4,x5,x6,x7⟩,rfl,⟨k0,k1,k2,k3,k4,k5,k6,k7⟩⟩
theorem z06.c0 (x:z06) (K:AV->Prop):z04 none x.cells 0 K=K (.int .i64 x.Op):=by simp [z04,z06.cells,z0f.cells,z0f.cells]
theorem z06.c1 (x:z06) (K:AV->Prop):z04 none x.cells 1 K=K (.bool x.Path.Global):=by simp [z04,z06.cells,z0f.cells,z0f.cells]
theorem z06.c2 (x:z06) (K:AV->Prop):z04 none x.cells 2 K=K (.int .i64 x.Path.N):=by simp [z04,z06.cells,z0f.cells,z0f.cells]
theorem z06.c3 (x:z06) (K:AV->Prop):z04 none x.cells 3 K=K (slAV 1 (encI) x.Path.Fields):=by simp [z04,z06.cells,z0f.cells,z0f.cells]
theorem z06.c4 (x:z06) (K:AV->Prop):z04 none x.cells 4 K=K (.int .i64 x.N):=by simp [z04,z06.cells,z0f.cells,z0f.cells]
theorem z06.c5 (x:z06) (K:AV->Prop):z04 none x.cells 5 K=K (.bool x.Const):=by simp [z04,z06.cells,z0f.cells,z0f.cells]
theorem z06.c6 (x:z06) (K:AV->Prop):z04 none x.cells 6 K=K (.int .i64 x.At):=by simp [z04,z06.cells,z0f.cells,z0f.cells]
theorem z06.c7 (x:z06) (K:AV->Prop):z04 none x.cells 7 K=K (.bool x.Index.Global):=by simp [z04,z06.cells,z0f.cells,z0f.cells]
theorem z06.c8 (x:z06) (K:AV->Prop):z04 none x.cells 8 K=K (.int .i64 x.Index.N):=by simp [z04,z06.cells,z0f.cells,z0f.cells]
theorem z06.c9 (x:z06) (K:AV->Prop):z04 none x.cells 9 K=K (slAV 1 (encI) x.Index.Fields):=by simp [z04,z06.cells,z0f.cells,z0f.cells]
theorem z06.c10 (x:z06) (K:AV->Prop):z04 none x.cells 10 K=K (.int .i64 x.Class):=by simp [z04,z06.cells,z0f.cells,z0f.cells]
theorem z06.c11 (x:z06) (K:AV->Prop):z04 none x.cells 11 K=K (.int .i64 x.Mode):=by simp [z04,z06.cells,z0f.cells,z0f.cells]
theorem z06.call (x:z06) (K:AV->Prop):z04 (some 12) x.cells 0 K=K (.agg x.cells):=by simp [z04,z06.cells,z0f.cells,z0f.cells]
theorem z06.cs1_3 (x:z06) (K:AV->Prop):z04 (some 3) x.cells 1 K=K (.agg x.Path.cells):=by simp [z04,z06.cells,z0f.cells,z0f.cells]
theorem z06.cs7_3 (x:z06) (K:AV->Prop):z04 (some 3) x.cells 7 K=K (.agg x.Index.cells):=by simp [z04,z06.cells,z0f.cells,z0f.cells]
theorem z06.put (x:z06) (h:z00) (ty:TypeId) (K:z00->Prop):z1d 12 (.ptr h.next 0) (.agg x.cells) (h.push (.row ty [.int .i64 0,.bool false,.int .i64 0,.nils,.int .i64 0,.bool false,.int .i64 0,.bool false,.int .i64 0,.nils,.int .i64 0,.int .i64 0])) K=K (h.push (.row ty x.cells)):=z13 (by rfl) (by rfl) K
theorem z06.r:(type_of% @z06.c0)/\(type_of% @z06.c1)/\(type_of% @z06.c2)/\(type_of% @z06.c3)/\(type_of% @z06.c4)/\(type_of% @z06.c5)/\(type_of% @z06.c6)/\(type_of% @z06.c7)/\(type_of% @z06.c8)/\(type_of% @z06.c9)/\(type_of% @z06.c10)/\(type_of% @z06.c11)/\(type_of% @z06.call)/\(type_of% @z06.cs1_3)/\(type_of% @z06.cs7_3)/\(type_of% @z06.put):=⟨@z06.c0,@z06.c1,@z06.c2,@z06.c3,@z06.c4,@z06.c5,@z06.c6,@z06.c7,@z06.c8,@z06.c9,@z06.c10,@z06.c11,@z06.call,@z06.cs1_3,@z06.cs7_3,@z06.put⟩
structure z0e where
 Code:z0g
 Classes:Option (List Int)
 Plans:Option (List (Option (List z06)))
 Tries:Int
 deriving DecidableEq,Inhabited
def z0e.cells (x:z0e):List AV:=[slAV 1 (λo=>[slAV 3 (z0b.cells) o]) x.Code.Records,slAV 3 (z0b.cells) x.Code.Globals,slAV 3 (z0t.cells) x.Code.Threads,slAV 3 (z0v.cells) x.Code.Sites,slAV 3 (z08.cells) x.Code.Sections,slAV 1 (encI) x.Classes,slAV 1 (λo=>[slAV 12 (z06.cells) o]) x.Plans,.int .i64 x.Tries]
def z0e.ok (x:z0e):Prop:=z0g.ok x.Code/\(okSl (okI)) x.Classes/\(okSl (okSl (z06.ok))) x.Plans/\okI x.Tries
theorem z0e.of {cs:List AV} (h:TyA Tryz.prog 32 cs):∃ x:z0e,cs=x.cells/\x.ok:=by
 obtain ⟨parts,rfl,hp⟩:=h.z5f Tryz.underlying32;simp only [List.map_cons,List.map_nil] at hp;obtain ⟨p0,r0,rfl,t0,hp⟩:=hp.cons_inv;obtain ⟨p1,r1,rfl,t1,hp⟩:=hp.cons_inv;obtain ⟨p2,r2,rfl,t2,hp⟩:=hp.cons_inv;obtain ⟨p3,r3,rfl,t3,hp⟩:=hp.cons_inv;obtain rfl:=hp.z8k;obtain ⟨x0,rfl,k0⟩:=((λ_ h=>z0g.of h:∀ cs,TyA Tryz.prog 28 cs->∃ x:z0g,cs=(z0g.cells) x/\(z0g.ok) x)) _ t0;obtain ⟨x1,rfl,k1⟩:=((λ_ h=>h.zgg Tryz.underlying29 (show Tryz.prog.cellsOf 3=1 by kernel_rfl) (by omega) (λ_ h=>h.z3f Tryz.underlying3):∀ cs,TyA Tryz.prog 29 cs->∃ x:Option (List Int),cs=(λo=>[slAV 1 (encI) o]) x/\(okSl (okI)) x)) _ t1;obtain ⟨x2,rfl,k2⟩:=((λ_ h=>h.zgg Tryz.underlying30 (show Tryz.prog.cellsOf 105=1 by kernel_rfl) (by omega) (λ_ h=>h.zgg Tryz.underlying105 (show Tryz.prog.cellsOf 109=12 by kernel_rfl) (by omega) (λ_ h=>z06.of h)):∀ cs,TyA Tryz.prog 30 cs->∃ x:Option (List (Option (List z06))),cs=(λo=>[slAV 1 (λo=>[slAV 12 (z06.cells) o]) o]) x/\(okSl (okSl (z06.ok))) x)) _ t2;obtain ⟨x3,rfl,k3⟩:=((λ_ h=>h.z3f Tryz.underlying3:∀ cs,TyA Tryz.prog 3 cs->∃ x:Int,cs=(encI) x/\(okI) x)) _ t3;exact ⟨⟨x0,x1,x2,x3⟩,rfl,⟨k0,k1,k2,k3⟩⟩
theorem z0e.c0 (x:z0e) (K:AV->Prop):z04 none x.cells 0 K=K (slAV 1 (λo=>[slAV 3 (z0b.cells) o]) x.Code.Records):=by simp [z04,z0e.cells,z0g.cells]
theorem z0e.c1 (x:z0e) (K:AV->Prop):z04 none x.cells 1 K=K (slAV 3 (z0b.cells) x.Code.Globals):=by simp [z04,z0e.cells,z0g.cells]
theorem z0e.c2 (x:z0e) (K:AV->Prop):z04 none x.cells 2 K=K (slAV 3 (z0t.cells) x.Code.Threads):=by simp [z04,z0e.cells,z0g.cells]
theorem z0e.c3 (x:z0e) (K:AV->Prop):z04 none x.cells 3 K=K (slAV 3 (z0v.cells) x.Code.Sites):=by simp [z04,z0e.cells,z0g.cells]
theorem z0e.c4 (x:z0e) (K:AV->Prop):z04 none x.cells 4 K=K (slAV 3 (z08.cells) x.Code.Sections):=by simp [z04,z0e.cells,z0g.cells]
theorem z0e.c5 (x:z0e) (K:AV->Prop):z04 none x.cells 5 K=K (slAV 1 (encI) x.Classes):=by simp [z04,z0e.cells,z0g.cells]
theorem z0e.c6 (x:z0e) (K:AV->Prop):z04 none x.cells 6 K=K (slAV 1 (λo=>[slAV 12 (z06.cells) o]) x.Plans):=by simp [z04,z0e.cells,z0g.cells]
theorem z0e.c7 (x:z0e) (K:AV->Prop):z04 none x.cells 7 K=K (.int .i64 x.Tries):=by simp [z04,z0e.cells,z0g.cells]
theorem z0e.call (x:z0e) (K:AV->Prop):z04 (some 8) x.cells 0 K=K (.agg x.cells):=by simp [z04,z0e.cells,z0g.cells]
theorem z0e.cs0_5 (x:z0e) (K:AV->Prop):z04 (some 5) x.cells 0 K=K (.agg x.Code.cells):=by simp [z04,z0e.cells,z0g.cells]
theorem z0e.put (x:z0e) (h:z00) (ty:TypeId) (K:z00->Prop):z1d 8 (.ptr h.next 0) (.agg x.cells) (h.push (.row ty [.nils,.nils,.nils,.nils,.nils,.nils,.nils,.int .i64 0])) K=K (h.push (.row ty x.cells)):=z13 (by rfl) (by rfl) K
theorem z0e.r:(type_of% @z0e.c0)/\(type_of% @z0e.c1)/\(type_of% @z0e.c2)/\(type_of% @z0e.c3)/\(type_of% @z0e.c4)/\(type_of% @z0e.c5)/\(type_of% @z0e.c6)/\(type_of% @z0e.c7)/\(type_of% @z0e.call)/\(type_of% @z0e.cs0_5)/\(type_of% @z0e.put):=⟨@z0e.c0,@z0e.c1,@z0e.c2,@z0e.c3,@z0e.c4,@z0e.c5,@z0e.c6,@z0e.c7,@z0e.call,@z0e.cs0_5,@z0e.put⟩
theorem ThreadTraps_args {xs:List AV} (h:TyVs Tryz.prog Tryz.f3.params.toList xs):∃ (x0:z0e) (x1:Int) (x2:Option (List Int)),xs=[.agg x0.cells,.int .i64 x1,slAV 1 (encI) x2]/\(z0e.ok) x0/\(okI) x1/\(okSl (okI)) x2:=by
 rw [Tryz.params3] at h;obtain ⟨a0,b0,rfl,h0,h⟩:=h.cons_inv;obtain ⟨a1,b1,rfl,h1,h⟩:=h.cons_inv;obtain ⟨a2,b2,rfl,h2,h⟩:=h.cons_inv;obtain rfl:=h.z8k;obtain ⟨x0,rfl,k0⟩:=h0.agg_of (by kernel_rfl) (λ_ h=>z0e.of h:∀ cs,TyA Tryz.prog 32 cs->∃ x:z0e,cs=(z0e.cells) x/\(z0e.ok) x);obtain ⟨x1,rfl,k1⟩:=h1.zz2 (enc:=λx=>.int .i64 x) (by kernel_rfl) (λ_ h=>h.z3f Tryz.underlying3:∀ cs,TyA Tryz.prog 3 cs->∃ x:Int,cs=(encI) x/\(okI) x);obtain ⟨x2,rfl,k2⟩:=h2.zz2 (enc:=λx=>slAV 1 (encI) x) (by kernel_rfl) (λ_ h=>h.zgg Tryz.underlying29 (show Tryz.prog.cellsOf 3=1 by kernel_rfl) (by omega) (λ_ h=>h.z3f Tryz.underlying3):∀ cs,TyA Tryz.prog 29 cs->∃ x:Option (List Int),cs=(λo=>[slAV 1 (encI) o]) x/\(okSl (okI)) x);exact ⟨x0,x1,x2,rfl,k0,k1,k2⟩
theorem ThreadDoes_args {xs:List AV} (h:TyVs Tryz.prog Tryz.f4.params.toList xs):∃ (x0:z0e) (x1:Option (List Int)) (x2:Option (List Int)),xs=[.agg x0.cells,slAV 1 (encI) x1,slAV 1 (encI) x2]/\(z0e.ok) x0/\(okSl (okI)) x1/\(okSl (okI)) x2:=by
 rw [Tryz.params4] at h;obtain ⟨a0,b0,rfl,h0,h⟩:=h.cons_inv;obtain ⟨a1,b1,rfl,h1,h⟩:=h.cons_inv;obtain ⟨a2,b2,rfl,h2,h⟩:=h.cons_inv;obtain rfl:=h.z8k;obtain ⟨x0,rfl,k0⟩:=h0.agg_of (by kernel_rfl) (λ_ h=>z0e.of h:∀ cs,TyA Tryz.prog 32 cs->∃ x:z0e,cs=(z0e.cells) x/\(z0e.ok) x);obtain ⟨x1,rfl,k1⟩:=h1.zz2 (enc:=λx=>slAV 1 (encI) x) (by kernel_rfl) (λ_ h=>h.zgg Tryz.underlying29 (show Tryz.prog.cellsOf 3=1 by kernel_rfl) (by omega) (λ_ h=>h.z3f Tryz.underlying3):∀ cs,TyA Tryz.prog 29 cs->∃ x:Option (List Int),cs=(λo=>[slAV 1 (encI) o]) x/\(okSl (okI)) x);obtain ⟨x2,rfl,k2⟩:=h2.zz2 (enc:=λx=>slAV 1 (encI) x) (by kernel_rfl) (λ_ h=>h.zgg Tryz.underlying29 (show Tryz.prog.cellsOf 3=1 by kernel_rfl) (by omega) (λ_ h=>h.z3f Tryz.underlying3):∀ cs,TyA Tryz.prog 29 cs->∃ x:Option (List Int),cs=(λo=>[slAV 1 (encI) o]) x/\(okSl (okI)) x);exact ⟨x0,x1,x2,rfl,k0,k1,k2⟩
structure z0q where
 Kind:Int
 Path:z0f
 deriving DecidableEq,Inhabited
def z0q.cells (x:z0q):List AV:=[.int .i64 x.Kind,.bool x.Path.Global,.int .i64 x.Path.N,slAV 1 (encI) x.Path.Fields]
theorem z0q.c0 (x:z0q) (K:AV->Prop):z04 none x.cells 0 K=K (.int .i64 x.Kind):=by simp [z04,z0q.cells,z0f.cells]
theorem z0q.c1 (x:z0q) (K:AV->Prop):z04 none x.cells 1 K=K (.bool x.Path.Global):=by simp [z04,z0q.cells,z0f.cells]
theorem z0q.c2 (x:z0q) (K:AV->Prop):z04 none x.cells 2 K=K (.int .i64 x.Path.N):=by simp [z04,z0q.cells,z0f.cells]
theorem z0q.c3 (x:z0q) (K:AV->Prop):z04 none x.cells 3 K=K (slAV 1 (encI) x.Path.Fields):=by simp [z04,z0q.cells,z0f.cells]
theorem z0q.call (x:z0q) (K:AV->Prop):z04 (some 4) x.cells 0 K=K (.agg x.cells):=by simp [z04,z0q.cells,z0f.cells]
theorem z0q.cs1_3 (x:z0q) (K:AV->Prop):z04 (some 3) x.cells 1 K=K (.agg x.Path.cells):=by simp [z04,z0q.cells,z0f.cells]
theorem z0q.put (x:z0q) (h:z00) (ty:TypeId) (K:z00->Prop):z1d 4 (.ptr h.next 0) (.agg x.cells) (h.push (.row ty [.int .i64 0,.bool false,.int .i64 0,.nils])) K=K (h.push (.row ty x.cells)):=z13 (by rfl) (by rfl) K
theorem z0q.r:(type_of% @z0q.c0)/\(type_of% @z0q.c1)/\(type_of% @z0q.c2)/\(type_of% @z0q.c3)/\(type_of% @z0q.call)/\(type_of% @z0q.cs1_3)/\(type_of% @z0q.put):=⟨@z0q.c0,@z0q.c1,@z0q.c2,@z0q.c3,@z0q.call,@z0q.cs1_3,@z0q.put⟩
structure z1a where
 Slots:Option (List (Option (List Nat)))
 Globals:Option (List Nat)
 Fields:Option (List (Option (List Nat)))
 deriving DecidableEq,Inhabited
def z1a.cells (x:z1a):List AV:=[slAV 1 (λo=>[slAV 1 (encN) o]) x.Slots,slAV 1 (encN) x.Globals,slAV 1 (λo=>[slAV 1 (encN) o]) x.Fields]
theorem z1a.c0 (x:z1a) (K:AV->Prop):z04 none x.cells 0 K=K (slAV 1 (λo=>[slAV 1 (encN) o]) x.Slots):=by simp [z04,z1a.cells]
theorem z1a.c1 (x:z1a) (K:AV->Prop):z04 none x.cells 1 K=K (slAV 1 (encN) x.Globals):=by simp [z04,z1a.cells]
theorem z1a.c2 (x:z1a) (K:AV->Prop):z04 none x.cells 2 K=K (slAV 1 (λo=>[slAV 1 (encN) o]) x.Fields):=by simp [z04,z1a.cells]
theorem z1a.call (x:z1a) (K:AV->Prop):z04 (some 3) x.cells 0 K=K (.agg x.cells):=by simp [z04,z1a.cells]
theorem z1a.put (x:z1a) (h:z00) (ty:TypeId) (K:z00->Prop):z1d 3 (.ptr h.next 0) (.agg x.cells) (h.push (.row ty [.nils,.nils,.nils])) K=K (h.push (.row ty x.cells)):=z13 (by rfl) (by rfl) K
theorem z1a.r:(type_of% @z1a.c0)/\(type_of% @z1a.c1)/\(type_of% @z1a.c2)/\(type_of% @z1a.call)/\(type_of% @z1a.put):=⟨@z1a.c0,@z1a.c1,@z1a.c2,@z1a.call,@z1a.put⟩
structure z11 where
 Thread:Int
 Real:Bool
 Bits:Nat
 deriving DecidableEq,Inhabited
def z11.cells (x:z11):List AV:=[.int .i64 x.Thread,.bool x.Real,.int .u64 (x.Bits:Nat)]
theorem z11.c0 (x:z11) (K:AV->Prop):z04 none x.cells 0 K=K (.int .i64 x.Thread):=by simp [z04,z11.cells]
theorem z11.c1 (x:z11) (K:AV->Prop):z04 none x.cells 1 K=K (.bool x.Real):=by simp [z04,z11.cells]
theorem z11.c2 (x:z11) (K:AV->Prop):z04 none x.cells 2 K=K (.int .u64 (x.Bits:Nat)):=by simp [z04,z11.cells]
theorem z11.call (x:z11) (K:AV->Prop):z04 (some 3) x.cells 0 K=K (.agg x.cells):=by simp [z04,z11.cells]
theorem z11.put (x:z11) (h:z00) (ty:TypeId) (K:z00->Prop):z1d 3 (.ptr h.next 0) (.agg x.cells) (h.push (.row ty [.int .i64 0,.bool false,.int .u64 0])) K=K (h.push (.row ty x.cells)):=z13 (by rfl) (by rfl) K
theorem z11.r:(type_of% @z11.c0)/\(type_of% @z11.c1)/\(type_of% @z11.c2)/\(type_of% @z11.call)/\(type_of% @z11.put):=⟨@z11.c0,@z11.c1,@z11.c2,@z11.call,@z11.put⟩
theorem tyr:(type_of% @z0b.r)/\(type_of% @z09.r)/\(type_of% @z0a.r)/\(type_of% @z0t.r)/\(type_of% @z0v.r)/\(type_of% @z08.r)/\(type_of% @z0g.r)/\(type_of% @z0f.r)/\(type_of% @z06.r)/\(type_of% @z0e.r)/\(type_of% @z0q.r)/\(type_of% @z1a.r)/\(type_of% @z11.r):=⟨@z0b.r,@z09.r,@z0a.r,@z0t.r,@z0v.r,@z08.r,@z0g.r,@z0f.r,@z06.r,@z0e.r,@z0q.r,@z1a.r,@z11.r⟩
end
section
open Go.Abs
theorem z07:Tryz.prog.follows .mixedOrders=true:=by kernel_rfl
noncomputable abbrev P_:=Tryz.prog
section
variable (a0 a1 a2 a3 s0 s1 s2 s5 s6 s7 s8 s9 s10 s11 s12 s20 s21 s22 s38 s39 s40 s49 s50 s51 s66 s67 s68:AV) (h:z00) (R:AV->z00->Prop) (Q:z1p->Fr->z00->Prop)
def zul:=mkG [1] [(5,[4,5]),(10,[4,9])] [5,10] []
theorem zrx (H:qM true 67 a0 h λa b=>qG 0 a b λa=>qQ (λc=>qE a (n6 1) λd=>qI d (c (frOf [(4,a),(5,d)]) b) (qE a (n6 2) λd=>qI d (c (frOf
 [(4,a),(5,d)]) b) (qE a (n6 3) λd=>c (frOf [(4,a),(5,d)]) b))) λa b=>qI (a 5) (R n0 b) (qQ (λc=>qE (a 4) (n6 4) λd=>qI d (c (frOf [(4,a 4),(9,d)]) b)
 (qE (a 4) (n6 5) λd=>qI d (c (frOf [(4,a 4),(9,d)]) b) (qE (a 4) (n6 6) λd=>qI d (c (frOf [(4,a 4),(9,d)]) b) (qE (a 4) (n6 7) λd=>c (frOf [(4,a 4),(9,d)])
 b)))) λa b=>qI (a 9) (R (n6 1) b) (qE (a 4) (n6 8) λc=>qI c (qI c (R (n6 2) b) (R (n6 (-1)) b)) (qE (a 4) (n6 9) λc=>qI c (qI c (R (n6 2) b) (R (n6 (-1))
 b)) (qC .eql (a 4) (n6 10) (R (n6 2) b) (R (n6 (-1)) b)))))):z01 P_ 104 [a0] h R:=cI zul z07 Tryz.func104 Tryz.ntmps104 Tryz.call104 (by kernel_rfl)
 (by kernel_rfl) H
def zx2:=mkG [2,21,86] [] [] []
theorem ztw (H:qM true 67 a0 h λa b=>qG 0 a b λc=>qC .eql c (n6 1) (qG 1 a b λa=>qE a n0 λa=>R a b) (qC .eql c (n6 2) (qG 1 a b λc=>qE c n0
 λc=>qU c true 6 b (λc=>qH 2 a b λa d=>z7s (maxA [a1,n0]) (later (λe=>z1o (.int .u64) e b (later (λf=>qB .lss d f λg=>c [a,d,a1,e,f,g] b) ()))
 ())) λa b=>qP c (nth a 5) bF λa=>R a b) (qC .eql c (n6 3) (qG 1 a b λc=>qE c n0 λc=>qU c true 3 b (λc=>qH 2 a b λa d=>qB .lss d (nU 16) λe=>c
 [a,d,e] b) λa b=>qP c (nth a 2) bF λa=>R a b) (qC .eql c (n6 8) (qG 2 a b λc=>qE c (nU 0) λc=>qU c true 3 b (λc=>qH 1 a b λa d=>qB .geq d n0 fun
 e=>c [a,d,e] b) λb d=>qP c (nth b 2) bF λb=>qU b true 3 d (λb=>qH 1 a d λa c=>qB .leq c (n6 8) λe=>b [a,c,e] d) λa c=>qP b (nth a 2) bF λa=>R
 a c) (qC .eql c (n6 9) (qG 2 a b λc=>qE c (nU 0) λc=>qU c true 3 b (λc=>qH 1 a b λa d=>qB .geq d n0 λe=>c [a,d,e] b) λb d=>qP c (nth b 2) bF fun
 b=>qU b true 3 d (λb=>qH 1 a d λa c=>qB .leq c (n6 8) λe=>b [a,c,e] d) λc d=>qP b (nth c 2) bF λb=>qU b true 3 d (λb=>qH 1 a d λa c=>qB .neq
 c (n6 4) λe=>b [a,c,e] d) λa c=>qP b (nth a 2) bF λa=>R a c) (qC .eql c (n6 10) (qG 2 a b λc=>qE c (nU 0) λc=>qU c true 4 b (λc=>qH 1 a b λa
 d=>qE d (n6 5) λe=>c [a,d,e,e] b) λb d=>qU (nth b 3) false 3 d (λb=>qH 1 a d λa c=>qE c (n6 6) λe=>b [a,c,e] d) λa d=>qU c true 1 d (λc=>qP (nth
 b 3) bT (nth a 2) λa=>c [a] d) λa b=>qP c (nth a 0) bF λa=>R a b) (qK 3 a b λc=>qS P_ 104 [c] b λb c=>qE b (n6 1) λb=>qU b true 3 c (λb=>qH 1
 a c λa d=>qE d n0 λe=>b [a,d,e] c) λc d=>qP b (nth c 2) bF λb=>qU b true 3 d (λb=>qH 2 a d λa c=>qE c (nU 0) λe=>b [a,c,e] d) λa c=>qP b (nth
 a 2) bF λa=>R a c))))))):z01 P_ 103 [a0,a1] h R:=cI zx2 z07 Tryz.func103 Tryz.ntmps103 Tryz.call103 (by kernel_rfl) (by kernel_rfl) H
def zod:=mkG [9,16,21,26,34] [(3,[0,1,5,8,9,10])] [] []
noncomputable def zjc:=lpOf 3 Tryz.f87
theorem ztv (H:qn a1 λa=>qw P_ 37 zjc [(0,a0),(1,a1),(5,n0),(8,a1),(9,a),(10,n0)] h (λa b c=>q5 a (qE (b 5) (n6 1) λa=>qU a true 3 c (fun
 a=>qn (b 1) λd=>qB .leq d (n6 64) λe=>a [b 1,d,e] c) λb c=>qP a (nth b 2) bF λa=>R a c)) λa b=>R (a 4) b):z01 P_ 87 [a0,a1] h R:=cI zod
 z07 Tryz.func87 Tryz.ntmps87 Tryz.call87 (by kernel_rfl) (by kernel_rfl) H
theorem zo2 (H:qC .lss s10 s9 (qY 3 s8 s10 h λa=>qA 67 [n0,n0,nU 0] h λb c=>qT 3 b a c λa=>qK 3 b a λc=>qS P_ 103 [c,s0] a λa c=>qN a fun
 a=>qU a false 4 c (λa=>qK 3 b c λb=>qS P_ 104 [b] c λc d=>qB .lss s5 c λe=>a [s5,b,c,e] d) λc d=>qP a bT (nth c 3) λa=>qI a (Q .ret (frOf [(4,bF)])
 d) (qK 3 b d λa=>qS P_ 104 [a] d λa b=>qB .sub (n6 1) a λa=>qB .add s5 a λa=>qB .add s10 (n6 1) λc=>Q .normal (frOf [(0,s0),(1,s1),(5,a),(8,s8),(9,s9),(10,c)])
 b)) (Q (.exit 0) (frOf [(1,s1),(5,s5)]) h)):WP P_ 37 zjc (frOf [(0,s0),(1,s1),(5,s5),(8,s8),(9,s9),(10,s10)]) h Q:=z0x zod [0] [0,1,5,8,9,10]
 [1,5] [4] z07 (by kernel_rfl) (Eq.mpr (by kernel_rfl) H)
def zs5:=mkG [3,17,25] [] [] []
theorem zpq (H:qM true 67 a0 h λa b=>qG 0 a b λc=>qC .eql c (n6 9) (qG 1 a b λa=>qS P_ 105 [a,a1,a2] b λa b=>R (.tup [a,bT]) b) (qG 1 a b fun
 a=>z1o (.int .i64) a1 b (later (λc=>z1o (.int .i64) a2 b (later (λd=>qS P_ 106 [a,c,d] b λa b=>qx 0 a λc=>qx 1 a λa=>z1o (.int .u64) c b (later
 (λc=>R (.tup [c,a]) b) ())) ())) ()))):z01 P_ 88 [a0,a1,a2] h R:=cI zs5 z07 Tryz.func88 Tryz.ntmps88 Tryz.call88 (by kernel_rfl) (by kernel_rfl)
 H
def zum:=mkG [13,18,20] [] [] []
theorem zry (H:qC .eql a0 (n6 4) (z7s (unA .neg a1) (later (λa=>R a h) ())) (qC .eql a0 (n6 5) (qS P_ 107 [a1] h λa b=>R a b) (qC .eql a0 (n6 6)
 (z1o (.int .i64) a1 h (later (λa=>qS P_ 108 [a] h λa b=>R a b) ())) (qS P_ 109 [a1] h λa b=>z1o (.int .u64) a b (later (λa=>R a b) ()))))):z01
 P_ 89 [a0,a1] h R:=cI zum z07 Tryz.func89 Tryz.ntmps89 Tryz.call89 (by kernel_rfl) (by kernel_rfl) H
def zoc:=mkG [16,18,21,27,40,47,57,65,75,93,103] [(5,[0,1,8,20,21,22]),(22,[0,1,8,10,11,20,21,22,77])] [22] []
noncomputable def zdl:=lpOf 5 Tryz.f63
theorem ztu (H:qn a0 λa=>qS P_ 87 [a,a2] h λa b=>qN a λa=>qI a (R (.tup [nU 0,n0]) b) (qn a2 λa=>qw P_ 109 zdl [(0,a0),(1,a1),(8,.nils),(20,a2),(21,a),(22,n0)]
 b (λa b c=>q5 a (qZ 1 (b 8) n0 c λa=>R (.tup [a,n0]) c)) λa b=>R (.tup [a 6,a 7]) b)):z01 P_ 63 [a0,a1,a2] h R:=cI zoc z07 Tryz.func63 Tryz.ntmps63
 Tryz.call63 (by kernel_rfl) (by kernel_rfl) H
theorem zf8 (H:qC .lss s22 s21 (qY 3 s20 s22 h λa=>qA 67 [n0,n0,nU 0] h λb c=>qT 3 b a c λa=>qn s8 λc=>qG 0 b a λd=>qC .eql d (n6 1) (qG
 2 b a λb=>(1=0->[(0,Operand.tmp 46)]=[])/\z0j true ⟨65,1,8⟩ [nU 0] 1 [(0,b)] a (later (λa b=>q1 (q7 false ⟨65,1,8⟩ s8 a b λa b=>qB .add s22 (n6 1) fun
 c=>Q .normal (frOf [(0,s0),(1,s1),(8,a),(20,s20),(21,s21),(22,c)]) b)) ())) (qC .eql d (n6 2) (qG 2 b a λb=>qZ 1 s0 b a λb=>(1=0->[(0,Operand.tmp 56)]=[])/\z0j
 true ⟨65,1,8⟩ [nU 0] 1 [(0,b)] a (later (λa b=>q1 (q7 false ⟨65,1,8⟩ s8 a b λa b=>qB .add s22 (n6 1) λc=>Q .normal (frOf [(0,s0),(1,s1),(8,a),(20,s20),(21,s21),(22,c)])
 b)) ())) (qC .eql d (n6 3) (qG 2 b a λc=>z1o (.int .i64) c a (later (λc=>qn s1 λd=>qC .lss c d (qG 2 b a λb=>qZ 1 s1 b a λb=>z1o (.int .u64) b
 a (later (λb=>(1=0->[(0,Operand.tmp 74)]=[])/\z0j true ⟨65,1,8⟩ [nU 0] 1 [(0,b)] a (later (λa b=>q1 (q7 false ⟨65,1,8⟩ s8 a b λa b=>qB .add s22 (n6 1)
 λc=>Q .normal (frOf [(0,s0),(1,s1),(8,a),(20,s20),(21,s21),(22,c)]) b)) ())) ())) (z1o (.int .u64) n0 a (later (λb=>(1=0->[(0,Operand.tmp 74)]=[])/\z0j
 true ⟨65,1,8⟩ [nU 0] 1 [(0,b)] a (later (λa b=>q1 (q7 false ⟨65,1,8⟩ s8 a b λa b=>qB .add s22 (n6 1) λc=>Q .normal (frOf [(0,s0),(1,s1),(8,a),(20,s20),(21,s21),(22,c)])
 b)) ())) ()))) ())) (qQ (λe=>qE d (n6 8) λf=>qI f (e (frOf [(0,s0),(1,s1),(8,s8),(10,b),(11,c),(20,s20),(21,s21),(22,s22),(77,f)]) a) (qE d (n6 9) λf=>qI
 f (e (frOf [(0,s0),(1,s1),(8,s8),(10,b),(11,c),(20,s20),(21,s21),(22,s22),(77,f)]) a) (qE d (n6 10) λd=>e (frOf [(0,s0),(1,s1),(8,s8),(10,b),(11,c),(20,s20),(21,s21),(22,s22),(77,d)])
 a))) λa b=>qI (a 77) (q1 (qK 3 (a 10) b λc=>qB .sub (a 11) (n6 2) λd=>qZ 1 (a 8) d b λd=>qB .sub (a 11) (n6 1) λe=>qZ 1 (a 8) e b λe=>qS P_ 88 [c,d,e]
 b λb c=>q2 (qx 0 b λd=>qx 1 b λb=>qN b λb=>qI b (Q .ret (frOf [(6,nU 0),(7,n6 1)]) c) (qB .sub (a 11) (n6 2) λb=>qs 1 (a 8) none (some b) λb=>(1=0->[(0,Operand.tmp
 102)]=[])/\z0j true ⟨65,1,8⟩ [nU 0] 1 [(0,d)] c (later (λc d=>q1 (q7 false ⟨65,1,8⟩ b c d λb c=>qB .add (a 22) (n6 1) λd=>Q .normal (frOf (kq a [0,1]
 [(8,b),(20,a 20),(21,a 21),(22,d)])) c)) ()))))) (q1 (qB .sub (a 11) (n6 1) λc=>qG 0 (a 10) b λd=>qB .sub (a 11) (n6 1) λe=>qZ 1 (a 8) e b λe=>qS P_ 89
 [d,e] b λb d=>q2 (qX 1 (a 8) c λc=>qT 1 c b d λb=>q2 (qB .add (a 22) (n6 1) λc=>Q .normal (frOf (kq a [0,1,8,20,21] [(22,c)])) b)))))))) (Q (.exit 0)
 (frOf [(8,s8)]) h)):WP P_ 109 zdl (frOf [(0,s0),(1,s1),(8,s8),(20,s20),(21,s21),(22,s22)]) h Q:=z0x zoc [0] [0,1,8,20,21,22] [8] [6,7] z07
 (by kernel_rfl) (Eq.mpr (by kernel_rfl) H)
def zs7:=mkG [1] [(9,[1,5])] [9] []
theorem zpt (H:qM true 56 a0 h λa b=>qG 0 a b λc=>qQ (λd=>qE c (n6 1) λe=>qI e (d (frOf [(1,a),(5,e)]) b) (qE c (n6 2) λe=>qI e (d (frOf
 [(1,a),(5,e)]) b) (qE c (n6 3) λe=>qI e (d (frOf [(1,a),(5,e)]) b) (qE c (n6 4) λe=>qI e (d (frOf [(1,a),(5,e)]) b) (qE c (n6 8) λe=>qI e (d (frOf [(1,a),(5,e)])
 b) (qE c (n6 9) λe=>qI e (d (frOf [(1,a),(5,e)]) b) (qE c (n6 10) λc=>d (frOf [(1,a),(5,c)]) b))))))) λa b=>qI (a 5) (qG 1 (a 1) b λa=>R a b) (R (n6 (-1))
 b)):z01 P_ 48 [a0] h R:=cI zs7 z07 Tryz.func48 Tryz.ntmps48 Tryz.call48 (by kernel_rfl) (by kernel_rfl) H
def z3y:=mkG [1,11,16,22,28,34,39,45,50,57,62,67,74,79] [(4,[1,38,39,40]),(10,[49,50,51]),(15,[49,50,51,66,67,68])] [] [(1,[(14,[1,31,35])])]
noncomputable def z8d:=lpOf 4 Tryz.f44
noncomputable def z7u:=lpOf 10 Tryz.f44
noncomputable def z4l:=lpOf 15 Tryz.f44
theorem zfu (H:qM true 28 a0 h λa b=>qG 0 a b λc=>qn c λc=>qB .gtr c (n6 20) λc=>qU c false 4 b (λc=>qH 1 a b λa d=>qn d λe=>qB
 .gtr e (n6 100) λf=>c [a,d,e,f] b) λb d=>qP c bT (nth b 3) λb=>qU b false 4 d (λb=>qH 2 a d λa c=>qn c λe=>qB .gtr e (n6 8) λf=>b [a,c,e,f] d)
 λc d=>qP b bT (nth c 3) λb=>qU b false 4 d (λb=>qH 3 a d λa c=>qn c λe=>qB .gtr e (n6 100) λf=>b [a,c,e,f] d) λc d=>qP b bT (nth c 3) λb=>qU
 b false 4 d (λb=>qH 4 a d λa c=>qn c λe=>qB .gtr e (n6 100) λf=>b [a,c,e,f] d) λc d=>z7n [a,b,nth c 3] (later (λa=>qP (nth a 1) bT (nth a 2)
 λb=>qI b (R bT d) (qG 0 (nth a 0) d λb=>qn b λc=>qw P_ 84 z8d [(1,nth a 0),(38,b),(39,c),(40,n0)] d (λa b c=>q5 a (qG 2 (b 1) c fun
 a=>qn a λb=>qw P_ 84 z7u [(49,a),(50,b),(51,n0)] c (λa _ b=>pIdx a 2 (pIdx 2 2 (R bF b) False) False) λa b=>R (a 2) b)) λa b=>R (a
 2) b)) ())):z01 P_ 44 [a0] h R:=cI z3y z07 Tryz.func44 Tryz.ntmps44 Tryz.call44 (by kernel_rfl) (by kernel_rfl) H
theorem zcy (H:qC .lss s40 s39 (qZ 1 s38 s40 h λa=>qn a λa=>qC .gtr a (n6 100) (Q .ret (frOf [(2,bT)]) h) (qB .add s40 (n6 1) λa=>Q
 .normal (frOf [(1,s1),(38,s38),(39,s39),(40,a)]) h)) (Q (.exit 0) (frOf [(1,s1)]) h)):WP P_ 84 z8d (frOf [(1,s1),(38,s38),(39,s39),(40,s40)]) h
 Q:=z0x z3y [0] [1,38,39,40] [1] [2] z07 (by kernel_rfl) (Eq.mpr (by kernel_rfl) H)
theorem zbo (H:qC .lss s51 s50 (qY 3 s49 s51 h λa=>qA 70 [.nils,.nils,n0] h λb c=>qT 3 b a c λa=>qG 0 b a λc=>qn c λc=>qB .gtr
 c (n6 300) λc=>qU c false 4 a (λc=>qH 1 b a λb d=>qn d λe=>qB .gtr e (n6 600) λf=>c [b,d,e,f] a) λa d=>qP c bT (nth a 3) λa=>qI a (Q .ret (frOf
 [(2,bT)]) d) (qG 1 b d λa=>qn a λb=>qw P_ 84 z4l [(49,s49),(50,s50),(51,s51),(66,a),(67,b),(68,n0)] d (λa b c=>pIdx a 4 (pIdx 4 4 (qB
 .add (b 51) (n6 1) λa=>Q .normal (frOf (kq b [49,50] [(51,a)])) c) (pIdx 4 3 (qB .add (b 51) (n6 1) λa=>Q .normal (frOf (kq b [49,50] [(51,a)])) c) (Q (.exit
 4) (frOf []) c))) False) λa b=>Q .ret (frOf [(2,a 2)]) b)) (Q (.exit 2) (frOf []) h)):WP P_ 84 z7u (frOf [(49,s49),(50,s50),(51,s51)]) h Q:=z0x
 z3y [2] [49,50,51] [] [2] z07 (by kernel_rfl) (Eq.mpr (by kernel_rfl) H)
theorem zbp (H:qC .lss s68 s67 (qY 8 s66 s68 h λa=>qA 56 [n0,n0,n0,n0,n0,n0,.nils,.nils] h λb c=>qT 8 b a c λa=>qG 6 b a λc=>qn
 c λc=>qB .gtr c (n6 200) λc=>qU c false 4 a (λc=>qH 7 b a λb d=>qn d λe=>qB .gtr e (n6 200) λf=>c [b,d,e,f] a) λa b=>qP c bT (nth a 3) λa=>qI
 a (Q .ret (frOf [(2,bT)]) b) (qB .add s68 (n6 1) λa=>Q .normal (frOf [(49,s49),(50,s50),(51,s51),(66,s66),(67,s67),(68,a)]) b)) (Q (.exit 4) (frOf [(49,s49),(50,s50),(51,s51)])
 h)):WP P_ 84 z4l (frOf [(49,s49),(50,s50),(51,s51),(66,s66),(67,s67),(68,s68)]) h Q:=z0x z3y [4,3,2] [49,50,51,66,67,68]
 [49,50,51] [2] z07 (by kernel_rfl) (Eq.mpr (by kernel_rfl) H)
def zln:=mkG [] [] [] []
theorem zkj (H:qB .geq a0 n0 λa=>qU a true 3 h (λa=>qB .lss a0 a1 λb=>a [a0,a1,b] h) λb c=>qP a (nth b 2) bF λa=>R a c):z01 P_ 76
 [a0,a1] h R:=cI zln z07 Tryz.func76 Tryz.ntmps76 Tryz.call76 (by kernel_rfl) (by kernel_rfl) H
def zh7:=mkG [2,3,12,13] [] [] []
theorem zfv (H:qM true 28 a0 h λa b=>qM true 147 a1 b λb c=>qG 0 b c λd=>qC .eql d (n6 4) (qG 1 b c λb=>qG 0 a c λa=>qn a λa=>qS
 P_ 76 [b,a] c λa b=>R a b) (qG 0 b c λa=>qE a (n6 1) λa=>qU a false 3 c (λa=>qH 0 b c λb d=>qE d (n6 2) λe=>a [b,d,e] c) λc d=>qP a bT (nth c
 2) λa=>qU a false 3 d (λa=>qH 0 b d λb c=>qE c (n6 3) λe=>a [b,c,e] d) λc d=>qP a bT (nth c 2) λa=>qU a true 3 d (λa=>qH 1 b d λb c=>qE c
 n0 λe=>a [b,c,e] d) λb c=>qP a (nth b 2) bF λa=>R a c)):z01 P_ 75 [a0,a1] h R:=cI zh7 z07 Tryz.func75 Tryz.ntmps75 Tryz.call75 (by
 kernel_rfl) (by kernel_rfl) H
def z94:=mkG [3,11] [(2,[1,2,10,11,12])] [] []
noncomputable def z7v:=lpOf 2 Tryz.f43
theorem zex (H:qM true 28 a0 h λa b=>qG 4 a b λa=>qn a λc=>qw P_ 35 z7v [(1,a1),(2,a2),(10,a),(11,c),(12,n0)] b (fun
 a _ b=>q5 a (R (n6 (-1)) b)) λa b=>R (a 6) b):z01 P_ 43 [a0,a1,a2] h R:=cI z94 z07 Tryz.func43 Tryz.ntmps43 Tryz.call43 (by kernel_rfl)
 (by kernel_rfl) H
theorem zbq (H:qC .lss s12 s11 (qY 3 s10 s12 h λa=>qA 123 [n0,n0,n0] h λb c=>qT 3 b a c λa=>qG 0 b a λc=>qE c s1 λc=>qU c true
 4 a (λc=>qH 1 b a λb d=>qB .lss d s2 λe=>c [b,d,s2,e] a) λa d=>qP c (nth a 3) bF λa=>qU a true 4 d (λa=>qH 2 b d λb c=>qB .leq s2 c λe=>a
 [s2,b,c,e] d) λb c=>qP a (nth b 3) bF λa=>qI a (Q .ret (frOf [(6,s12)]) c) (qB .add s12 (n6 1) λa=>Q .normal (frOf [(1,s1),(2,s2),(10,s10),(11,s11),(12,a)])
 c)) (Q (.exit 0) (frOf []) h)):WP P_ 35 z7v (frOf [(1,s1),(2,s2),(10,s10),(11,s11),(12,s12)]) h Q:=z0x z94 [0] [1,2,10,11,12]
 [] [6] z07 (by kernel_rfl) (Eq.mpr (by kernel_rfl) H)
def zh4:=mkG [2] [] [] [(2,[(11,[2,32,36])]),(9,[(15,[2,81])])]
theorem zfr (H:qM true 67 a0 h λa b=>qG 0 a b λc=>qB .geq c (n6 1) λc=>qU c true 3 b (λc=>qH 0 a b λa d=>qB .leq d (n6 3) λe=>c
 [a,d,e] b) λb d=>qP c (nth b 2) bF λb=>qI b (qG 1 a d λb=>qB .neq b n0 λb=>qU b false 4 d (λb=>qH 0 a d λa c=>qE c (n6 2) λe=>b [a,c,e,e] d)
 λc d=>qU (nth c 3) true 3 d (λa=>qB .leq a1 n0 λb=>a [a1,b,b] d) λd e=>qU (nth d 2) false 5 e (λb=>qH 2 a e λa c=>z1o (.int .u64) a1 e (later
 (λd=>qB .geq c d λf=>b [a,c,a1,d,f] e) ())) λe f=>qU (nth c 3) true 1 f (λa=>qP (nth d 2) bT (nth e 4) λb=>a [b] f) λd e=>qU b false 1 e (λa=>qP
 (nth c 3) (nth d 0) bF λb=>a [b] e) λc d=>qP b bT (nth c 0) λb=>qU b false 4 d (λb=>qH 0 a d λa c=>qE c (n6 3) λe=>b [a,c,e,e] d) λc d=>z7n
 [a,b,nth c 3] (later (λa=>qU (nth a 2) true 3 d (λb=>qH 2 (nth a 0) d λa c=>qB .geq c (nU 16) λe=>b [a,c,e] d) λb c=>qU (nth a 1) false 1 c (λd=>qP
 (nth a 2) (nth b 2) bF λa=>d [a] c) λb c=>qP (nth a 1) bT (nth b 0) λa=>qI a (R (n6 (-1)) c) (R n0 c)) ())) (qG 0 a d λb=>qB .geq b (n6 4) λb=>qU b
 true 3 d (λb=>qH 0 a d λa c=>qB .leq c (n6 7) λe=>b [a,c,e] d) λc d=>qP b (nth c 2) bF λb=>qI b (qG 1 a d λb=>qB .neq b n0 λb=>qU b false 3 d
 (λb=>qH 2 a d λa c=>qB .neq c (nU 0) λe=>b [a,c,e] d) λa c=>qP b bT (nth a 2) λa=>qI a (R (n6 (-1)) c) (R (n6 1) c)) (qG 0 a d λb=>qB .lss b (n6
 8) λb=>qU b false 3 d (λb=>qH 0 a d λa c=>qB .gtr c (n6 10) λe=>b [a,c,e] d) λc d=>qP b bT (nth c 2) λb=>qU b false 3 d (λb=>qH 2 a d λa c=>qB
 .neq c (nU 0) λe=>b [a,c,e] d) λc d=>qP b bT (nth c 2) λb=>qU b false 3 d (λb=>qH 1 a d λa c=>qB .lss c n0 λe=>b [a,c,e] d) λc d=>qP b bT (nth
 c 2) λb=>qU b false 3 d (λb=>qH 1 a d λa c=>qB .gtr c (n6 8) λe=>b [a,c,e] d) λc d=>qP b bT (nth c 2) λb=>z7n [a,b] (later (λa=>qU (nth a
 1) false 4 d (λb=>qH 0 (nth a 0) d λa c=>qE c (n6 9) λe=>b [a,c,e,e] d) λb c=>qU (nth b 3) true 3 c (λb=>qH 1 (nth a 0) c λa d=>qE d (n6 4) fun
 e=>b [a,d,e] c) λc d=>qU (nth a 1) false 1 d (λa=>qP (nth b 3) (nth c 2) bF λb=>a [b] d) λb c=>qP (nth a 1) bT (nth b 0) λb=>qU b false 4 c (λb=>qH
 0 (nth a 0) c λa d=>qE d (n6 10) λe=>b [a,d,e,e] c) λc d=>qU (nth c 3) true 3 d (λb=>qH 1 (nth a 0) d λa c=>qB .neq c (n6 5) λe=>b [a,c,e] d) fun
 d e=>qU b false 2 e (λa=>qP (nth c 3) (nth d 2) bF λb=>a [b,b] e) λc d=>qU (nth c 1) true 3 d (λb=>qH 1 (nth a 0) d λa c=>qB .neq c (n6 6) λe=>b
 [a,c,e] d) λa d=>qU b false 1 d (λb=>qP (nth c 1) (nth a 2) bF λa=>b [a] d) λa c=>qP b bT (nth a 0) λa=>qI a (R (n6 (-1)) c) (R (n6 2) c)) ())))):z01
 P_ 68 [a0,a1] h R:=cI zh4 z07 Tryz.func68 Tryz.ntmps68 Tryz.call68 (by kernel_rfl) (by kernel_rfl) H
def za6:=mkG [9,20,35] [(3,[0,1,5,6])] [] []
noncomputable def z8v:=lpOf 3 Tryz.f51
theorem zhn (H:qn a0 λa=>qB .sub a (n6 1) λa=>qw P_ 38 z8v [(0,a0),(1,a1),(5,n6 1),(6,a)] h (λa b c=>q5 a (qE (b 5) n0
 λa=>qU a true 3 c (λa=>qn (b 0) λd=>qB .leq d (n6 64) λe=>a [b 0,d,e] c) λb c=>qP a (nth b 2) bF λa=>R a c)) λa b=>R (a 4) b):z01 P_ 51 [a0,a1]
 h R:=cI za6 z07 Tryz.func51 Tryz.ntmps51 Tryz.call51 (by kernel_rfl) (by kernel_rfl) H
theorem ze4 (H:qC .geq s6 n0 (qY 3 s0 s6 h λa=>qS P_ 68 [a,s1] h λa b=>qB .lss a n0 λc=>qU c false 2 b (λa=>qE s5 n0 λc=>a [s5,c]
 b) λb d=>qP c bT (nth b 1) λb=>qI b (Q .ret (frOf [(4,bF)]) d) (qB .sub s5 (n6 1) λb=>qB .add b a λa=>qB .sub s6 (n6 1) λb=>Q .normal (frOf [(0,s0),(1,s1),(5,a),(6,b)])
 d)) (Q (.exit 0) (frOf [(0,s0),(5,s5)]) h)):WP P_ 38 z8v (frOf [(0,s0),(1,s1),(5,s5),(6,s6)]) h Q:=z0x za6 [0] [0,1,5,6] [0,5]
 [4] z07 (by kernel_rfl) (Eq.mpr (by kernel_rfl) H)
def zjo:=mkG [4,10] [] [] []
theorem ziv (H:(18=0->[(0,Operand.const (Value.string ⟨⟨[]⟩⟩)),(1,Operand.const (Value.string ⟨⟨[100,105]⟩⟩)),(2,Operand.const (Value.string ⟨⟨[100,110]⟩⟩)),(3,Operand.const
 (Value.string ⟨⟨[100,115,114,110]⟩⟩)),(4,Operand.const (Value.string ⟨⟨[100,115,120]⟩⟩)),(5,Operand.const (Value.string ⟨⟨[110,105]⟩⟩)),(6,Operand.const (Value.string
 ⟨⟨[115,114,110,105]⟩⟩)),(7,Operand.const (Value.string ⟨⟨[115,120,105]⟩⟩)),(8,Operand.const (Value.string ⟨⟨[100,114,110]⟩⟩)),(9,Operand.const (Value.string ⟨⟨[100,105,110]⟩⟩)),(10,Operand.const
 (Value.string ⟨⟨[100,115]⟩⟩)),(11,Operand.const (Value.string ⟨⟨[105]⟩⟩)),(12,Operand.const (Value.string ⟨⟨[105]⟩⟩)),(13,Operand.const (Value.string ⟨⟨[116]⟩⟩)),(14,Operand.const
 (Value.string ⟨⟨[116,105]⟩⟩)),(15,Operand.const (Value.string ⟨⟨[110]⟩⟩)),(16,Operand.const (Value.string ⟨⟨[110]⟩⟩)),(17,Operand.const (Value.string ⟨⟨[]⟩⟩))]=[])/\z0j
 true ⟨9,1,16⟩ [.str []] 18 [(0,.str []),(1,.str [100,105]),(2,.str [100,110]),(3,.str [100,115,114,110]),(4,.str [100,115,120]),(5,.str [110,105]),(6,.str [115,114,110,105]),(7,.str
 [115,120,105]),(8,.str [100,114,110]),(9,.str [100,105,110]),(10,.str [100,115]),(11,.str [105]),(12,.str [105]),(13,.str [116]),(14,.str [116,105]),(15,.str [110]),(16,.str
 [110]),(17,.str [])] h (later (λa b=>qB .lss a0 (n6 1) λc=>qU c false 4 b (λc=>qn a λd=>qB .geq a0 d λe=>c [a0,a,d,e] b) λb d=>qP c bT (nth b 3)
 λb=>qI b (R (.str [63]) d) (qZ 1 a a0 d λa=>R a d)) ())):z01 P_ 94 [a0] h R:=cI zjo z07 Tryz.func94 Tryz.ntmps94 Tryz.call94 (by kernel_rfl)
 (by kernel_rfl) H
def zb0:=mkG [8] [(2,[0,1,5])] [] []
noncomputable def z9m:=lpOf 2 Tryz.f95
theorem ziw (H:qw P_ 17 z9m [(0,a0),(1,a1),(5,n0)] h (λa _ b=>q5 a (R bF b)) λa b=>R (a 4) b):z01 P_ 95 [a0,a1] h R:=cI
 zb0 z07 Tryz.func95 Tryz.ntmps95 Tryz.call95 (by kernel_rfl) (by kernel_rfl) H
theorem zey (H:q9 .str s0 λa=>qC .lss s5 a (zah s0 s5 (later (λa=>qC .eql a s1 (Q .ret (frOf [(4,bT)]) h) (qB .add s5 (n6 1) λa=>Q
 .normal (frOf [(0,s0),(1,s1),(5,a)]) h)) ())) (Q (.exit 0) (frOf []) h)):WP P_ 17 z9m (frOf [(0,s0),(1,s1),(5,s5)]) h Q:=z0x zb0
 [0] [0,1,5] [] [4] z07 (by kernel_rfl) (Eq.mpr (by kernel_rfl) H)
def zjm:=mkG [] [] [] []
theorem zit (H:qB .shl a0 (nU 1) λa=>qB .shr a (nU 53) λa=>qE a (nU 2047) λa=>qU a true 3 h (λa=>qB .shl a0 (nU 12) λb=>qB .neq b (nU
 0) λc=>a [a0,b,c] h) λb c=>qP a (nth b 2) bF λa=>R a c):z01 P_ 69 [a0] h R:=cI zjm z07 Tryz.func69 Tryz.ntmps69 Tryz.call69 (by kernel_rfl)
 (by kernel_rfl) H
def zid:=mkG [4] [] [] []
theorem zhk (H:qS P_ 69 [a0] h λa b=>qI a (R (nU 9221120237041090560) b) (R a0 b)):z01 P_ 70 [a0] h R:=cI zid z07 Tryz.func70
 Tryz.ntmps70 Tryz.call70 (by kernel_rfl) (by kernel_rfl) H
def zh3:=mkG [7] [] [] []
theorem zfq (H:qS P_ 69 [a0] h λa b=>qI a (R n0 b) (qB .shl a0 (nU 1) λa=>qB .shr a (nU 53) λa=>z1o (.int .i64) a b (later (λa=>qB
 .sub a (n6 1075) λa=>qB .shl a0 (nU 12) λc=>qB .shr c (nU 12) λc=>qB .add c (nU 4503599627370496) λc=>qB .shl a0 (nU 1) λd=>qB .shr d (nU 53) λd=>qC
 .eql d (nU 0) (R n0 b) (qB .shr a0 (nU 63) λd=>qE d (nU 1) λd=>qC .geq a (n6 11) (qI d (R (n6 (-9223372036854775808)) b) (R (n6 9223372036854775807) b)) (qC
 .leq a (n6 (-53)) (R n0 b) (qC .lss a n0 (z7s (unA .neg a) (later (λa=>z1o (.int .u64) a b (later (λa=>qB .shr c a λa=>qI d (z1o (.int .i64) a b (later
 (λa=>z7s (unA .neg a) (later (λa=>R a b) ())) ())) (z1o (.int .i64) a b (later (λa=>R a b) ()))) ())) ())) (z1o (.int .u64) a b (later (λa=>qB .shl
 c a λa=>qI d (z1o (.int .i64) a b (later (λa=>z7s (unA .neg a) (later (λa=>R a b) ())) ())) (z1o (.int .i64) a b (later (λa=>R a b) ()))) ()))))))
 ()))):z01 P_ 72 [a0] h R:=cI zh3 z07 Tryz.func72 Tryz.ntmps72 Tryz.call72 (by kernel_rfl) (by kernel_rfl) H
def zjn:=mkG [] [] [] []
theorem ziu (H:qI a0 (R (n6 1) h) (R n0 h)):z01 P_ 91 [a0] h R:=cI zjn z07 Tryz.func91 Tryz.ntmps91 Tryz.call91 (by kernel_rfl)
 (by kernel_rfl) H
def zie:=mkG [] [] [] []
theorem zhl (H:qB .shl a0 (nU 1) λa=>qB .shr a (nU 1) λa=>z1o (.int .i64) a h (later (λa=>qB .shr a0 (nU 63) λb=>qC .eql b (nU 1) (z7s
 (unA .neg a) (later (λa=>R a h) ())) (R a h)) ())):z01 P_ 110 [a0] h R:=cI zie z07 Tryz.func110 Tryz.ntmps110 Tryz.call110 (by kernel_rfl)
 (by kernel_rfl) H
def zh2:=mkG [6,10,15,17] [] [] []
theorem zfp (H:qS P_ 69 [a0] h λa b=>qN a λa=>qU a true 3 b (λa=>qS P_ 69 [a1] b λb c=>qN b λd=>a [a1,b,d] c) λb c=>qP a (nth
 b 2) bF λa=>qU a true 5 c (λa=>qS P_ 110 [a0] c λb c=>qS P_ 110 [a1] c λc d=>qE b c λe=>a [a0,b,a1,c,e] d) λb c=>qP a (nth b 4) bF λa=>R a c):z01
 P_ 92 [a0,a1] h R:=cI zh2 z07 Tryz.func92 Tryz.ntmps92 Tryz.call92 (by kernel_rfl) (by kernel_rfl) H
def zib:=mkG [6,9,12,14] [] [] []
theorem zhi (H:qS P_ 69 [a0] h λa b=>qU a false 2 b (λa=>qS P_ 69 [a1] b λb c=>a [a1,b] c) λb c=>qP a bT (nth b 1) λa=>qI a (R bF
 c) (qS P_ 110 [a0] c λa b=>qS P_ 110 [a1] b λb c=>qB .lss a b λa=>R a c)):z01 P_ 93 [a0,a1] h R:=cI zib z07 Tryz.func93 Tryz.ntmps93
 Tryz.call93 (by kernel_rfl) (by kernel_rfl) H
def zic:=mkG [10,12,19,20,26,27,33,34,40,41,48,49,55,57,63,64,70,74,76] [] [] []
theorem zhj (H:qS P_ 90 [a1] h λa b=>qS P_ 90 [a2] b λb c=>qC .eql a0 n0 (z81 FloatKind.f64 .add a b c (later (λa b=>qS P_ 71 [a] b
 λa b=>qS P_ 70 [a] b λa b=>R a b) ())) (qC .eql a0 (n6 1) (z81 FloatKind.f64 .sub a b c (later (λa b=>qS P_ 71 [a] b λa b=>qS P_ 70 [a] b λa b=>R
 a b) ())) (qC .eql a0 (n6 2) (z81 FloatKind.f64 .mul a b c (later (λa b=>qS P_ 71 [a] b λa b=>qS P_ 70 [a] b λa b=>R a b) ())) (qC .eql a0 (n6 3) (z81
 FloatKind.f64 .quo a b c (later (λa b=>qS P_ 71 [a] b λa b=>qS P_ 70 [a] b λa b=>R a b) ())) (qC .eql a0 (n6 4) (R (nU 9221120237041090560) c) (qC .eql a0
 (n6 5) (qS P_ 92 [a1,a2] c λa b=>qS P_ 91 [a] b λa b=>z1o (.int .u64) a b (later (λa=>R a b) ())) (qC .eql a0 (n6 6) (qS P_ 92 [a1,a2] c λa b=>qN a
 λa=>qS P_ 91 [a] b λa b=>z1o (.int .u64) a b (later (λa=>R a b) ())) (qC .eql a0 (n6 7) (qS P_ 93 [a1,a2] c λa b=>qS P_ 91 [a] b λa b=>z1o (.int
 .u64) a b (later (λa=>R a b) ())) (qC .eql a0 (n6 8) (qS P_ 93 [a1,a2] c λa b=>qU a false 3 b (λa=>qS P_ 92 [a1,a2] b λb c=>a [a1,a2,b] c) λb c=>qP
 a bT (nth b 2) λa=>qS P_ 91 [a] c λa b=>z1o (.int .u64) a b (later (λa=>R a b) ())) (R (nU 0) c)))))))))):z01 P_ 73 [a0,a1,a2] h R:=cI zic
 z07 Tryz.func73 Tryz.ntmps73 Tryz.call73 (by kernel_rfl) (by kernel_rfl) H
def zjl:=mkG [53,59,65,71] [] [] []
theorem zis (H:qC .eql a0 n0 (qB .add a1 a2 λa=>R (.tup [a,bT]) h) (qC .eql a0 (n6 1) (qB .sub a1 a2 λa=>R (.tup [a,bT]) h) (qC .eql a0 (n6
 2) (qB .mul a1 a2 λa=>R (.tup [a,bT]) h) (qC .eql a0 (n6 3) (qC .eql a2 n0 (R (.tup [n0,bF]) h) (qC .eql a2 (n6 (-1)) (z7s (unA .neg a1) (later (λa=>R (.tup
 [a,bT]) h) ())) (qB .quo a1 a2 λa=>R (.tup [a,bT]) h))) (qC .eql a0 (n6 4) (qC .eql a2 n0 (R (.tup [n0,bF]) h) (qC .eql a2 (n6 (-1)) (R (.tup [n0,bT]) h) (qB .quo
 a1 a2 λa=>qB .mul a a2 λa=>qB .sub a1 a λa=>R (.tup [a,bT]) h))) (qC .eql a0 (n6 5) (qE a1 a2 λa=>qS P_ 91 [a] h λa b=>R (.tup [a,bT]) b) (qC .eql
 a0 (n6 6) (qB .neq a1 a2 λa=>qS P_ 91 [a] h λa b=>R (.tup [a,bT]) b) (qC .eql a0 (n6 7) (qB .lss a1 a2 λa=>qS P_ 91 [a] h λa b=>R (.tup [a,bT]) b) (qC
 .eql a0 (n6 8) (qB .leq a1 a2 λa=>qS P_ 91 [a] h λa b=>R (.tup [a,bT]) b) (R (.tup [n0,bT]) h)))))))))):z01 P_ 74 [a0,a1,a2] h R:=cI zjl z07
 Tryz.func74 Tryz.ntmps74 Tryz.call74 (by kernel_rfl) (by kernel_rfl) H
def zh5:=mkG [44,60,77,79,91,97,107,125,134] [(23,[0,2,3,11,12,13,14])] [23] []
theorem zfs (H:qY 3 a0 a1 h λa=>qA 67 [n0,n0,nU 0] h λb c=>qT 3 b a c λa=>qG 0 b a λc=>qC .eql c (n6 1) (qG 2 b a λb=>R (.tup [b,a1,n0])
 a) (qC .eql c (n6 2) (qG 2 b a λb=>qZ 1 a2 b a λb=>R (.tup [b,a1,n0]) a) (qC .eql c (n6 3) (qG 2 b a λc=>z1o (.int .i64) c a (later (λc=>qn a3 λd=>qC
 .geq c d (R (.tup [nU 0,a1,n0]) a) (qG 2 b a λb=>qZ 1 a3 b a λb=>z1o (.int .u64) b a (later (λb=>R (.tup [b,a1,n0]) a) ()))) ())) (qB .sub a1 (n6 1) fun
 c=>qS P_ 52 [a0,c,a2,a3] a λa c=>qx 0 a λd=>qx 1 a λe=>qx 2 a λa=>qQ (λf=>qG 0 b c λg=>qC .eql g (n6 4) (z1o (.int .i64) d c (later (λb=>qB
 .sub n0 b λb=>z1o (.int .u64) b c (later (λb=>R (.tup [b,e,a]) c) ())) ())) (qC .eql g (n6 5) (qS P_ 69 [d] c λb c=>qI b (qS P_ 70 [d] c λb c=>R (.tup
 [b,e,a]) c) (qB .xor d (nU 9223372036854775808) λb=>R (.tup [b,e,a]) c)) (qC .eql g (n6 6) (z1o (.int .i64) d c (later (λb=>z1o (.i2f FloatKind.f64) b c
 (later (λb=>qS P_ 71 [b] c λb c=>R (.tup [b,e,a]) c) ())) ())) (qC .eql g (n6 7) (qS P_ 72 [d] c λb c=>z1o (.int .u64) b c (later (λb=>R (.tup [b,e,a])
 c) ())) (f (frOf [(0,a0),(2,a2),(3,a3),(11,b),(12,d),(13,e),(14,a)]) c))))) λa b=>qB .sub (a 13) (n6 1) λc=>qS P_ 52 [a 0,c,a 2,a 3] b λb c=>qx 0 b λd=>qx
 1 b λe=>qx 2 b λb=>qB .neq b n0 λb=>qU b false 2 c (λb=>qB .neq (a 14) n0 λd=>b [a 14,d] c) λc f=>qP b bT (nth c 1) λb=>qI b (R (.tup [nU 0,e,n6
 1]) f) (qG 0 (a 11) f λb=>qC .eql b (n6 9) (qG 1 (a 11) f λb=>qS P_ 73 [b,d,a 12] f λa b=>R (.tup [a,e,n0]) b) (qG 1 (a 11) f λb=>z1o (.int .i64) d
 f (later (λc=>z1o (.int .i64) (a 12) f (later (λa=>qS P_ 74 [b,c,a] f λa b=>qx 0 a λc=>qx 1 a λa=>qN a λa=>qI a (R (.tup [nU 0,e,n6 1]) b) (z1o
 (.int .u64) c b (later (λa=>R (.tup [a,e,n0]) b) ()))) ())) ()))))))):z01 P_ 52 [a0,a1,a2,a3] h R:=cI zh5 z07 Tryz.func52 Tryz.ntmps52 Tryz.call52
 (by kernel_rfl) (by kernel_rfl) H
def zif:=mkG [13,14,19,23] [] [] []
theorem zhm (H:qn a1 λa=>qS P_ 51 [a0,a] h λa b=>qN a λa=>qI a (R (.tup [nU 0,n0]) b) (qn a0 λa=>qB .sub a (n6 1) λa=>qS P_ 52 [a0,a,a1,a2]
 b λa b=>qx 0 a λc=>qx 1 a λ_=>qx 2 a λa=>qC .neq a n0 (R (.tup [nU 0,n6 1]) b) (R (.tup [c,n0]) b))):z01 P_ 37 [a0,a1,a2] h R:=cI zif
 z07 Tryz.func37 Tryz.ntmps37 Tryz.call37 (by kernel_rfl) (by kernel_rfl) H
def z2c:=mkG [7,16] [(2,[0,1,7,8])] [] []
noncomputable def z1y:=lpOf 2 Tryz.f54
theorem z5b (H:qn a0 λa=>qw P_ 19 z1y [(0,a0),(1,a1),(7,a),(8,n0)] h (λa _
 b=>q5 a (R (n6 (-1)) b)) λa b=>R (a 4) b):z01 P_ 54 [a0,a1] h R:=cI z2c z07 Tryz.func54 Tryz.ntmps54 Tryz.call54 (by
 kernel_rfl) (by kernel_rfl) H
theorem z3x (H:qC .lss s8 s7 (qY 3 s0 s8 h λa=>zmc P_ s1 [a] h (later (λa b=>qI a (Q .ret (frOf [(4,s8)]) b) (qB
 .add s8 (n6 1) λa=>Q .normal (frOf [(0,s0),(1,s1),(7,s7),(8,a)]) b)) ())) (Q (.exit 0) (frOf []) h)):WP P_ 19 z1y (frOf
 [(0,s0),(1,s1),(7,s7),(8,s8)]) h Q:=z0x z2c [0] [0,1,7,8] [] [4] z07 (by kernel_rfl) (Eq.mpr (by kernel_rfl) H)
def zoe:=mkG [3] [] [] []
theorem zmq (H:qM true 123 a0 h λa b=>qG 0 a b λc=>qL a1 b λd=>qE c d λc=>qU c true 4 b (λc=>qL a2 b λd=>qH 1 a b λa e=>qB .gtr
 d e λf=>c [d,a,e,f] b) λb d=>qP c (nth b 3) bF λb=>qU b true 4 d (λb=>qL a2 d λc=>qH 2 a d λa e=>qB .leq c e λf=>b [c,a,e,f] d) λa c=>qP b
 (nth a 3) bF λa=>R a c):z01 P_ 55 [a0,a1,a2] h R:=cI zoe z07 Tryz.func55 Tryz.ntmps55 Tryz.call55 (by kernel_rfl) (by kernel_rfl) H
def zs6:=mkG [3,4,5,10] [] [] []
theorem zps (H:qM true 28 a0 h λa b=>qM true 3 a1 b λb c=>qM true 3 a2 c λc d=>qG 4 a d λa=>qS P_ 54 [a,.fn (Fn.func 55) [] [b,c]] d λa
 b=>R a b):z01 P_ 42 [a0,a1,a2] h R:=cI zs6 z07 Tryz.func42 Tryz.ntmps42 Tryz.call42 (by kernel_rfl) (by kernel_rfl) H
end
end
section
open Go.Abs
section
variable (a0 a1 a2:AV) (h:z00) (R:AV->z00->Prop) (Q:z1p->Fr->z00->Prop)
def zh6:=mkG [3,26,31,41,51,61,71,81,86,92,97,103,105,110,115,120,126,131,137,142,148,154,155,160,166,167,173,178,194,203,208,216,231,232,263,264,287,288,351,352,378,379,399,400,429,430]
 [(4,[1,2,3,7,8,9]),(6,[1,2,3,7,8,9]),(9,[1,2,3,7,8,9]),(11,[1,2,3,7,8,9]),(15,[1,2,3,7,8,9]),(18,[1,2,3,7,8,9,11,12]),(20,[1,2,3,8,11,12]),(27,[1,2,3,8,11,12,224,265]),(33,[1,2,3,8,11,12,224,318]),(29,[3,8,11])]
 [4,6,9,11,15,18,20,27,29,33] [(4,[(25,[1,2,3,7,8,9,69,77]),(13,[1,2,3,7,8,9,49,53])]),(7,[(22,[1,2,3,7,8,9,146,149,156]),(11,[1,2,3,7,8,9,10,124,127])]),(41,[(10,[412,421])]),(43,[(10,[442,451])])]
def z0k (R:AV->z00->Prop) (fr':Fr) (v651:AV) (x658:List AV) (x666:List AV) (h667:z00):Prop :=qV v651 true 1 h667 (λa=>qX
 3 (nth x658 0) (nth x666 0) λb=>a [b] h667) λa b=>qV v651 true 1 b (λc=>qK 3 (nth a 0) b λa=>c [a] b) λa b=>qV v651 true 1 b (λa=>a [fr' 1] b) fun
 b c=>qV v651 true 1 c (λa=>a [fr' 2] c) λc d=>qV v651 true 1 d (λa=>qF 3 (fr' 8) λb=>a [b] d) λd e=>qV v651 true 1 e (λa=>qL (nth d 0) e λb=>a
 [b] e) λd e=>qV v651 true 1 e (λa=>q8 [(0,1),(1,1),(2,1)] [n0,n0,n0] [(0,nth b 0),(1,nth c 0),(2,nth d 0)] λb=>a [b] e) λb c=>qV v651 true 1 c (λd=>qD
 (.flat [.int,.int,.int]) .eql (nth a 0) (nth b 0) λa=>d [a] c) λa b=>qP v651 (nth a 0) bF λa=>R a b
def z0l (R:AV->z00->Prop) (J:Fr->z00->Prop) (x62:List AV) (v73:AV) (x78:List AV) (h79:z00):Prop :=qU (nth x78 3) true
 3 h79 (λa=>qH 4 (nth x62 4) h79 λb c=>qB .neq c n0 λd=>a [b,c,d] h79) λa b=>qU v73 false 1 b (λc=>qP (nth x78 3) (nth a 2) bF λa=>c [a] b) λa
 b=>qP v73 bT (nth a 0) λa=>qU a false 4 b (λa=>qS P_ 95 [nth x62 5,n8 116] b λb c=>qN b λd=>a [nth x62 5,b,d,d] c) λb c=>qU (nth b 3) true 3 c (fun
 a=>qH 5 (nth x62 4) c λb d=>qB .neq d n0 λe=>a [b,d,e] c) λc d=>qU a false 1 d (λa=>qP (nth b 3) (nth c 2) bF λb=>a [b] d) λb c=>z7n [nth x62
 0,nth x62 1,nth x62 2,nth x62 3,nth x62 4,nth x62 5,a,nth b 0] (later (λa=>qP (nth a 6) bT (nth a 7) λb=>qU b false 4 c (λb=>qS P_ 95 [nth a 5,n8 105] c
 λc d=>qN c λe=>b [nth a 5,c,e,e] d) λc d=>qU (nth c 3) true 4 d (λb=>qH 6 (nth a 4) d λa c=>qn c λe=>qB .gtr e n0 λf=>b [a,c,e,f] d) λd e=>qU
 b false 1 e (λa=>qP (nth c 3) (nth d 3) bF λb=>a [b] e) λc d=>qP b bT (nth c 0) λb=>qU b false 4 d (λb=>qS P_ 95 [nth a 5,n8 120] d λc d=>qN c fun
 e=>b [nth a 5,c,e,e] d) λc d=>qU (nth c 3) true 4 d (λb=>qH 7 (nth a 4) d λa c=>qn c λe=>qB .gtr e n0 λf=>b [a,c,e,f] d) λd e=>qU b false 1 e (fun
 a=>qP (nth c 3) (nth d 3) bF λb=>a [b] e) λc d=>qP b bT (nth c 0) λb=>qI b (R bF d) (J (frOf [(1,nth a 0),(2,nth a 1),(3,nth a 2),(7,nth a 3),(8,nth a 4),(9,nth
 a 5)]) d)) ())
def z0m (R:AV->z00->Prop) (J:Fr->z00->Prop) (x182:List AV) (x193:List AV) (h194:z00):Prop :=qP (nth x182 7) bT (nth x193
 0) λa=>qU a false 3 h194 (λa=>qS P_ 95 [nth x182 5,n8 120] h194 λb c=>a [nth x182 5,b,b] c) λb c=>qU (nth b 2) true 5 c (λa=>qH 7 (nth x182 4) c fun
 b d=>qS P_ 51 [d,nth x182 6] c λc e=>qN c λf=>a [b,d,nth x182 6,c,f] e) λc d=>qU a false 1 d (λa=>qP (nth b 2) (nth c 4) bF λb=>a [b] d) λb c=>qP
 a bT (nth b 0) λa=>qU a false 3 c (λa=>qS P_ 95 [nth x182 5,n8 114] c λb c=>a [nth x182 5,b,b] c) λb c=>qU (nth b 2) true 7 c (λa=>qH 3 (nth x182 4)
 c λb d=>qH 0 (nth x182 2) c λe f=>qn f λg=>qS P_ 76 [d,g] c λc i=>qN c λj=>a [b,d,e,f,g,c,j] i) λc d=>z7n [nth x182 0,nth x182 1,nth x182 2,nth
 x182 3,nth x182 4,nth x182 5,a,nth b 2,nth c 6] (later (λa=>qU (nth a 6) false 1 d (λb=>qP (nth a 7) (nth a 8) bF λa=>b [a] d) λb c=>qP (nth a 6) bT (nth
 b 0) λb=>qI b (R bF c) (J (frOf [(1,nth a 0),(2,nth a 1),(3,nth a 2),(7,nth a 3),(8,nth a 4),(9,nth a 5)]) c)) ())
def z0n (R:AV->z00->Prop) (fr':Fr) (J:Fr->z00->Prop) (v236:AV) (x268:List AV) (x272:List AV) (h273:z00):Prop :=qV (nth
 x268 0) false 1 h273 (λa=>a [fr' 1] h273) λa b=>qV (nth x268 0) false 1 b (λa=>a [fr' 2] b) λb c=>qV (nth x268 0) false 1 c (λa=>qK 5 (fr' 3) c fun
 b=>a [b] c) λc d=>qV (nth x268 0) false 1 d (λa=>a [fr' 1] d) λd e=>qV (nth x268 0) false 1 e (λa=>qF 5 (fr' 8) λb=>a [b] e) λe f=>qV (nth x268
 0) false 1 f (λa=>qL (nth e 0) f λb=>a [b] f) λf g=>qV (nth x268 0) false 1 g (λc=>qS P_ 43 [nth x272 0,nth a 0,nth b 0] g λa b=>c [a] b) λa b=>(qV
 (nth x268 0) false 1 b (λa=>qL (nth e 0) b λc=>a [c] b) (λa c=>nth a 0=nth f 0/\c=b)/\qV (nth x268 0) false 1 b (λa=>qK 5 (fr' 3) b λc=>a [c] b) fun
 a d=>nth a 0=nth c 0/\d=b)/\qV (nth x268 0) false 1 b (λa=>qS P_ 43 [nth c 0,nth d 0,nth f 0] b λb c=>a [b] c) λb c=>q2 (qV (nth x268 0) false 1 c (λd=>qB
 .neq (nth a 0) (nth b 0) λa=>d [a] c) λa b=>qV v236 true 1 b (λc=>qP (nth x268 0) bT (nth a 0) λa=>c [a] b) λa b=>qP v236 (nth a 0) bF λa=>qI a
 (R bF b) (J (frOf (kq fr' [1,2,3,7,8,9] [])) b))
def z0o (R:AV->z00->Prop) (fr':Fr) (h':z00) (v349:AV) (v351:AV) (h352:z00):Prop :=qQ (λa=>qS P_ 95 [fr' 9,n8 100] h352
 λb c=>qI b (qG 0 (fr' 7) c λb=>qG 1 (fr' 8) c λd=>qY 3 b d c λb=>qT 3 v349 b c λb=>a (frOf (kq fr' [1,2,3,7,8,9] [(11,v349),(12,v351)])) b) (a (frOf
 (kq fr' [1,2,3,7,8,9] [(11,v349),(12,v351)])) c)) λa b=>qQ (λc=>qS P_ 95 [a 9,n8 115] b λb d=>qI b (qG 0 (a 7) d λb=>qG 2 (a 8) d λe=>qY 3 b e d fun
 b=>qT 3 (a 12) b d λb=>c (frOf (kq a [1,2,3,8,11,12] [])) b) (c (frOf (kq a [1,2,3,8,11,12] [])) d)) λa b=>qG 0 (a 8) b λc=>qC .eql c (n6 2) (q1 (qG 4 (a
 8) b λc=>qG 1 (a 3) b λd=>qn d λd=>qS P_ 76 [c,d] b λb c=>q2 (qV b true 1 c (λb=>qF 1 (a 3) λa=>b [a] c) λc d=>qV b true 1 d (λa=>qL (nth
 c 0) d λb=>a [b] d) λc d=>qV b true 1 d (λb=>qF 4 (a 8) λa=>b [a] d) λd e=>qV b true 1 e (λa=>qL (nth d 0) e λb=>a [b] e) λd e=>qV b true
 1 e (λa=>qX 3 (nth c 0) (nth d 0) λb=>a [b] e) λc d=>qV b true 1 d (λa=>qF 0 (nth c 0) λb=>a [b] d) λc d=>qV b true 1 d (λa=>qL (nth c 0) d fun
 b=>a [b] d) λc d=>qV b true 1 d (λb=>qF 0 (a 11) λa=>b [a] d) λd e=>qV b true 1 e (λa=>qL (nth d 0) e λb=>a [b] e) λd e=>qV b true 1 e (λa=>qE
 (nth c 0) (nth d 0) λb=>a [b] e) λc d=>qP b (nth c 0) bF λb=>qV b true 1 d (λb=>qF 1 (a 3) λa=>b [a] d) λc d=>qV b true 1 d (λa=>qL (nth c 0)
 d λb=>a [b] d) λc d=>qV b true 1 d (λb=>qF 4 (a 8) λa=>b [a] d) λd e=>qV b true 1 e (λa=>qL (nth d 0) e λb=>a [b] e) λd e=>qV b true 1 e (fun
 a=>qX 3 (nth c 0) (nth d 0) λb=>a [b] e) λc d=>qV b true 1 d (λa=>qF 1 (nth c 0) λb=>a [b] d) λc d=>qV b true 1 d (λa=>qL (nth c 0) d λb=>a [b]
 d) λc d=>qV b true 1 d (λb=>qF 1 (a 11) λa=>b [a] d) λa d=>qV b true 1 d (λb=>qL (nth a 0) d λa=>b [a] d) λa d=>qV b true 1 d (λb=>qE (nth
 c 0) (nth a 0) λa=>b [a] d) λa c=>qP b (nth a 0) bF λa=>R a c))) (qC .eql c (n6 5) (qG 4 (a 8) b λc=>qG 1 (a 3) b λa=>qn a λa=>qS P_ 76 [c,a] b
 λa b=>R a b) (qQ (λd=>qE c (n6 3) λe=>qI e (d (frOf (kq a [1,2,3,8,11,12] [(224,c),(265,e)])) b) (qE c (n6 6) λe=>d (frOf (kq a [1,2,3,8,11,12] [(224,c),(265,e)]))
 b)) λa b=>qI (a 265) (qQ (λc=>q1 (qG 0 (a 12) b λd=>qB .neq d (n6 4) λd=>qV d false 1 b (λc=>qF 1 (a 12) λa=>c [a] b) λb e=>qV d false 1 e (fun
 a=>qL (nth b 0) e λb=>a [b] e) λb e=>qV d false 1 e (λb=>qF 3 (a 8) λa=>b [a] e) λe f=>qV d false 1 f (λa=>qL (nth e 0) f λb=>a [b] f) λe
 f=>qV d false 1 f (λa=>qB .neq (nth b 0) (nth e 0) λb=>a [b] f) λb e=>qP d bT (nth b 0) λb=>qV b false 1 e (λb=>qF 4 (a 8) λa=>b [a] e) λd e=>qV
 b false 1 e (λa=>qL (nth d 0) e λb=>a [b] e) λd e=>qV b false 1 e (λb=>qF 0 (a 3) λa=>b [a] e) λe f=>qV b false 1 f (λa=>qL (nth e 0) f λb=>a
 [b] f) λe f=>qV b false 1 f (λb=>qF 3 (a 8) λa=>b [a] f) λf g=>qV b false 1 g (λa=>qL (nth f 0) g λb=>a [b] g) λf g=>qV b false 1 g (λa=>qX
 1 (nth e 0) (nth f 0) λb=>a [b] g) λe f=>qV b false 1 f (λa=>qL (nth e 0) f λb=>a [b] f) λe f=>qV b false 1 f (λa=>qn (nth e 0) λb=>a [b] f)
 λe f=>qV b false 1 f (λa=>qS P_ 76 [nth d 0,nth e 0] f λb c=>a [b] c) λd e=>q2 (qV b false 1 e (λa=>qN (nth d 0) λb=>a [b] e) λd e=>qP b bT (nth
 d 0) λb=>qI b (R bF e) (c (frOf (kq a [3,8,11] [])) e)))) λa b=>q1 (qH 0 (a 3) b λc d=>qH 3 (a 8) b λe f=>qX 1 d f λg=>qL g b λi=>qH 4 (a 8) b fun
 j k=>qX 3 i k λl=>qK 3 l b λm=>qA 147 [n0,n0,bF] b λb n=>(q4 3 l m n/\q3 j k n/\q3 g i n/\q3 e f n/\q3 c d n)/\qT 3 b m n λc=>q2 (qG 0 (a 8) c λd=>qE d
 (n6 6) λd=>qU d false 6 c (λd=>qH 0 b c λb e=>qH 0 (a 11) c λa f=>qE e f λg=>d [b,e,a,f,g,g] c) λc e=>qU (nth c 5) true 5 e (λc=>qH 1 b e fun
 b d=>qH 1 (a 11) e λa f=>qE d f λg=>c [b,d,a,f,g] e) λa b=>qU d false 1 b (λd=>qP (nth c 5) (nth a 4) bF λa=>d [a] b) λa b=>qP d bT (nth a 0) fun
 a=>R a b))) (qQ (λc=>qE (a 224) (n6 4) λd=>qI d (c (frOf (kq a [1,2,3,8,11,12,224] [(318,d)])) b) (qE (a 224) (n6 10) λd=>c (frOf (kq a [1,2,3,8,11,12,224]
 [(318,d)])) b)) λa b=>qI (a 318) (qG 0 (a 11) b λc=>qE c (n6 1) λc=>qU c true 3 b (λc=>qH 0 (a 12) b λa d=>qE d (n6 3) λe=>c [a,d,e] b) λa b=>qP
 c (nth a 2) bF λa=>R a b) (qC .eql (a 224) (n6 7) (qG 0 (a 12) b λa=>qE a (n6 3) λa=>R a b) (qC .eql (a 224) (n6 8) (q1 (qG 0 (a 11) b λc=>qE c (n6 4)
 λc=>qV c true 1 b (λc=>qF 1 (a 11) λa=>c [a] b) λb d=>qV c true 1 d (λa=>qL (nth b 0) d λb=>a [b] d) λb d=>qV c true 1 d (λb=>qF 3 (a 8) fun
 a=>b [a] d) λd e=>qV c true 1 e (λa=>qL (nth d 0) e λb=>a [b] e) λd e=>qV c true 1 e (λa=>qE (nth b 0) (nth d 0) λb=>a [b] e) λb d=>qP c (nth
 b 0) bF λb=>qV b true 1 d (λb=>qF 4 (a 8) λa=>b [a] d) λc d=>qV b true 1 d (λa=>qL (nth c 0) d λb=>a [b] d) λc d=>qV b true 1 d (λb=>qF 3
 (a 3) λa=>b [a] d) λd e=>qV b true 1 e (λa=>qL (nth d 0) e λb=>a [b] e) λd e=>qV b true 1 e (λa=>qn (nth d 0) λb=>a [b] e) λd e=>qV b true
 1 e (λa=>qS P_ 76 [nth c 0,nth d 0] e λb c=>a [b] c) λc d=>q2 (qP b (nth c 0) bF λb=>qV b true 1 d (λb=>qF 3 (a 3) λa=>b [a] d) λc d=>qV b true
 1 d (λa=>qL (nth c 0) d λb=>a [b] d) λc d=>qV b true 1 d (λb=>qF 4 (a 8) λa=>b [a] d) λd e=>qV b true 1 e (λa=>qL (nth d 0) e λb=>a [b] e)
 λd e=>z0k R a b c d e))) (qC .eql (a 224) (n6 9) (qG 0 (a 11) b λc=>qE c (n6 3) λc=>qU c true 6 b (λc=>qH 4 (a 8) b λd e=>qH 3
 (a 3) b λa f=>qn f λg=>qS P_ 76 [e,g] b λb i=>c [d,e,a,f,g,b] i) λb d=>qP c (nth b 5) bF λb=>qU b true 10 d (λb=>qH 3 (a 3) d λc e=>qH 4 (a 8)
 d λf g=>qX 3 e g λi=>qK 3 i d λj=>q8 [(0,1),(1,1),(2,1)] [n0,n0,n0] [(0,a 1),(1,a 2),(2,n6 (-1))] λk=>qD (.flat [.int,.int,.int]) .eql j k λl=>b [c,e,f,g,i,j,a
 1,a 2,k,l] d) λa c=>qP b (nth a 9) bF λa=>R a c) (qC .eql (a 224) (n6 15) (qG 4 (a 8) b λc=>qG 4 (a 3) b λd=>qn d λd=>qS P_ 76 [c,d] b λb c=>qU
 b true 9 c (λb=>qH 4 (a 3) c λd e=>qH 4 (a 8) c λf g=>qX 3 e g λi=>qH 0 i c λj k=>qE k (a 1) λl=>b [d,e,f,g,i,j,k,a 1,l] c) λc d=>qP b (nth c
 8) bF λb=>qU b true 9 d (λb=>qH 4 (a 3) d λc e=>qH 4 (a 8) d λf g=>qX 3 e g λi=>qH 1 i d λj k=>qE k (a 2) λl=>b [c,e,f,g,i,j,k,a 2,l] d) fun
 a c=>z7n [b,nth a 8] (later (λa=>qP (nth a 0) (nth a 1) bF λa=>R a c) ())) (qC .eql (a 224) (n6 16) (qG 4 (a 8) b λc=>qG 4 (a 3) b λd=>qn d λd=>qS
 P_ 76 [c,d] b λb c=>qU b true 9 c (λb=>qH 4 (a 3) c λd e=>qH 4 (a 8) c λf g=>qX 3 e g λi=>qH 0 i c λj k=>qE k (a 1) λl=>b [d,e,f,g,i,j,k,a 1,l]
 c) λc d=>qP b (nth c 8) bF λb=>qU b true 9 d (λb=>qH 4 (a 3) d λc e=>qH 4 (a 8) d λf g=>qX 3 e g λi=>qH 2 i d λj k=>qE k (a 2) λl=>b [c,e,f,g,i,j,k,a
 2,l] d) λa c=>z7n [b,nth a 8] (later (λa=>qP (nth a 0) (nth a 1) bF λa=>R a c) ())) (R bT b)))))))))
theorem z0s (H:qM true 28 a0 h λa b=>qG 2 a b λc=>qY 3 c a1 b λc=>qA 70 [.nils,.nils,n0] b λb d=>qT 3 b c d λc=>qG 1 b c λd=>qY
 8 d a2 c λd=>qA 56 [n0,n0,n0,n0,n0,n0,.nils,.nils] c λc e=>qT 8 c d e λd=>qQ (λe=>qG 0 c d λf=>qS P_ 94 [f] d λd f=>e (frOf [(1,a1),(2,a2),(3,a),(7,b),(8,c),(9,d)])
 f) λa b=>qQ (λc=>qE (a 9) (.str [63]) λd=>qU d false 4 b (λc=>qS P_ 95 [a 9,n8 100] b λb d=>qN b λe=>c [a 9,b,e,e] d) λb e=>qU (nth b 3) true
 3 e (λb=>qH 1 (a 8) e λa c=>qB .neq c n0 λd=>b [a,c,d] e) λe f=>qU d false 1 f (λa=>qP (nth b 3) (nth e 2) bF λb=>a [b] f) λb e=>qP d bT (nth
 b 0) λb=>qU b false 4 e (λb=>qS P_ 95 [a 9,n8 115] e λc d=>qN c λe=>b [a 9,c,e,e] d) λd e=>qU (nth d 3) true 3 e (λb=>qH 2 (a 8) e λa c=>qB .neq
 c n0 λd=>b [a,c,d] e) λe f=>qU b false 1 f (λa=>qP (nth d 3) (nth e 2) bF λb=>a [b] f) λd e=>qP b bT (nth d 0) λb=>qU b false 4 e (λb=>qS P_
 95 [a 9,n8 114] e λc d=>qN c λe=>b [a 9,c,e,e] d) λd e=>z7n [a 1,a 2,a 3,a 7,a 8,a 9,b,nth d 3] (later (λa=>qU (nth a 7) true 3 e (λb=>qH 3 (nth
 a 4) e λa c=>qB .neq c n0 λd=>b [a,c,d] e) λb d=>qU (nth a 6) false 1 d (λc=>qP (nth a 7) (nth b 2) bF λa=>c [a] d) λb d=>qP (nth a 6) bT (nth b
 0) λb=>qU b false 4 d (λb=>qS P_ 95 [nth a 5,n8 110] d λc d=>qN c λe=>b [nth a 5,c,e,e] d) λd e=>z0l R c a b d e) ())) λa b=>qG
 0 (a 7) b λc=>qn c λc=>qQ (λd=>qS P_ 95 [a 9,n8 100] b λb e=>qU b true 5 e (λb=>qH 1 (a 8) e λa d=>qS P_ 76 [d,c] e λe f=>qN e λg=>b [a,d,c,e,g]
 f) λe f=>qP b (nth e 4) bF λb=>qU b false 3 f (λb=>qS P_ 95 [a 9,n8 115] f λc d=>b [a 9,c,c] d) λe f=>qU (nth e 2) true 5 f (λb=>qH 2 (a 8) f fun
 a d=>qS P_ 76 [d,c] f λe f=>qN e λg=>b [a,d,c,e,g] f) λf g=>qU b false 1 g (λa=>qP (nth e 2) (nth f 4) bF λb=>a [b] g) λe f=>qP b bT (nth e 0) fun
 b=>qU b false 3 f (λb=>qS P_ 95 [a 9,n8 105] f λc d=>b [a 9,c,c] d) λe f=>z7n [a 1,a 2,a 3,a 7,a 8,a 9,c,b,nth e 2] (later (λa=>qU (nth a 8) true 5
 f (λb=>qH 6 (nth a 4) f λc d=>qS P_ 51 [d,nth a 6] f λe f=>qN e λg=>b [c,d,nth a 6,e,g] f) λb c=>qU (nth a 7) false 1 c (λd=>qP (nth a 8) (nth b
 4) bF λa=>d [a] c) λb c=>z0m R d a b c) ())) λa b=>qQ (λc=>q1 (qS P_ 95 [a 9,n8 116] b λb d=>q2 (qV b true 1 d (λb=>qF 5 (a
 8) λa=>b [a] d) λd e=>qV b true 1 e (λa=>qL (nth d 0) e λb=>a [b] e) λd e=>qV b true 1 e (λb=>qF 1 (a 7) λa=>b [a] e) λe f=>qV b true 1 f
 (λa=>qL (nth e 0) f λb=>a [b] f) λe f=>qV b true 1 f (λa=>qn (nth e 0) λb=>a [b] f) λe f=>qV b true 1 f (λa=>qS P_ 76 [nth d 0,nth e 0] f fun
 b c=>a [b] c) λd e=>q2 (qV b true 1 e (λa=>qN (nth d 0) λb=>a [b] e) λd e=>qV b true 1 e (λa=>a [nth d 0] e) λd e=>qV (nth d 0) false 1 e (λb=>qK
 5 (a 3) e λa=>b [a] e) λe f=>z0n R a c b d e f)))) λa b=>qG 0 (a 8) b λc=>qB .geq c (n6 2) λc=>qU c true 3 b (λc=>qH 0 (a 8)
 b λa d=>qB .leq d (n6 9) λe=>c [a,d,e] b) λb d=>qP c (nth b 2) bF λb=>qU b true 5 d (λb=>qK 5 (a 3) d λc=>qS P_ 43 [c,a 1,a 2] d λd e=>qB .lss
 d n0 λf=>b [c,a 1,a 2,d,f] e) λc d=>qP b (nth c 4) bF λb=>qI b (R bF d) (qQ (λb=>qG 0 (a 8) d λc=>qE c (n6 17) λc=>qG 1 (a 7) d λe=>qn e fun
 e=>qB .sub e (n6 1) λe=>qE (a 2) e λe=>qD .bool .neq c e λc=>qI c (R bF d) (b (frOf (kq a [1,2,3,7,8,9] [])) d)) λa b=>qA 147 [n0,n0,bF] b λc d=>qA
 147 [n0,n0,bF] d λd e=>z0o R a b c d e)):z01 P_ 77 [a0,a1,a2] h R:=cI zh6 z07 Tryz.func77 Tryz.ntmps77 Tryz.call77
 (by kernel_rfl) (by kernel_rfl) H
end
end
section
open Go.Abs
section
variable (a0 s1 s12 s13 s20 s57 s58 s59 s71 s72 s73 s88 s89 s90 s121 s122 s123 s134 s135 s136 s214 s215 s216 s249 s250 s251 s304 s305 s306 s313 s314:AV) (h:z00) (R:AV->z00->Prop) (Q:z1p->Fr->z00->Prop)
def z1f:=mkG [1,25,30,36,42,48,58,68,72,82,89,96,101,107,122,129,135,145,146,153,166,167,215,250,260,261,273,274,305,313,320] [(3,[1]),(5,[1,57,58,59]),(10,[1,57,58,59,71,72,73]),(17,[1,88,89,90]),(22,[1,88,89,90,121,122,123]),(29,[1,134,135,136]),(33,[1,12,13,134,135,136]),(37,[1,12,13,134,135,136,214,215,216]),(44,[1,249,250,251]),(49,[1,17,19,249,250,251]),(53,[1,304,305,306]),(56,[1,20,304,305,306,313,314])]
 [3,33,49] [(1,[(14,[1,45,49])]),(19,[(14,[1,9,88,89,90,115,118])]),(34,[(11,[1,12,13,14,134,135,136,194,201])]),(39,[(9,[1,12,13,134,135,136,214,215,216,231,244])])]
noncomputable def z5g:=lpOf 5 Tryz.f56
noncomputable def z2s:=lpOf 10 Tryz.f56
noncomputable def z4e:=lpOf 17 Tryz.f56
noncomputable def z4f:=lpOf 22 Tryz.f56
noncomputable def z4g:=lpOf 29 Tryz.f56
noncomputable def z4h:=lpOf 37 Tryz.f56
noncomputable def z4i:=lpOf 44 Tryz.f56
noncomputable def z4j:=lpOf 53 Tryz.f56
noncomputable def z4k:=lpOf 56 Tryz.f56
theorem zft (H:qM true 28 a0 h λa b=>qQ (λc=>qG 0 a b λd=>qn d λd=>qB .gtr d (n6 6) λd=>qU d false 4 b (λc=>qH 1 a b λa d=>qn
 d λe=>qB .gtr e (n6 8) λf=>c [a,d,e,f] b) λb e=>qP d bT (nth b 3) λb=>qU b false 4 e (λb=>qH 2 a e λa c=>qn c λd=>qB .gtr d (n6 4) λf=>b [a,c,d,f]
 e) λd e=>qP b bT (nth d 3) λb=>qU b false 4 e (λb=>qH 3 a e λa c=>qn c λd=>qB .gtr d (n6 32) λf=>b [a,c,d,f] e) λd e=>qP b bT (nth d 3) λb=>qU
 b false 4 e (λb=>qH 4 a e λa c=>qn c λd=>qB .gtr d (n6 32) λf=>b [a,c,d,f] e) λd e=>z7n [a,b,nth d 3] (later (λa=>qP (nth a 1) bT (nth a 2) fun
 b=>qI b (R bF e) (c (frOf [(1,nth a 0)]) e)) ())) λa b=>qG 1 (a 1) b λc=>(1=0->[(0,Operand.tmp 52)]=[])/\z0j false ⟨23,1,24⟩ [.nils] 1 [(0,c)] b (later (fun
 b c=>qG 0 (a 1) c λd=>q1 (q7 false ⟨23,1,24⟩ b d c λb c=>qn b λd=>qw P_ 324 z5g [(1,a 1),(57,b),(58,d),(59,n0)] c (λa b c=>q5 a (qG
 2 (b 1) c λa=>qn a λd=>qw P_ 324 z4e [(1,b 1),(88,a),(89,d),(90,n0)] c (λa b c=>pIdx a 4 (pIdx 4 4 (qG 4 (b 1) c λa=>qn a λd=>qw
 P_ 324 z4g [(1,b 1),(134,a),(135,d),(136,n0)] c (λa b c=>pIdx a 8 (pIdx 8 8 (qG 3 (b 1) c λa=>qn a λd=>qw P_ 324 z4i
 [(1,b 1),(249,a),(250,d),(251,n0)] c (λa b c=>pIdx a 12 (pIdx 12 12 (qG 2 (b 1) c λa=>qn a λd=>qw P_ 324 z4j [(1,b 1),(304,a),(305,d),(306,n0)]
 c (λa _ b=>pIdx a 14 (pIdx 14 14 (R bT b) False) False) λa b=>R (a 2) b) False) False) λa b=>R (a 2) b) False) False) λa b=>R (a 2) b) False) False) fun
 a b=>R (a 2) b)) λa b=>R (a 2) b)) ())):z01 P_ 56 [a0] h R:=cI z1f z07 Tryz.func56 Tryz.ntmps56 Tryz.call56 (by kernel_rfl) (by kernel_rfl)
 H
theorem zcx (H:qC .lss s59 s58 (qZ 1 s57 s59 h λa=>qB .gtr s59 n0 λb=>qU b true 3 h (λb=>qn a λc=>qB .gtr c (n6 6) λd=>b [a,c,d]
 h) λc d=>qP b (nth c 2) bF λb=>qI b (Q .ret (frOf [(2,bF)]) d) (qn a λb=>qw P_ 324 z2s [(1,s1),(57,s57),(58,s58),(59,s59),(71,a),(72,b),(73,n0)]
 d (λa b c=>pIdx a 2 (pIdx 2 2 (qB .add (b 59) (n6 1) λa=>Q .normal (frOf (kq b [1,57,58] [(59,a)])) c) (pIdx 2 1 (qB .add (b 59) (n6 1) λa=>Q .normal (frOf
 (kq b [1,57,58] [(59,a)])) c) (Q (.exit 2) (frOf [(1,b 1)]) c))) False) λa b=>Q .ret (frOf [(2,a 2)]) b)) (Q (.exit 0) (frOf [(1,s1)]) h)):WP P_ 324 z5g
 (frOf [(1,s1),(57,s57),(58,s58),(59,s59)]) h Q:=z0x z1f [0] [1,57,58,59] [1] [2] z07 (by kernel_rfl) (Eq.mpr (by kernel_rfl) H)
theorem zbg (H:qC .lss s73 s72 (qY 3 s71 s73 h λa=>qA 147 [n0,n0,bF] h λb c=>qT 3 b a c λa=>qG 2 b a λc=>qU c false 4 a (λc=>qK
 5 s1 a λd=>qK 3 b a λb=>qS P_ 75 [d,b] a λa e=>qN a λf=>c [d,b,a,f] e) λa b=>qP c bT (nth a 3) λa=>qI a (Q .ret (frOf [(2,bF)]) b) (qB .add s73
 (n6 1) λa=>Q .normal (frOf [(1,s1),(57,s57),(58,s58),(59,s59),(71,s71),(72,s72),(73,a)]) b)) (Q (.exit 2) (frOf [(1,s1),(57,s57),(58,s58),(59,s59)]) h)):WP P_
 324 z2s (frOf [(1,s1),(57,s57),(58,s58),(59,s59),(71,s71),(72,s72),(73,s73)]) h Q:=z0x z1f [2,1,0] [1,57,58,59,71,72,73]
 [1,57,58,59] [2] z07 (by kernel_rfl) (Eq.mpr (by kernel_rfl) H)
theorem zbh (H:qC .lss s90 s89 (qY 3 s88 s90 h λa=>qA 70 [.nils,.nils,n0] h λb c=>qT 3 b a c λa=>qG 0 b a λc=>qn c λc=>qB .gtr
 c (n6 64) λc=>qU c false 4 a (λc=>qH 1 b a λb d=>qn d λe=>qB .lss e (n6 1) λf=>c [b,d,e,f] a) λa d=>qP c bT (nth a 3) λa=>qU a false 4 d (fun
 a=>qH 1 b d λb c=>qn c λe=>qB .gtr e (n6 256) λf=>a [b,c,e,f] d) λc d=>qP a bT (nth c 3) λa=>qU a false 3 d (λa=>qH 2 b d λb c=>qB .lss c n0
 λe=>a [b,c,e] d) λc d=>qP a bT (nth c 2) λa=>qU a false 3 d (λa=>qH 2 b d λb c=>qB .gtr c (n6 4096) λe=>a [b,c,e] d) λc d=>z7n [s1,b,s88,s89,s90,a,nth
 c 2] (later (λa=>qP (nth a 5) bT (nth a 6) λb=>qI b (Q .ret (frOf [(2,bF)]) d) (qG 0 (nth a 1) d λb=>qn b λc=>qw P_ 324 z4f [(1,nth
 a 0),(88,nth a 2),(89,nth a 3),(90,nth a 4),(121,b),(122,c),(123,n0)] d (λa b c=>pIdx a 6 (pIdx 6 6 (qB .add (b 90) (n6 1) λa=>Q .normal (frOf (kq b [1,88,89]
 [(90,a)])) c) (pIdx 6 5 (qB .add (b 90) (n6 1) λa=>Q .normal (frOf (kq b [1,88,89] [(90,a)])) c) (Q (.exit 6) (frOf [(1,b 1)]) c))) False) λa b=>Q .ret (frOf
 [(2,a 2)]) b)) ())) (Q (.exit 4) (frOf [(1,s1)]) h)):WP P_ 324 z4e (frOf [(1,s1),(88,s88),(89,s89),(90,s90)]) h Q:=z0x z1f
 [4] [1,88,89,90] [1] [2] z07 (by kernel_rfl) (Eq.mpr (by kernel_rfl) H)
theorem zbi (H:qC .lss s123 s122 (qY 3 s121 s123 h λa=>qA 147 [n0,n0,bF] h λb c=>qT 3 b a c λa=>qK 5 s1 a λc=>qK 3 b a λb=>qS
 P_ 75 [c,b] a λa b=>qN a λa=>qI a (Q .ret (frOf [(2,bF)]) b) (qB .add s123 (n6 1) λa=>Q .normal (frOf [(1,s1),(88,s88),(89,s89),(90,s90),(121,s121),(122,s122),(123,a)])
 b)) (Q (.exit 6) (frOf [(1,s1),(88,s88),(89,s89),(90,s90)]) h)):WP P_ 324 z4f (frOf [(1,s1),(88,s88),(89,s89),(90,s90),(121,s121),(122,s122),(123,s123)])
 h Q:=z0x z1f [6,5,4] [1,88,89,90,121,122,123] [1,88,89,90] [2] z07 (by kernel_rfl) (Eq.mpr (by kernel_rfl) H)
theorem zbj (H:qC .lss s136 s135 (qY 3 s134 s136 h λa=>qA 123 [n0,n0,n0] h λb c=>qT 3 b a c λa=>qQ (λc=>q1 (qG 0 b a λd=>qG 2
 s1 a λe=>qn e λe=>qS P_ 76 [d,e] a λa d=>q2 (qN a λa=>qV a false 1 d (λa=>qF 1 b λb=>a [b] d) λd e=>qV a false 1 e (λa=>qL (nth d 0) e fun
 b=>a [b] e) λd e=>qV a false 1 e (λa=>qF 2 b λb=>a [b] e) λe f=>qV a false 1 f (λa=>qL (nth e 0) f λb=>a [b] f) λe f=>qV a false 1 f (λa=>qS
 P_ 76 [nth d 0,nth e 0] f λb c=>a [b] c) λd e=>q2 (qV a false 1 e (λa=>qN (nth d 0) λb=>a [b] e) λd e=>qP a bT (nth d 0) λa=>qV a false 1 e (fun
 a=>qF 2 b λb=>a [b] e) λd e=>qV a false 1 e (λa=>qL (nth d 0) e λb=>a [b] e) λd e=>qV a false 1 e (λa=>qF 2 s1 λb=>a [b] e) λe f=>qV a false
 1 f (λa=>qL (nth e 0) f λb=>a [b] f) λe f=>qV a false 1 f (λa=>qF 0 b λb=>a [b] f) λf g=>qV a false 1 g (λa=>qL (nth f 0) g λb=>a [b] g) fun
 f g=>qV a false 1 g (λa=>qX 3 (nth e 0) (nth f 0) λb=>a [b] g) λe f=>qV a false 1 f (λa=>qF 1 (nth e 0) λb=>a [b] f) λe f=>qV a false 1 f (λa=>qL
 (nth e 0) f λb=>a [b] f) λe f=>qV a false 1 f (λa=>qn (nth e 0) λb=>a [b] f) λe f=>qV a false 1 f (λa=>qS P_ 76 [nth d 0,nth e 0] f λb c=>a [b]
 c) λd e=>q2 (qV a false 1 e (λa=>qN (nth d 0) λb=>a [b] e) λd e=>qP a bT (nth d 0) λa=>qI a (Q .ret (frOf [(2,bF)]) e) (c (frOf [(1,s1),(12,s136),(13,b),(134,s134),(135,s135),(136,s136)])
 e)))))) λa b=>qG 2 (a 1) b λc=>qG 0 (a 13) b λd=>qX 3 c d λc=>qG 1 c b λc=>qG 1 (a 13) b λd=>qX 8 c d λd=>qG 0 d b λd=>qB .neq d (n6 15) fun
 d=>qU d false 8 b (λd=>qH 1 (a 13) b λe f=>qX 8 c f λg=>qH 4 g b λi j=>qB .neq j (a 12) λk=>d [c,e,f,g,i,j,a 12,k] b) λb e=>qP d bT (nth b 7) fun
 b=>qU b false 7 e (λb=>qH 2 (a 13) e λa d=>qX 8 c d λf=>qH 0 f e λg i=>qB .neq i (n6 16) λj=>b [c,a,d,f,g,i,j] e) λd e=>z7n [a 1,a 12,a 13,c,a
 134,a 135,a 136,b,nth d 6] (later (λa=>qP (nth a 7) bT (nth a 8) λb=>qU b false 8 e (λb=>qH 2 (nth a 2) e λc d=>qX 8 (nth a 3) d λf=>qH 4 f e λg
 i=>qB .neq i (nth a 1) λj=>b [nth a 3,c,d,f,g,i,nth a 1,j] e) λc d=>qP b bT (nth c 7) λb=>qI b (Q .ret (frOf [(2,bF)]) d) (qG 4 (nth a 0) d λb=>qn b fun
 c=>qw P_ 324 z4h [(1,nth a 0),(12,nth a 1),(13,nth a 2),(134,nth a 4),(135,nth a 5),(136,nth a 6),(214,b),(215,c),(216,n0)] d (λa b c=>pIdx
 a 10 (pIdx 10 10 (qB .add (b 136) (n6 1) λa=>Q .normal (frOf (kq b [1,134,135] [(136,a)])) c) (pIdx 10 9 (qB .add (b 136) (n6 1) λa=>Q .normal (frOf (kq b [1,134,135]
 [(136,a)])) c) (Q (.exit 10) (frOf [(1,b 1)]) c))) False) λa b=>Q .ret (frOf [(2,a 2)]) b)) ())) (Q (.exit 8) (frOf [(1,s1)]) h)):WP P_ 324 z4g
 (frOf [(1,s1),(134,s134),(135,s135),(136,s136)]) h Q:=z0x z1f [8] [1,134,135,136] [1] [2] z07 (by kernel_rfl) (Eq.mpr (by kernel_rfl) H)
theorem zbk (H:qC .lss s216 s215 (qY 3 s214 s216 h λa=>qA 123 [n0,n0,n0] h λb c=>qT 3 b a c λa=>qB .neq s216 s12 λc=>qU c true 5
 a (λc=>qH 0 b a λb d=>qH 0 s13 a λe f=>qE d f λg=>c [b,d,e,f,g] a) λa d=>qP c (nth a 4) bF λa=>qU a true 6 d (λa=>qH 2 b d λb c=>qH 1 s13
 d λe f=>qB .lss c f λg=>a [b,c,e,f,g,g] d) λc d=>qU (nth c 5) false 5 d (λa=>qH 2 s13 d λc e=>qH 1 b d λb f=>qB .lss e f λg=>a [c,e,b,f,g] d)
 λb d=>qU a true 2 d (λa=>qP (nth c 5) bT (nth b 4) λb=>qN b λc=>a [b,c] d) λb c=>z7n [s1,s12,s13,s134,s135,s136,s214,s215,s216,a,nth b 1] (later
 (λa=>qP (nth a 9) (nth a 10) bF λb=>qI b (Q .ret (frOf [(2,bF)]) c) (qB .add (nth a 8) (n6 1) λb=>Q .normal (frOf [(1,nth a 0),(12,nth a 1),(13,nth a 2),(134,nth
 a 3),(135,nth a 4),(136,nth a 5),(214,nth a 6),(215,nth a 7),(216,b)]) c)) ())) (Q (.exit 10) (frOf [(1,s1),(134,s134),(135,s135),(136,s136)]) h)):WP P_ 324 z4h
 (frOf [(1,s1),(12,s12),(13,s13),(134,s134),(135,s135),(136,s136),(214,s214),(215,s215),(216,s216)]) h Q:=z0x z1f [10,9,8] [1,12,13,134,135,136,214,215,216]
 [1,134,135,136] [2] z07 (by kernel_rfl) (Eq.mpr (by kernel_rfl) H)
theorem zbl (H:qC .lss s251 s250 (qY 3 s249 s251 h λa=>qA 151 [n0,n0,n0] h λb c=>qT 3 b a c λa=>q1 (qG 0 b a λc=>qG 2 s1 a λd=>qn
 d λd=>qS P_ 76 [c,d] a λa c=>q2 (qN a λa=>qV a false 1 c (λa=>qF 1 b λb=>a [b] c) λc d=>qV a false 1 d (λa=>qL (nth c 0) d λb=>a [b] d) fun
 c d=>qV a false 1 d (λa=>qF 2 s1 λb=>a [b] d) λd e=>qV a false 1 e (λa=>qL (nth d 0) e λb=>a [b] e) λd e=>qV a false 1 e (λa=>qF 0 b λb=>a
 [b] e) λe f=>qV a false 1 f (λa=>qL (nth e 0) f λb=>a [b] f) λe f=>qV a false 1 f (λa=>qX 3 (nth d 0) (nth e 0) λb=>a [b] f) λd e=>qV a false
 1 e (λa=>qF 1 (nth d 0) λb=>a [b] e) λd e=>qV a false 1 e (λa=>qL (nth d 0) e λb=>a [b] e) λd e=>qV a false 1 e (λa=>qn (nth d 0) λb=>a [b]
 e) λd e=>qV a false 1 e (λa=>qS P_ 76 [nth c 0,nth d 0] e λb c=>a [b] c) λc d=>q2 (qV a false 1 d (λa=>qN (nth c 0) λb=>a [b] d) λc d=>qP a bT
 (nth c 0) λa=>qI a (Q .ret (frOf [(2,bF)]) d) (qQ (λa=>q1 (qH 2 s1 d λc e=>qH 0 b d λf g=>qX 3 e g λi=>qH 1 i d λi j=>qH 1 b d λb k=>qX 8 j k
 λl=>qK 8 l d λm=>qA 56 [n0,n0,n0,n0,n0,n0,.nils,.nils] d λd n=>(q4 8 l m n/\q3 b k n/\q3 i j n/\q3 f g n/\q3 c e n)/\qT 8 d m n λb=>q2 (a (frOf [(1,s1),(17,s251),(19,d),(249,s249),(250,s250),(251,s251)])
 b))) λa b=>qG 4 (a 19) b λc=>qB .neq c (a 17) λc=>qU c false 4 b (λc=>qH 0 (a 19) b λa d=>qB .neq d (n6 8) λe=>c [a,d,e,e] b) λb d=>qU (nth b
 3) true 3 d (λb=>qH 0 (a 19) d λa c=>qB .neq c (n6 9) λe=>b [a,c,e] d) λd e=>qU c false 1 e (λa=>qP (nth b 3) (nth d 2) bF λb=>a [b] e) λb d=>qP
 c bT (nth b 0) λb=>qI b (Q .ret (frOf [(2,bF)]) d) (qB .add (a 251) (n6 1) λb=>Q .normal (frOf (kq a [1,249,250] [(251,b)])) d)))))) (Q (.exit 12) (frOf [(1,s1)])
 h)):WP P_ 324 z4i (frOf [(1,s1),(249,s249),(250,s250),(251,s251)]) h Q:=z0x z1f [12] [1,249,250,251] [1] [2] z07 (by kernel_rfl)
 (Eq.mpr (by kernel_rfl) H)
theorem zbm (H:qC .lss s306 s305 (qY 3 s304 s306 h λa=>qA 70 [.nils,.nils,n0] h λb c=>qT 3 b a c λa=>qG 1 b a λb=>qn b λb=>qw
 P_ 324 z4k [(1,s1),(20,s306),(304,s304),(305,s305),(306,s306),(313,b),(314,n0)] a (λa b c=>pIdx a 16 (pIdx 16 16 (qB .add (b 306) (n6 1) fun
 a=>Q .normal (frOf (kq b [1,304,305] [(306,a)])) c) (pIdx 16 15 (qB .add (b 306) (n6 1) λa=>Q .normal (frOf (kq b [1,304,305] [(306,a)])) c) (Q (.exit 16) (frOf
 []) c))) False) λa b=>Q .ret (frOf [(2,a 2)]) b) (Q (.exit 14) (frOf []) h)):WP P_ 324 z4j (frOf [(1,s1),(304,s304),(305,s305),(306,s306)])
 h Q:=z0x z1f [14] [1,304,305,306] [] [2] z07 (by kernel_rfl) (Eq.mpr (by kernel_rfl) H)
theorem zbn (H:qC .lss s314 s313 (qK 5 s1 h λa=>qS P_ 77 [a,s20,s314] h λa b=>qN a λa=>qI a (Q .ret (frOf [(2,bF)]) b) (qB .add s314
 (n6 1) λa=>Q .normal (frOf [(1,s1),(20,s20),(304,s304),(305,s305),(306,s306),(313,s313),(314,a)]) b)) (Q (.exit 16) (frOf [(1,s1),(304,s304),(305,s305),(306,s306)])
 h)):WP P_ 324 z4k (frOf [(1,s1),(20,s20),(304,s304),(305,s305),(306,s306),(313,s313),(314,s314)]) h Q:=z0x z1f [16,15,14]
 [1,20,304,305,306,313,314] [1,304,305,306] [2] z07 (by kernel_rfl) (Eq.mpr (by kernel_rfl) H)
end
end
section
open Go.Abs
section
variable (a0 a1 a2 a3 a4 s0 s1 s2 s3 s4 s5 s6 s7 s8 s9 s10 s11 s12 s13 s14 s15 s16 s17 s18 s19 s20 s21 s22 s23 s24 s25 s26 s27 s28 s29 s30 s31 s32 s33 s34 s36 s37 s38 s39 s40 s41 s42 s43 s44 s46 s47 s50 s51 s52 s53 s54 s59 s60 s61 s69 s70 s71 s78 s79 s100 s101 s102 s108 s109 s110 s187 s188 s189:AV) (h:z00) (R:AV->z00->Prop) (Q:z1p->Fr->z00->Prop)
def zet:=mkG [7] [] [] []
theorem zed (H:qD .slice .eql a0 .nils λa=>qI a (R .nils h) ((0=0->([]:List (Nat×Operand))=[])/\z0j false ⟨3,1,8⟩ [n0] 0 [] h (later (fun
 a b=>q1 (q7 true ⟨3,1,8⟩ a a0 b λa b=>R a b)) ()))):z01 P_ 29 [a0] h R:=cI zet z07 Tryz.func29 Tryz.ntmps29 Tryz.call29 (by kernel_rfl)
 (by kernel_rfl) H
def zh1:=mkG [7,10,12,16,17,20,22,27,39,43] [] [] []
theorem zfo (H:q8 [(0,1),(1,1),(2,1)] [n0,n0,nU 0] [(0,n6 1),(2,nU 1)] λa=>(1=0->[(0,Operand.tmp 6)]=[])/\z0j true ⟨67,3,24⟩ [n0,n0,nU 0]
 1 [(0,a)] h (later (λa b=>q8 [(0,1),(1,1),(2,1),(3,1),(4,1),(5,1),(6,1),(7,1)] [n0,n0,n0,n0,n0,n0,.nils,.nils] [(0,n6 11),(6,a)] λa=>q8 [(0,1),(1,1),(2,1),(3,1),(4,1),(5,1),(6,1),(7,1)]
 [n0,n0,n0,n0,n0,n0,.nils,.nils] [(0,n6 17)] λc=>(2=0->[(0,Operand.tmp 8),(1,Operand.tmp 9)]=[])/\z0j true ⟨56,8,96⟩ [n0,n0,n0,n0,n0,n0,.nils,.nils] 2 [(0,a),(1,c)]
 b (later (λa b=>q8 [(0,1),(1,1),(2,1)] [.nils,.nils,n0] [(2,n6 9),(1,a)] λa=>(1=0->[(0,Operand.tmp 11)]=[])/\z0j true ⟨70,3,56⟩ [.nils,.nils,n0] 1 [(0,a)]
 b (later (λa b=>q8 [(0,1),(1,1),(2,1),(3,1),(4,1)] [.nils,.nils,.nils,.nils,.nils] [(2,a)] λa=>q8 [(0,5),(5,1),(6,1),(7,1)] [.nils,.nils,.nils,.nils,.nils,.nils,.nils,n0]
 [(0,a)] λa=>qA 32 [.nils,.nils,.nils,.nils,.nils,.nils,.nils,n0] b λb c=>qT 8 b a c λa=>qK 8 b a λb=>qS P_ 9 [b,n0,.nils] a λa b=>qS P_ 7 [n0] b fun
 b c=>qS P_ 14 [a,b] c λb c=>qS P_ 26 [a] c λc d=>qE b n0 λb=>qU b true 3 d (λa=>qn c λb=>qE b (n6 1) λe=>a [c,b,e] d) λd e=>qP b (nth d 2) bF
 λb=>qU b true 5 e (λa=>qX 3 c n0 λb=>qH 2 b e λd f=>qE f (nU 1) λg=>a [c,b,d,f,g] e) λc d=>qP b (nth c 4) bF λb=>qU b true 2 d (λb=>qS P_
 20 [a] d λc d=>b [a,c] d) λc d=>qP b (nth c 1) bF λb=>qU b true 3 d (λb=>qS P_ 11 [a] d λc d=>qE c (n6 1) λe=>b [a,c,e] d) λa c=>qP b (nth a
 2) bF λa=>R a c) ())) ())) ())):z01 P_ 5 [] h R:=cI zh1 z07 Tryz.func5 Tryz.ntmps5 Tryz.call5 (by kernel_rfl) (by kernel_rfl) H
def z6u:=mkG [1,9,13,19,24,30,33,41,47] [(4,[23,24,25]),(9,[23,24,25,32,33,34])] [] []
noncomputable def z5q:=lpOf 4 Tryz.f27
noncomputable def z5r:=lpOf 9 Tryz.f27
theorem zg7 (H:qM true 32 a0 h λa b=>qF 0 a λc=>qK 5 c b λc=>qS P_ 44 [c] b λb c=>qU b false 4 c (λb=>qH 5 a c λa d=>qn d fun
 e=>qB .gtr e (n6 100) λf=>b [a,d,e,f] c) λc d=>qP b bT (nth c 3) λb=>qU b false 4 d (λb=>qH 6 a d λa c=>qn c λe=>qB .gtr e (n6 100) λf=>b [a,c,e,f]
 d) λc d=>qP b bT (nth c 3) λb=>qI b (R bT d) (qG 6 a d λa=>qn a λb=>qw P_ 52 z5q [(23,a),(24,b),(25,n0)] d (λa _ b=>q5 a (R bF b))
 λa b=>R (a 2) b)):z01 P_ 27 [a0] h R:=cI z6u z07 Tryz.func27 Tryz.ntmps27 Tryz.call27 (by kernel_rfl) (by kernel_rfl) H
theorem zdd (H:qC .lss s25 s24 (qZ 1 s23 s25 h λa=>qn a λb=>qC .gtr b (n6 300) (Q .ret (frOf [(2,bT)]) h) (qn a λb=>qw P_ 52 z5r
 [(23,s23),(24,s24),(25,s25),(32,a),(33,b),(34,n0)] h (λa b c=>pIdx a 2 (pIdx 2 2 (qB .add (b 25) (n6 1) λa=>Q .normal (frOf (kq b [23,24] [(25,a)])) c) (pIdx
 2 1 (qB .add (b 25) (n6 1) λa=>Q .normal (frOf (kq b [23,24] [(25,a)])) c) (Q (.exit 2) (frOf []) c))) False) λa b=>Q .ret (frOf [(2,a 2)]) b)) (Q (.exit 0)
 (frOf []) h)):WP P_ 52 z5q (frOf [(23,s23),(24,s24),(25,s25)]) h Q:=z0x z6u [0] [23,24,25] [] [2] z07 (by kernel_rfl) (Eq.mpr
 (by kernel_rfl) H)
theorem zde (H:qC .lss s34 s33 (qY 12 s32 s34 h λa=>qA 109 [n0,bF,n0,.nils,n0,bF,n0,bF,n0,.nils,n0,n0] h λb c=>qT 12 b a c λa=>qF 1
 b λc=>qG 2 c a λc=>qn c λc=>qB .gtr c (n6 20) λc=>qU c false 5 a (λc=>qF 7 b λb=>qH 2 b a λd e=>qn e λf=>qB .gtr f (n6 20) λg=>c [b,d,e,f,g]
 a) λa b=>qP c bT (nth a 4) λa=>qI a (Q .ret (frOf [(2,bT)]) b) (qB .add s34 (n6 1) λa=>Q .normal (frOf [(23,s23),(24,s24),(25,s25),(32,s32),(33,s33),(34,a)])
 b)) (Q (.exit 2) (frOf [(23,s23),(24,s24),(25,s25)]) h)):WP P_ 52 z5r (frOf [(23,s23),(24,s24),(25,s25),(32,s32),(33,s33),(34,s34)]) h Q:=z0x
 z6u [2,1,0] [23,24,25,32,33,34] [23,24,25] [2] z07 (by kernel_rfl) (Eq.mpr (by kernel_rfl) H)
def zjr:=mkG [] [] [] []
theorem zaj (H:qB .geq a1 n0 λa=>qU a true 2 h (λa=>qB .lss a1 (n6 64) λb=>a [a1,b] h) λb c=>qP a (nth b 1) bF λa=>qU a true 6 c (fun
 a=>z1o (.int .u64) a1 c (later (λb=>qB .shr a0 b λd=>qB .rem d (nU 2) λe=>qE e (nU 1) λf=>a [a0,a1,b,d,e,f] c) ())) λb c=>qP a (nth b 5) bF λa=>R
 a c):z01 P_ 84 [a0,a1] h R:=cI zjr z07 Tryz.func84 Tryz.ntmps84 Tryz.call84 (by kernel_rfl) (by kernel_rfl) H
def z6s:=mkG [5,19,22,24,30,37,41] [(3,[0,2,3,23,24,25]),(6,[0,2,3,23,24,25,29,30,31])] [] []
noncomputable def z5m:=lpOf 3 Tryz.f78
noncomputable def z5n:=lpOf 6 Tryz.f78
theorem zg1 (H:qM true 128 a1 h λa b=>q1 (qG 1 a b λc=>qH 0 a b λd e=>qH 2 a b λa f=>(1=0->[(0,Operand.tmp 15)]=[])/\z0j false ⟨44,1,24⟩
 [.nils] 1 [(0,c)] b (later (λb c=>(q3 a f c/\q3 d e c)/\q1 (q7 true ⟨44,1,24⟩ b e c λb c=>q3 a f c/\q1 (q7 true ⟨44,1,24⟩ b f c λa b=>q2 (qn a λc=>qw P_
 55 z5m [(0,a0),(2,a2),(3,a3),(23,a),(24,c),(25,n0)] b (λa _ b=>q5 a (R bF b)) λa b=>R (a 8) b)))) ()))):z01 P_ 78 [a0,a1,a2,a3] h R:=cI
 z6s z07 Tryz.func78 Tryz.ntmps78 Tryz.call78 (by kernel_rfl) (by kernel_rfl) H
theorem zd5 (H:qC .lss s25 s24 (qZ 1 s23 s25 h λa=>qn a λb=>qw P_ 55 z5n [(0,s0),(2,s2),(3,s3),(23,s23),(24,s24),(25,s25),(29,a),(30,b),(31,n0)]
 h (λa b c=>pIdx a 2 (pIdx 2 2 (qB .add (b 25) (n6 1) λa=>Q .normal (frOf (kq b [0,2,3,23,24] [(25,a)])) c) (pIdx 2 1 (qB .add (b 25) (n6 1) λa=>Q .normal
 (frOf (kq b [0,2,3,23,24] [(25,a)])) c) (Q (.exit 2) (frOf []) c))) False) λa b=>Q .ret (frOf [(8,a 8)]) b) (Q (.exit 0) (frOf []) h)):WP P_ 55 z5m
 (frOf [(0,s0),(2,s2),(3,s3),(23,s23),(24,s24),(25,s25)]) h Q:=z0x z6s [0] [0,2,3,23,24,25] [] [8] z07 (by kernel_rfl) (Eq.mpr (by kernel_rfl)
 H)
theorem zd6 (H:qC .lss s31 s30 (qZ 1 s29 s31 h λa=>qS P_ 84 [a,s2] h λb c=>qU b true 3 c (λb=>qS P_ 84 [a,s3] c λc d=>b [a,s3,c]
 d) λa c=>qP b (nth a 2) bF λa=>qU a true 3 c (λa=>qB .lss s2 s0 λb=>a [s2,s0,b] c) λb c=>qP a (nth b 2) bF λa=>qU a true 3 c (λa=>qB .lss s3
 s0 λb=>a [s3,s0,b] c) λb c=>qP a (nth b 2) bF λa=>qI a (Q .ret (frOf [(8,bT)]) c) (qB .add s31 (n6 1) λa=>Q .normal (frOf [(0,s0),(2,s2),(3,s3),(23,s23),(24,s24),(25,s25),(29,s29),(30,s30),(31,a)])
 c)) (Q (.exit 2) (frOf [(0,s0),(2,s2),(3,s3),(23,s23),(24,s24),(25,s25)]) h)):WP P_ 55 z5n (frOf [(0,s0),(2,s2),(3,s3),(23,s23),(24,s24),(25,s25),(29,s29),(30,s30),(31,s31)])
 h Q:=z0x z6s [2,1,0] [0,2,3,23,24,25,29,30,31] [0,2,3,23,24,25] [8] z07 (by kernel_rfl) (Eq.mpr (by kernel_rfl) H)
def z2a:=mkG [3,18,69] [(4,[0,3,5,6,7]),(8,[0,3,5,6,8]),(14,[0,3,5,6,8,9]),(17,[0,3,5,6,8,9,10]),(20,[0,3,5,6,8,9,10,11])] [] []
noncomputable def z8f:=lpOf 4 Tryz.f57
noncomputable def z8g:=lpOf 8 Tryz.f57
noncomputable def z4r:=lpOf 14 Tryz.f57
noncomputable def z4s:=lpOf 17 Tryz.f57
noncomputable def z4t:=lpOf 20 Tryz.f57
theorem zg2 (H:qM true 128 a1 h λa b=>qw P_ 76 z8f [(0,a0),(3,a),(5,.nils),(6,n0),(7,n0)] b (λa b c=>q5 a (qw P_ 76 z8g
 (kq b [0,3,5,6] [(8,n0)]) c (λa b c=>pIdx a 2 (pIdx 2 2 (R (b 5) c) False) False) λa b=>R (a 4) b)) λa b=>R (a 4) b):z01 P_ 57 [a0,a1] h R:=cI z2a
 z07 Tryz.func57 Tryz.ntmps57 Tryz.call57 (by kernel_rfl) (by kernel_rfl) H
theorem zd7 (H:qC .lss s7 s0 ((1=0->[(0,Operand.const (Value.int .i64 0))]=[])/\z0j true ⟨3,1,8⟩ [n0] 1 [(0,n0)] h (later (λa b=>q1 (q7
 false ⟨3,1,8⟩ s5 a b λa b=>qB .add s7 (n6 1) λc=>Q .normal (frOf [(0,s0),(3,s3),(5,a),(6,s6),(7,c)]) b)) ())) (Q (.exit 0) (frOf [(0,s0),(3,s3),(5,s5),(6,s6)])
 h)):WP P_ 76 z8f (frOf [(0,s0),(3,s3),(5,s5),(6,s6),(7,s7)]) h Q:=z0x z2a [0] [0,3,5,6,7] [0,3,5,6] [4] z07 (by kernel_rfl)
 (Eq.mpr (by kernel_rfl) H)
theorem z7p (H:qC .lss s8 s0 (qZ 1 s5 s8 h λa=>qC .neq a n0 (pIdx 3 3 (qB .add s8 (n6 1) λa=>Q .normal (frOf [(0,s0),(3,s3),(5,s5),(6,s6),(8,a)])
 h) (Q (.exit 3) (frOf [(5,s5)]) h)) (qB .add s6 (n6 1) λa=>qX 1 s5 s8 λb=>qT 1 b a h λb=>qw P_ 76 z4r [(0,s0),(3,s3),(5,s5),(6,a),(8,s8),(9,n0)]
 b (λa b c=>pIdx a 4 (pIdx 4 4 (qB .add (b 8) (n6 1) λa=>Q .normal (frOf (kq b [0,3,5,6] [(8,a)])) c) (pIdx 4 3 (qB .add (b 8) (n6 1) λa=>Q .normal (frOf
 (kq b [0,3,5,6] [(8,a)])) c) (Q (.exit 4) (frOf [(5,b 5)]) c))) False) λa b=>Q .ret (frOf [(4,a 4)]) b)) (Q (.exit 2) (frOf [(5,s5)]) h)):WP P_ 76 z8g
 (frOf [(0,s0),(3,s3),(5,s5),(6,s6),(8,s8)]) h Q:=z0x z2a [2] [0,3,5,6,8] [5] [4] z07 (by kernel_rfl) (Eq.mpr (by kernel_rfl) H)
theorem zbx (H:qC .lss s9 s0 (qw P_ 76 z4s [(0,s0),(3,s3),(5,s5),(6,s6),(8,s8),(9,s9),(10,n0)] h (λa b c=>pIdx a 6 (pIdx
 6 6 (qB .add (b 9) (n6 1) λa=>Q .normal (frOf (kq b [0,3,5,6,8] [(9,a)])) c) (pIdx 6 5 (qB .add (b 9) (n6 1) λa=>Q .normal (frOf (kq b [0,3,5,6,8] [(9,a)]))
 c) (Q (.exit 6) (frOf (kq b [0,3,5,6,8] [])) c))) False) λa b=>Q .ret (frOf [(4,a 4)]) b) (Q (.exit 4) (frOf [(0,s0),(3,s3),(5,s5),(6,s6),(8,s8)]) h)):WP P_ 76
 z4r (frOf [(0,s0),(3,s3),(5,s5),(6,s6),(8,s8),(9,s9)]) h Q:=z0x z2a [4,3,2] [0,3,5,6,8,9] [0,3,5,6,8] [4] z07 (by kernel_rfl)
 (Eq.mpr (by kernel_rfl) H)
theorem zby (H:qC .lss s10 s0 (qw P_ 76 z4t [(0,s0),(3,s3),(5,s5),(6,s6),(8,s8),(9,s9),(10,s10),(11,n0)] h (λa b c=>pIdx
 a 8 (pIdx 8 8 (qB .add (b 10) (n6 1) λa=>Q .normal (frOf (kq b [0,3,5,6,8,9] [(10,a)])) c) (pIdx 8 7 (qB .add (b 10) (n6 1) λa=>Q .normal (frOf (kq b [0,3,5,6,8,9]
 [(10,a)])) c) (Q (.exit 8) (frOf (kq b [0,3,5,6,8,9] [])) c))) False) λa b=>Q .ret (frOf [(4,a 4)]) b) (Q (.exit 6) (frOf [(0,s0),(3,s3),(5,s5),(6,s6),(8,s8),(9,s9)])
 h)):WP P_ 76 z4s (frOf [(0,s0),(3,s3),(5,s5),(6,s6),(8,s8),(9,s9),(10,s10)]) h Q:=z0x z2a [6,5,4,3,2] [0,3,5,6,8,9,10] [0,3,5,6,8,9]
 [4] z07 (by kernel_rfl) (Eq.mpr (by kernel_rfl) H)
theorem zbz (H:qC .lss s11 s0 (qZ 1 s5 s10 h λa=>qE a s6 λa=>qU a true 5 h (λa=>qX 1 s5 s11 λb=>qL b h λc=>qE c n0 λd=>a [s5,s11,b,c,d]
 h) λb c=>qP a (nth b 4) bF λa=>qU a true 5 c (λa=>qK 3 s3 c λb=>qS P_ 78 [s0,b,s10,s11] c λc d=>a [s0,b,s10,s11,c] d) λb c=>qP a (nth b 4) bF fun
 a=>qI a (qX 1 s5 s11 λa=>qT 1 a s6 c λa=>qB .add s11 (n6 1) λb=>Q .normal (frOf [(0,s0),(3,s3),(5,s5),(6,s6),(8,s8),(9,s9),(10,s10),(11,b)]) a) (qB .add
 s11 (n6 1) λa=>Q .normal (frOf [(0,s0),(3,s3),(5,s5),(6,s6),(8,s8),(9,s9),(10,s10),(11,a)]) c)) (Q (.exit 8) (frOf [(0,s0),(3,s3),(5,s5),(6,s6),(8,s8),(9,s9),(10,s10)])
 h)):WP P_ 76 z4t (frOf [(0,s0),(3,s3),(5,s5),(6,s6),(8,s8),(9,s9),(10,s10),(11,s11)]) h Q:=z0x z2a [8,7,6,5,4,3,2] [0,3,5,6,8,9,10,11]
 [0,3,5,6,8,9,10] [4] z07 (by kernel_rfl) (Eq.mpr (by kernel_rfl) H)
def z6r:=mkG [1,10,15,24,26,27,32,42,43,53,55,56] [(3,[1,2,3,14,15,16]),(8,[1,2,3,31,32,33])] [] []
noncomputable def z5h:=lpOf 3 Tryz.f79
noncomputable def z5i:=lpOf 8 Tryz.f79
theorem zfw (H:qM true 28 a0 h λa b=>qA 128 [.nils,.nils,.nils] b λb c=>qG 1 a c λd=>qn d λd=>q6 ⟨65,1,8⟩ [nU 0] d d c λc d=>q8 [(0,1),(1,1),(2,1)]
 [.nils,.nils,.nils] [(1,c)] λc=>qA 128 [.nils,.nils,.nils] d λd e=>qT 3 d c e λc=>qG 2 a c λe=>qn e λf=>qw P_ 60 z5h [(1,a),(2,b),(3,d),(14,e),(15,f),(16,n0)]
 c (λa b c=>q5 a (qG 3 (b 1) c λa=>qn a λd=>qw P_ 60 z5i (kq b [1,2,3] [(31,a),(32,d),(33,n0)]) c (λa b c=>pIdx a 2 (pIdx 2 2 (qK 3
 (b 3) c λa=>qT 3 (b 2) a c λa=>qK 3 (b 2) a λb=>R b a) False) False) λa b=>qK 3 (a 2) b λa=>R a b)) λa b=>qK 3 (a 2) b λa=>R a b):z01 P_ 79
 [a0] h R:=cI z6r z07 Tryz.func79 Tryz.ntmps79 Tryz.call79 (by kernel_rfl) (by kernel_rfl) H
theorem zcz (H:qC .lss s16 s15 (qY 3 s14 s16 h λa=>qA 70 [.nils,.nils,n0] h λb c=>qT 3 b a c λa=>q1 (qH 0 s3 a λc d=>qG 0 b a fun
 b=>qn b λb=>q6 ⟨65,1,8⟩ [nU 0] b b a λa b=>q3 c d b/\(1=0->[(0,Operand.tmp 25)]=[])/\z0j true ⟨44,1,24⟩ [.nils] 1 [(0,a)] b (later (λa b=>q1 (q7 true ⟨44,1,24⟩
 d a b λa b=>q2 (qF 0 s3 λc=>qT 1 c a b λa=>q2 (qB .add s16 (n6 1) λb=>Q .normal (frOf [(1,s1),(2,s2),(3,s3),(14,s14),(15,s15),(16,b)]) a)))) ()))) (Q
 (.exit 0) (frOf [(1,s1),(2,s2),(3,s3)]) h)):WP P_ 60 z5h (frOf [(1,s1),(2,s2),(3,s3),(14,s14),(15,s15),(16,s16)]) h Q:=z0x z6r
 [0] [1,2,3,14,15,16] [1,2,3] [2] z07 (by kernel_rfl) (Eq.mpr (by kernel_rfl) H)
theorem zd0 (H:qC .lss s33 s32 (qY 3 s31 s33 h λa=>qA 151 [n0,n0,n0] h λb c=>qT 3 b a c λa=>qG 2 b a λc=>qC .lss c n0 (qG 2 s3 a
 λb=>(1=0->[(0,Operand.const (Value.slice none 0 0))]=[])/\z0j true ⟨44,1,24⟩ [.nils] 1 [(0,.nils)] a (later (λa c=>q1 (q7 true ⟨44,1,24⟩ b a c λa b=>qF
 2 s3 λc=>qT 1 c a b λa=>qB .add s33 (n6 1) λb=>Q .normal (frOf [(1,s1),(2,s2),(3,s3),(31,s31),(32,s32),(33,b)]) a)) ())) (q1 (qH 2 s3 a λc d=>qG 0 s1
 a λe=>qG 2 b a λb=>qZ 1 e b a λb=>qn b λb=>q6 ⟨65,1,8⟩ [nU 0] b b a λa b=>q3 c d b/\(1=0->[(0,Operand.tmp 54)]=[])/\z0j true ⟨44,1,24⟩ [.nils] 1
 [(0,a)] b (later (λa b=>q1 (q7 true ⟨44,1,24⟩ d a b λa b=>q2 (qF 2 s3 λc=>qT 1 c a b λa=>q2 (qB .add s33 (n6 1) λb=>Q .normal (frOf [(1,s1),(2,s2),(3,s3),(31,s31),(32,s32),(33,b)])
 a)))) ())))) (Q (.exit 2) (frOf [(2,s2),(3,s3)]) h)):WP P_ 60 z5i (frOf [(1,s1),(2,s2),(3,s3),(31,s31),(32,s32),(33,s33)]) h Q:=z0x z6r
 [2] [1,2,3,31,32,33] [2,3] [2] z07 (by kernel_rfl) (Eq.mpr (by kernel_rfl) H)
def zh8:=mkG [1] [] [] []
theorem zfy (H:qM true 147 a0 h λa b=>qG 0 a b λc=>qE c (n6 3) λc=>qU c false 3 b (λc=>qH 0 a b λa d=>qE d (n6 4) λe=>c [a,d,e]
 b) λa b=>qP c bT (nth a 2) λa=>R a b):z01 P_ 98 [a0] h R:=cI zh8 z07 Tryz.func98 Tryz.ntmps98 Tryz.call98 (by kernel_rfl) (by kernel_rfl)
 H
def zjq:=mkG [3,5,25] [(7,[1,3,5,9])] [7] []
theorem zix (H:qM true 28 a0 h λa b=>qM true 56 a2 b λb c=>qG 0 b c λd=>qQ (λe=>qE d (n6 1) λf=>qI f (e (frOf [(1,a1),(3,a),(5,b),(9,f)])
 c) (qE d (n6 2) λf=>qI f (e (frOf [(1,a1),(3,a),(5,b),(9,f)]) c) (qE d (n6 3) λf=>qI f (e (frOf [(1,a1),(3,a),(5,b),(9,f)]) c) (qE d (n6 8) λf=>qI f (e (frOf
 [(1,a1),(3,a),(5,b),(9,f)]) c) (qE d (n6 9) λd=>e (frOf [(1,a1),(3,a),(5,b),(9,d)]) c))))) λa b=>qI (a 9) (q1 (qG 2 (a 3) b λc=>qX 3 c (a 1) λc=>qG 0
 c b λc=>qG 1 (a 5) b λa=>qY 3 c a b λa=>qS P_ 98 [a] b λa b=>q2 (R a b))) (R bF b)):z01 P_ 96 [a0,a1,a2] h R:=cI zjq z07 Tryz.func96
 Tryz.ntmps96 Tryz.call96 (by kernel_rfl) (by kernel_rfl) H
def z9p:=mkG [3,11] [(3,[1,3,7,10,11,12])] [] []
noncomputable def z8e:=lpOf 3 Tryz.f99
theorem zfx (H:qM true 128 a0 h λa b=>qn a2 λc=>qw P_ 32 z8e [(1,a1),(3,a),(7,nU 0),(10,a2),(11,c),(12,n0)] b (λa b
 c=>q5 a (R (b 7) c)) λa b=>R (a 6) b):z01 P_ 99 [a0,a1,a2] h R:=cI z9p z07 Tryz.func99 Tryz.ntmps99 Tryz.call99 (by kernel_rfl) (by kernel_rfl)
 H
theorem zd1 (H:qC .lss s12 s11 (qY 3 s10 s12 h λa=>qA 67 [n0,n0,nU 0] h λb c=>qT 3 b a c λa=>qG 0 b a λc=>qC .eql c (n6 2) (q1 (qH
 0 s3 a λc d=>qX 1 d s1 λe=>qL e a λf=>qH 2 b a λb g=>qX 1 f g λi=>qL i a λj=>(q3 i j a/\q3 b g a/\q3 e f a/\q3 c d a)/\qB .or s7 j λb=>q2 (qB .add
 s12 (n6 1) λc=>Q .normal (frOf [(1,s1),(3,s3),(7,b),(10,s10),(11,s11),(12,c)]) a))) (qB .add s12 (n6 1) λb=>Q .normal (frOf [(1,s1),(3,s3),(7,s7),(10,s10),(11,s11),(12,b)])
 a)) (Q (.exit 0) (frOf [(7,s7)]) h)):WP P_ 32 z8e (frOf [(1,s1),(3,s3),(7,s7),(10,s10),(11,s11),(12,s12)]) h Q:=z0x z9p [0]
 [1,3,7,10,11,12] [7] [6] z07 (by kernel_rfl) (Eq.mpr (by kernel_rfl) H)
def z95:=mkG [4,5,7,19,39,53,62] [(12,[2,5,7,9,39,40])] [] []
noncomputable def z2l:=lpOf 12 Tryz.f97
theorem zez (H:qM true 28 a0 h λa b=>qM true 128 a1 b λb c=>qM true 56 a3 c λc d=>qG 0 c d λe=>qC .eql e (n6 1) (qK 3 b d λa=>qG
 6 c d λb=>qS P_ 99 [a,a2,b] d λa b=>R a b) (qC .eql e (n6 2) (qG 1 b d λa=>qG 4 c d λb=>qZ 1 a b d λa=>R a d) (qE e (n6 8) λf=>qI f (qI f (qG 4
 c d λa=>z1o (.int .u64) a d (later (λa=>qB .shl (nU 1) a λa=>R a d) ())) (qC .eql e (n6 3) (qG 3 a d λa=>qn a λa=>qw P_ 78 z2l
 [(2,a2),(5,b),(7,c),(9,nU 0),(39,a),(40,n0)] d (λa b c=>pIdx a 1 (pIdx 1 1 (R (b 9) c) (pIdx 1 0 (R (b 9) c) False)) False) λa b=>R (a 8) b) (R (nU 0) d)))
 (qC .eql e (n6 9) (qG 4 c d λa=>z1o (.int .u64) a d (later (λa=>qB .shl (nU 1) a λa=>R a d) ())) (qC .eql e (n6 3) (qG 3 a d λa=>qn a λa=>qw P_ 78
 z2l [(2,a2),(5,b),(7,c),(9,nU 0),(39,a),(40,n0)] d (λa b c=>pIdx a 1 (pIdx 1 1 (R (b 9) c) (pIdx 1 0 (R (b 9) c) False)) False) λa b=>R
 (a 8) b) (R (nU 0) d)))))):z01 P_ 97 [a0,a1,a2,a3] h R:=cI z95 z07 Tryz.func97 Tryz.ntmps97 Tryz.call97 (by kernel_rfl) (by kernel_rfl) H
theorem zaw (H:qC .lss s40 s39 (q1 (qG 0 s5 h λa=>qZ 1 a s2 h λa=>qG 2 s7 h λb=>qZ 1 a b h λa=>qS P_ 84 [a,s40] h λa b=>q2 (qV
 a true 1 b (λa=>qF 4 s7 λc=>a [c] b) λb c=>qV a true 1 c (λa=>qL (nth b 0) c λb=>a [b] c) λb c=>qV a true 1 c (λa=>qF 2 s5 λb=>a [b] c) fun
 c d=>qV a true 1 d (λa=>qL (nth c 0) d λb=>a [b] d) λc d=>qV a true 1 d (λa=>a [s40] d) λd e=>qV a true 1 e (λa=>qX 1 (nth c 0) (nth d 0) λb=>a
 [b] e) λc d=>qV a true 1 d (λa=>qL (nth c 0) d λb=>a [b] d) λc d=>qV a true 1 d (λa=>qn (nth c 0) λb=>a [b] d) λc d=>qV a true 1 d (λa=>qB
 .lss (nth b 0) (nth c 0) λb=>a [b] d) λb c=>qP a (nth b 0) bF λa=>qI a (q1 (qH 2 s5 c λa b=>qX 1 b s40 λd=>qL d c λe=>qH 4 s7 c λf g=>qX 1 e
 g λi=>qL i c λj=>(q3 i j c/\q3 f g c/\q3 d e c/\q3 a b c)/\qB .or s9 j λa=>q2 (qB .add s40 (n6 1) λb=>Q .normal (frOf [(2,s2),(5,s5),(7,s7),(9,a),(39,s39),(40,b)])
 c))) (qB .add s40 (n6 1) λa=>Q .normal (frOf [(2,s2),(5,s5),(7,s7),(9,s9),(39,s39),(40,a)]) c)))) (Q (.exit 1) (frOf [(9,s9)]) h)):WP P_ 78 z2l
 (frOf [(2,s2),(5,s5),(7,s7),(9,s9),(39,s39),(40,s40)]) h Q:=z0x z95 [1,0] [2,5,7,9,39,40] [9] [8] z07 (by kernel_rfl) (Eq.mpr (by kernel_rfl)
 H)
def z1m:=mkG [2,3,18,21,37,46,69,78,101,109,117,138,151,167,184,188,204,232] [(3,[2,3,4,5,21,22]),(8,[2,3,4,5,37,38]),(11,[2,3,4,5,7,37,38,46,47]),(17,[2,3,4,5,69,70]),(20,[2,3,4,5,9,69,70,78,79]),(26,[2,3,4,5,100,101,102]),(29,[2,3,4,5,11,100,101,102,108,109,110]),(33,[2,3,4,5,11,14,100,101,102,108,109,110]),(37,[2,3,4,5,11,14,100,101,102,108,109,110,187,188,189])]
 [33] []
noncomputable def z5j:=lpOf 3 Tryz.f80
noncomputable def z5k:=lpOf 8 Tryz.f80
noncomputable def z4m:=lpOf 11 Tryz.f80
noncomputable def z4n:=lpOf 17 Tryz.f80
noncomputable def z4o:=lpOf 20 Tryz.f80
noncomputable def z4p:=lpOf 26 Tryz.f80
noncomputable def z4q:=lpOf 29 Tryz.f80
noncomputable def z2t:=lpOf 37 Tryz.f80
theorem zfz (H:qM true 28 a0 h λa b=>qM true 128 a1 b λb c=>qA 128 [.nils,.nils,.nils] c λc d=>qK 5 a d λe=>qS P_ 79 [e] d λd e=>qA
 128 [.nils,.nils,.nils] e λe f=>qT 3 e d f λd=>qG 1 b d λf=>qn f λf=>qw P_ 239 z5j [(2,a),(3,b),(4,c),(5,e),(21,f),(22,n0)] d (fun
 a b c=>q5 a (qG 0 (b 3) c λa=>qn a λa=>qw P_ 239 z5k (kq b [2,3,4,5] [(37,a),(38,n0)]) c (λa b c=>pIdx a 2 (pIdx 2 2 (qG 2 (b 3) c fun
 a=>qn a λa=>qw P_ 239 z4n (kq b [2,3,4,5] [(69,a),(70,n0)]) c (λa b c=>pIdx a 6 (pIdx 6 6 (qG 2 (b 2) c λa=>qn a λd=>qw P_ 239 z4p
 (kq b [2,3,4,5] [(100,a),(101,d),(102,n0)]) c (λa b c=>pIdx a 10 (pIdx 10 10 (qK 3 (b 5) c λa=>qT 3 (b 4) a c λa=>qK 3 (b 4) a λb=>R b a) False) False)
 λa b=>qK 3 (a 4) b λa=>R a b) False) False) λa b=>qK 3 (a 4) b λa=>R a b) False) False) λa b=>qK 3 (a 4) b λa=>R a b)) λa b=>qK 3 (a 4) b fun
 a=>R a b):z01 P_ 80 [a0,a1] h R:=cI z1m z07 Tryz.func80 Tryz.ntmps80 Tryz.call80 (by kernel_rfl) (by kernel_rfl) H
theorem zd2 (H:qC .lss s22 s21 (q1 (qG 1 s5 h λa=>qG 1 s3 h λb=>qZ 1 b s22 h λb=>qX 1 a s22 λa=>qT 1 a b h λa=>q2 (qB .add s22
 (n6 1) λb=>Q .normal (frOf [(2,s2),(3,s3),(4,s4),(5,s5),(21,s21),(22,b)]) a))) (Q (.exit 0) (frOf [(2,s2),(3,s3),(4,s4),(5,s5)]) h)):WP P_ 239 z5j
 (frOf [(2,s2),(3,s3),(4,s4),(5,s5),(21,s21),(22,s22)]) h Q:=z0x z1m [0] [2,3,4,5,21,22] [2,3,4,5] [4] z07 (by kernel_rfl) (Eq.mpr (by kernel_rfl)
 H)
theorem zd3 (H:qC .lss s38 s37 (qG 0 s3 h λa=>qZ 1 a s38 h λa=>qn a λa=>qw P_ 239 z4m [(2,s2),(3,s3),(4,s4),(5,s5),(7,s38),(37,s37),(38,s38),(46,a),(47,n0)]
 h (λa b c=>pIdx a 4 (pIdx 4 4 (qB .add (b 38) (n6 1) λa=>Q .normal (frOf (kq b [2,3,4,5,37] [(38,a)])) c) (pIdx 4 3 (qB .add (b 38) (n6 1) λa=>Q .normal
 (frOf (kq b [2,3,4,5,37] [(38,a)])) c) (Q (.exit 4) (frOf (kq b [2,3,4,5] [])) c))) False) λa b=>Q .ret (frOf [(4,a 4)]) b) (Q (.exit 2) (frOf [(2,s2),(3,s3),(4,s4),(5,s5)])
 h)):WP P_ 239 z5k (frOf [(2,s2),(3,s3),(4,s4),(5,s5),(37,s37),(38,s38)]) h Q:=z0x z1m [2] [2,3,4,5,37,38] [2,3,4,5] [4] z07
 (by kernel_rfl) (Eq.mpr (by kernel_rfl) H)
theorem zbr (H:qC .lss s47 s46 (q1 (qG 0 s5 h λa=>qZ 1 a s7 h λa=>qG 0 s3 h λb=>qZ 1 b s7 h λb=>qZ 1 b s47 h λb=>qX 1 a s47 fun
 a=>qT 1 a b h λa=>q2 (qB .add s47 (n6 1) λb=>Q .normal (frOf [(2,s2),(3,s3),(4,s4),(5,s5),(7,s7),(37,s37),(38,s38),(46,s46),(47,b)]) a))) (Q (.exit 4) (frOf
 [(2,s2),(3,s3),(4,s4),(5,s5),(37,s37),(38,s38)]) h)):WP P_ 239 z4m (frOf [(2,s2),(3,s3),(4,s4),(5,s5),(7,s7),(37,s37),(38,s38),(46,s46),(47,s47)])
 h Q:=z0x z1m [4,3,2] [2,3,4,5,7,37,38,46,47] [2,3,4,5,37,38] [4] z07 (by kernel_rfl) (Eq.mpr (by kernel_rfl) H)
theorem zbs (H:qC .lss s70 s69 (qG 2 s3 h λa=>qZ 1 a s70 h λa=>qn a λa=>qw P_ 239 z4o [(2,s2),(3,s3),(4,s4),(5,s5),(9,s70),(69,s69),(70,s70),(78,a),(79,n0)]
 h (λa b c=>pIdx a 8 (pIdx 8 8 (qB .add (b 70) (n6 1) λa=>Q .normal (frOf (kq b [2,3,4,5,69] [(70,a)])) c) (pIdx 8 7 (qB .add (b 70) (n6 1) λa=>Q .normal
 (frOf (kq b [2,3,4,5,69] [(70,a)])) c) (Q (.exit 8) (frOf (kq b [2,3,4,5] [])) c))) False) λa b=>Q .ret (frOf [(4,a 4)]) b) (Q (.exit 6) (frOf [(2,s2),(3,s3),(4,s4),(5,s5)])
 h)):WP P_ 239 z4n (frOf [(2,s2),(3,s3),(4,s4),(5,s5),(69,s69),(70,s70)]) h Q:=z0x z1m [6] [2,3,4,5,69,70] [2,3,4,5] [4] z07
 (by kernel_rfl) (Eq.mpr (by kernel_rfl) H)
theorem zbt (H:qC .lss s79 s78 (q1 (qG 2 s5 h λa=>qZ 1 a s9 h λa=>qG 2 s3 h λb=>qZ 1 b s9 h λb=>qZ 1 b s79 h λb=>qX 1 a s79 fun
 a=>qT 1 a b h λa=>q2 (qB .add s79 (n6 1) λb=>Q .normal (frOf [(2,s2),(3,s3),(4,s4),(5,s5),(9,s9),(69,s69),(70,s70),(78,s78),(79,b)]) a))) (Q (.exit 8) (frOf
 [(2,s2),(3,s3),(4,s4),(5,s5),(69,s69),(70,s70)]) h)):WP P_ 239 z4o (frOf [(2,s2),(3,s3),(4,s4),(5,s5),(9,s9),(69,s69),(70,s70),(78,s78),(79,s79)])
 h Q:=z0x z1m [8,7,6] [2,3,4,5,9,69,70,78,79] [2,3,4,5,69,70] [4] z07 (by kernel_rfl) (Eq.mpr (by kernel_rfl) H)
theorem zbu (H:qC .lss s102 s101 (qY 3 s100 s102 h λa=>qA 70 [.nils,.nils,n0] h λb c=>qT 3 b a c λa=>qG 1 b a λb=>qn b λc=>qw
 P_ 239 z4q [(2,s2),(3,s3),(4,s4),(5,s5),(11,s102),(100,s100),(101,s101),(102,s102),(108,b),(109,c),(110,n0)] a (λa b c=>pIdx a 12 (pIdx 12
 12 (qB .add (b 102) (n6 1) λa=>Q .normal (frOf (kq b [2,3,4,5,100,101] [(102,a)])) c) (pIdx 12 11 (qB .add (b 102) (n6 1) λa=>Q .normal (frOf (kq b [2,3,4,5,100,101]
 [(102,a)])) c) (Q (.exit 12) (frOf (kq b [4,5] [])) c))) False) λa b=>Q .ret (frOf [(4,a 4)]) b) (Q (.exit 10) (frOf [(4,s4),(5,s5)]) h)):WP P_ 239 z4p
 (frOf [(2,s2),(3,s3),(4,s4),(5,s5),(100,s100),(101,s101),(102,s102)]) h Q:=z0x z1m [10] [2,3,4,5,100,101,102] [4,5] [4] z07 (by kernel_rfl)
 (Eq.mpr (by kernel_rfl) H)
theorem zbv (H:qC .lss s110 s109 (qY 8 s108 s110 h λa=>qA 56 [n0,n0,n0,n0,n0,n0,.nils,.nils] h λb c=>qT 8 b a c λa=>qQ (λc=>qK 5
 s2 a λd=>qK 8 b a λe=>qS P_ 96 [d,s11,e] a λa d=>qI a (q1 (qH 0 s5 d λa e=>qX 1 e s11 λf=>qL f d λg=>qH 1 b d λi j=>qH 0 s5 d λk l=>qX 1 l
 s11 λm=>qL m d λn=>qH 1 b d λo p=>qX 1 n p λq=>qL q d λs=>qK 5 s2 d λt=>qK 3 s3 d λu=>qK 8 b d λv=>qS P_ 97 [t,u,s11,v] d λd t=>(q3 q s
 t/\q3 o p t/\q3 m n t/\q3 k l t/\q3 i j t/\q3 f g t/\q3 a e t)/\qB .or s d λa=>qX 1 g j λd=>qT 1 d a t λa=>q2 (c (frOf [(2,s2),(3,s3),(4,s4),(5,s5),(11,s11),(14,b),(100,s100),(101,s101),(102,s102),(108,s108),(109,s109),(110,s110)])
 a))) (c (frOf [(2,s2),(3,s3),(4,s4),(5,s5),(11,s11),(14,b),(100,s100),(101,s101),(102,s102),(108,s108),(109,s109),(110,s110)]) d)) λa b=>qG 0 (a 14) b λc=>qE
 c (n6 5) λc=>qU c true 7 b (λc=>qH 1 (a 2) b λd e=>qH 4 (a 14) b λa f=>qX 3 e f λg=>qK 3 g b λi=>qS P_ 98 [i] b λb j=>c [d,e,a,f,g,i,b] j) fun
 b d=>qP c (nth b 6) bF λb=>qI b (q1 (qH 1 (a 5) d λb c=>qH 4 (a 14) d λe f=>qH 1 (a 5) d λg i=>qH 4 (a 14) d λj k=>qX 1 i k λl=>qL l d λm=>qK
 3 (a 3) d λn=>qG 6 (a 14) d λo=>qS P_ 99 [n,a 11,o] d λd n=>(q3 l m n/\q3 j k n/\q3 g i n/\q3 e f n/\q3 b c n)/\qB .or m d λb=>qX 1 c f λc=>qT 1 c b n fun
 b=>q2 (q1 (qG 0 (a 14) b λc=>qE c (n6 6) λc=>qV c true 1 b (λc=>qF 0 (a 2) λa=>c [a] b) λb d=>qV c true 1 d (λa=>qL (nth b 0) d λb=>a [b] d)
 λb d=>qV c true 1 d (λb=>qF 3 (a 14) λa=>b [a] d) λd e=>qV c true 1 e (λa=>qL (nth d 0) e λb=>a [b] e) λd e=>qV c true 1 e (λa=>qX 1 (nth
 b 0) (nth d 0) λb=>a [b] e) λb d=>qV c true 1 d (λa=>qL (nth b 0) d λb=>a [b] d) λb d=>qV c true 1 d (λb=>qF 4 (a 14) λa=>b [a] d) λd e=>qV
 c true 1 e (λa=>qL (nth d 0) e λb=>a [b] e) λd e=>qV c true 1 e (λa=>qX 3 (nth b 0) (nth d 0) λb=>a [b] e) λb d=>qV c true 1 d (λa=>qK 3 (nth
 b 0) d λb=>a [b] d) λb d=>qV c true 1 d (λa=>qS P_ 98 [nth b 0] d λb c=>a [b] c) λb d=>q2 (qP c (nth b 0) bF λb=>qI b (qG 3 (a 2) d λb=>qn b
 λc=>qw P_ 239 z2t (kq a [2,3,4,5,11,14,100,101,102,108,109,110] [(187,b),(188,c),(189,n0)]) d (λa b c=>pIdx a 14 (pIdx 14 14 (qB .add (b
 110) (n6 1) λa=>Q .normal (frOf (kq b [2,3,4,5,11,100,101,102,108,109] [(110,a)])) c) (pIdx 14 13 (qB .add (b 110) (n6 1) λa=>Q .normal (frOf (kq b [2,3,4,5,11,100,101,102,108,109]
 [(110,a)])) c) (Q (.exit 14) (frOf (kq b [2,3,4,5,100,101,102] [])) c))) False) λa b=>Q .ret (frOf [(4,a 4)]) b) (qB .add (a 110) (n6 1) λb=>Q .normal (frOf
 (kq a [2,3,4,5,11,100,101,102,108,109] [(110,b)])) d)))))) (q1 (qG 0 (a 14) d λb=>qE b (n6 6) λb=>qV b true 1 d (λb=>qF 0 (a 2) λa=>b [a] d) λc d=>qV
 b true 1 d (λa=>qL (nth c 0) d λb=>a [b] d) λc d=>qV b true 1 d (λb=>qF 3 (a 14) λa=>b [a] d) λd e=>qV b true 1 e (λa=>qL (nth d 0) e λb=>a
 [b] e) λd e=>qV b true 1 e (λa=>qX 1 (nth c 0) (nth d 0) λb=>a [b] e) λc d=>qV b true 1 d (λa=>qL (nth c 0) d λb=>a [b] d) λc d=>qV b true 1
 d (λb=>qF 4 (a 14) λa=>b [a] d) λd e=>qV b true 1 e (λa=>qL (nth d 0) e λb=>a [b] e) λd e=>qV b true 1 e (λa=>qX 3 (nth c 0) (nth d 0) λb=>a
 [b] e) λc d=>qV b true 1 d (λa=>qK 3 (nth c 0) d λb=>a [b] d) λc d=>qV b true 1 d (λa=>qS P_ 98 [nth c 0] d λb c=>a [b] c) λc d=>q2 (qP b (nth
 c 0) bF λb=>qI b (qG 3 (a 2) d λb=>qn b λc=>qw P_ 239 z2t (kq a [2,3,4,5,11,14,100,101,102,108,109,110] [(187,b),(188,c),(189,n0)]) d
 (λa b c=>pIdx a 14 (pIdx 14 14 (qB .add (b 110) (n6 1) λa=>Q .normal (frOf (kq b [2,3,4,5,11,100,101,102,108,109] [(110,a)])) c) (pIdx 14 13 (qB .add (b 110)
 (n6 1) λa=>Q .normal (frOf (kq b [2,3,4,5,11,100,101,102,108,109] [(110,a)])) c) (Q (.exit 14) (frOf (kq b [2,3,4,5,100,101,102] [])) c))) False) λa b=>Q .ret
 (frOf [(4,a 4)]) b) (qB .add (a 110) (n6 1) λb=>Q .normal (frOf (kq a [2,3,4,5,11,100,101,102,108,109] [(110,b)])) d))))) (Q (.exit 12) (frOf [(2,s2),(3,s3),(4,s4),(5,s5),(100,s100),(101,s101),(102,s102)])
 h)):WP P_ 239 z4q (frOf [(2,s2),(3,s3),(4,s4),(5,s5),(11,s11),(100,s100),(101,s101),(102,s102),(108,s108),(109,s109),(110,s110)]) h Q:=z0x
 z1m [12,11,10] [2,3,4,5,11,100,101,102,108,109,110] [2,3,4,5,100,101,102] [4] z07 (by kernel_rfl) (Eq.mpr (by kernel_rfl) H)
theorem zbw (H:qC .lss s189 s188 (qY 3 s187 s189 h λa=>qA 151 [n0,n0,n0] h λb c=>qT 3 b a c λa=>q1 (qG 0 s3 a λc=>qZ 1 c s11 a fun
 c=>qG 2 s14 a λd=>qZ 1 c d a λc=>qS P_ 84 [c,s189] a λa c=>q2 (qV a true 1 c (λa=>qF 2 b λb=>a [b] c) λb c=>qV a true 1 c (λa=>qL (nth b 0) c
 λb=>a [b] c) λb c=>qV a true 1 c (λa=>qF 3 s14 λb=>a [b] c) λc d=>qV a true 1 d (λa=>qL (nth c 0) d λb=>a [b] d) λc d=>qV a true 1 d (fun
 a=>qE (nth b 0) (nth c 0) λb=>a [b] d) λb c=>qP a (nth b 0) bF λa=>qI a (q1 (qH 2 s5 c λa b=>qX 1 b s189 λd=>qL d c λe=>qH 4 s14 c λf g=>qH 2
 s5 c λi j=>qX 1 j s189 λk=>qL k c λl=>qH 4 s14 c λm n=>qX 1 l n λo=>qL o c λp=>qK 3 s3 c λq=>qG 6 s14 c λs=>qS P_ 99 [q,s11,s] c λc q=>(q3
 o p q/\q3 m n q/\q3 k l q/\q3 i j q/\q3 f g q/\q3 d e q/\q3 a b q)/\qB .or p c λa=>qX 1 e g λb=>qT 1 b a q λa=>q2 (qB .add s189 (n6 1) λb=>Q .normal (frOf [(2,s2),(3,s3),(4,s4),(5,s5),(11,s11),(14,s14),(100,s100),(101,s101),(102,s102),(108,s108),(109,s109),(110,s110),(187,s187),(188,s188),(189,b)])
 a))) (qB .add s189 (n6 1) λa=>Q .normal (frOf [(2,s2),(3,s3),(4,s4),(5,s5),(11,s11),(14,s14),(100,s100),(101,s101),(102,s102),(108,s108),(109,s109),(110,s110),(187,s187),(188,s188),(189,a)])
 c)))) (Q (.exit 14) (frOf [(2,s2),(3,s3),(4,s4),(5,s5),(11,s11),(100,s100),(101,s101),(102,s102),(108,s108),(109,s109),(110,s110)]) h)):WP P_ 239 z2t
 (frOf [(2,s2),(3,s3),(4,s4),(5,s5),(11,s11),(14,s14),(100,s100),(101,s101),(102,s102),(108,s108),(109,s109),(110,s110),(187,s187),(188,s188),(189,s189)]) h Q:=z0x
 z1m [14,13,12,11,10] [2,3,4,5,11,14,100,101,102,108,109,110,187,188,189] [2,3,4,5,11,100,101,102,108,109,110] [4] z07 (by kernel_rfl) (Eq.mpr
 (by kernel_rfl) H)
def z7f:=mkG [1,10,14,18,24,27,34,36,37,39,43,50,52,53,55] [(4,[1,3,26,27,28]),(9,[3,42,43,44])] [] []
noncomputable def z8w:=lpOf 4 Tryz.f100
noncomputable def z8x:=lpOf 9 Tryz.f100
theorem zho (H:qM true 128 a0 h λa b=>qG 0 a b λc=>qn c λc=>z1o (.int .u64) c b (later (λc=>qG 1 a b λd=>qn d λd=>z1o (.int
 .u64) d b (later (λd=>qG 2 a b λe=>qn e λe=>z1o (.int .u64) e b (later (λe=>(3=0->[(0,Operand.tmp 11),(1,Operand.tmp 15),(2,Operand.tmp 19)]=[])/\z0j
 false ⟨65,1,8⟩ [nU 0] 3 [(0,c),(1,d),(2,e)] b (later (λb c=>qG 1 a c λd=>q1 (q7 true ⟨65,1,8⟩ b d c λb c=>qG 0 a c λd=>qn d λe=>qw P_ 58 z8w
 [(1,a),(3,b),(26,d),(27,e),(28,n0)] c (λa b c=>q5 a (qG 2 (b 1) c λa=>qn a λd=>qw P_ 58 z8x [(3,b 3),(42,a),(43,d),(44,n0)] c (λa b
 c=>pIdx a 2 (pIdx 2 2 (R (b 3) c) False) False) λa b=>R (a 2) b)) λa b=>R (a 2) b)) ())) ())) ())) ())):z01 P_ 100 [a0] h R:=cI z7f z07
 Tryz.func100 Tryz.ntmps100 Tryz.call100 (by kernel_rfl) (by kernel_rfl) H
theorem ze5 (H:qC .lss s28 s27 (qZ 1 s26 s28 h λa=>qn a λb=>z1o (.int .u64) b h (later (λb=>(1=0->[(0,Operand.tmp 35)]=[])/\z0j
 true ⟨65,1,8⟩ [nU 0] 1 [(0,b)] h (later (λb c=>q1 (q7 true ⟨65,1,8⟩ s3 b c λb c=>q1 (q7 true ⟨65,1,8⟩ b a c λa b=>qB .add s28 (n6 1) λc=>Q .normal (frOf
 [(1,s1),(3,a),(26,s26),(27,s27),(28,c)]) b))) ())) ())) (Q (.exit 0) (frOf [(1,s1),(3,s3)]) h)):WP P_ 58 z8w (frOf [(1,s1),(3,s3),(26,s26),(27,s27),(28,s28)])
 h Q:=z0x z7f [0] [1,3,26,27,28] [1,3] [2] z07 (by kernel_rfl) (Eq.mpr (by kernel_rfl) H)
theorem ze6 (H:qC .lss s44 s43 (qZ 1 s42 s44 h λa=>qn a λb=>z1o (.int .u64) b h (later (λb=>(1=0->[(0,Operand.tmp 51)]=[])/\z0j
 true ⟨65,1,8⟩ [nU 0] 1 [(0,b)] h (later (λb c=>q1 (q7 true ⟨65,1,8⟩ s3 b c λb c=>q1 (q7 true ⟨65,1,8⟩ b a c λa b=>qB .add s44 (n6 1) λc=>Q .normal (frOf
 [(3,a),(42,s42),(43,s43),(44,c)]) b))) ())) ())) (Q (.exit 2) (frOf [(3,s3)]) h)):WP P_ 58 z8x (frOf [(3,s3),(42,s42),(43,s43),(44,s44)]) h Q:=z0x
 z7f [2] [3,42,43,44] [3] [2] z07 (by kernel_rfl) (Eq.mpr (by kernel_rfl) H)
def za7:=mkG [2,3,9,11,13,15,18] [(5,[5,6,18,19])] [] []
noncomputable def z8y:=lpOf 5 Tryz.f81
theorem zhp (H:qM true 128 a0 h λa b=>qM true 128 a1 b λb c=>q1 (qK 3 a c λa=>qK 3 b c λd=>qS P_ 100 [a] c λa c=>q4 3 b d c/\qS P_
 100 [d] c λb c=>q2 (qn a λd=>qn b λe=>qC .neq d e (R bF c) (qn a λd=>qw P_ 32 z8y [(5,a),(6,b),(18,d),(19,n0)] c (λa _ b=>q5 a (R
 bT b)) λa b=>R (a 4) b)))):z01 P_ 81 [a0,a1] h R:=cI za7 z07 Tryz.func81 Tryz.ntmps81 Tryz.call81 (by kernel_rfl) (by kernel_rfl) H
theorem ze7 (H:qC .lss s19 s18 (q1 (qZ 1 s5 s19 h λa=>qZ 1 s6 s19 h λb=>qC .neq a b (Q .ret (frOf [(4,bF)]) h) (qB .add s19 (n6 1) λa=>Q
 .normal (frOf [(5,s5),(6,s6),(18,s18),(19,a)]) h))) (Q (.exit 0) (frOf []) h)):WP P_ 32 z8y (frOf [(5,s5),(6,s6),(18,s18),(19,s19)]) h Q:=z0x
 za7 [0] [5,6,18,19] [] [4] z07 (by kernel_rfl) (Eq.mpr (by kernel_rfl) H)
def z9q:=mkG [1,6,10,13,16] [(4,[1,2,3])] [] []
noncomputable def z5l:=lpOf 4 Tryz.f58
theorem zg0 (H:qM true 28 a0 h λa b=>qA 128 [.nils,.nils,.nils] b λb c=>qK 5 a c λd=>qS P_ 56 [d] c λc d=>qN c λc=>qI c (q8 [(0,1),(1,1),(2,1)]
 [.nils,.nils,.nils] [] λa=>qT 3 b a d λa=>qK 3 b a λb=>R b a) (qK 5 a d λc=>qS P_ 79 [c] d λc d=>qA 128 [.nils,.nils,.nils] d λd e=>qT 3 d c e fun
 c=>qw P_ 19 z5l [(1,a),(2,b),(3,d)] c (λ_ _ _=>False) λa b=>qK 3 (a 2) b λa=>R a b)):z01 P_ 58 [a0] h R:=cI z9q z07
 Tryz.func58 Tryz.ntmps58 Tryz.call58 (by kernel_rfl) (by kernel_rfl) H
theorem zd4 (H:qK 5 s1 h λa=>qK 3 s3 h λb=>qS P_ 80 [a,b] h λa b=>qA 128 [.nils,.nils,.nils] b λb c=>qT 3 b a c λa=>qK 3 s3 a
 λc=>qK 3 b a λd=>qS P_ 81 [c,d] a λa c=>qI a (qK 3 s3 c λa=>qT 3 s2 a c λa=>Q .ret (frOf [(2,s2)]) a) (qK 3 b c λa=>qT 3 s3 a c λa=>Q .normal
 (frOf [(1,s1),(2,s2),(3,s3)]) a)):WP P_ 19 z5l (frOf [(1,s1),(2,s2),(3,s3)]) h Q:=z0x z9q [0] [1,2,3] [2] [2] z07 (by kernel_rfl)
 (Eq.mpr (by kernel_rfl) H)
def zih:=mkG [2] [] [] []
theorem zhq (H:qM true 28 a0 h λa b=>qG 4 a b λc=>qY 3 c a1 b λc=>qA 123 [n0,n0,n0] b λb d=>qT 3 b c d λc=>q1 (qG 2 a c λa=>qG
 0 b c λd=>qX 3 a d λa=>qG 1 a c λa=>qG 1 b c λd=>qG 2 b c λb=>qB .add b (n6 1) λb=>qs 8 a (some d) (some b) λa=>R a c)):z01 P_ 83 [a0,a1]
 h R:=cI zih z07 Tryz.func83 Tryz.ntmps83 Tryz.call83 (by kernel_rfl) (by kernel_rfl) H
def zjs:=mkG [1] [(9,[1,5])] [9] []
theorem ziy (H:qM true 56 a0 h λa b=>qG 0 a b λc=>qQ (λd=>qE c (n6 1) λe=>qI e (d (frOf [(1,a),(5,e)]) b) (qE c (n6 2) λe=>qI e (d
 (frOf [(1,a),(5,e)]) b) (qE c (n6 3) λe=>qI e (d (frOf [(1,a),(5,e)]) b) (qE c (n6 4) λe=>qI e (d (frOf [(1,a),(5,e)]) b) (qE c (n6 8) λe=>qI e (d (frOf
 [(1,a),(5,e)]) b) (qE c (n6 9) λe=>qI e (d (frOf [(1,a),(5,e)]) b) (qE c (n6 10) λc=>d (frOf [(1,a),(5,c)]) b))))))) λa b=>qI (a 5) (qG 1 (a 1) b λa=>R
 a b) (R (n6 (-1)) b)):z01 P_ 111 [a0] h R:=cI zjs z07 Tryz.func111 Tryz.ntmps111 Tryz.call111 (by kernel_rfl) (by kernel_rfl) H
def z96:=mkG [10] [(2,[1,2,9,10,11])] [] [(4,[(12,[1,2,8,9,10,11,28,36,40])])]
noncomputable def z4u:=lpOf 2 Tryz.f112
theorem zf0 (H:qn a0 λa=>qw P_ 50 z4u [(1,a1),(2,a2),(9,a0),(10,a),(11,n0)] h (λa _ b=>q5 a (R bF b)) λa b=>R (a 6)
 b):z01 P_ 112 [a0,a1,a2] h R:=cI z96 z07 Tryz.func112 Tryz.ntmps112 Tryz.call112 (by kernel_rfl) (by kernel_rfl) H
theorem zc0 (H:qC .lss s11 s10 (qY 8 s9 s11 h λa=>qA 56 [n0,n0,n0,n0,n0,n0,.nils,.nils] h λb c=>qT 8 b a c λa=>qB .lss s1 n0 λc=>qU
 c true 3 a (λc=>qH 0 b a λb d=>qE d (n6 5) λe=>c [b,d,e] a) λa d=>qP c (nth a 2) bF λa=>qU a true 4 d (λa=>qH 4 b d λb c=>qE c s2 λe=>a [b,c,s2,e]
 d) λc d=>qP a (nth c 3) bF λa=>qU a false 3 d (λa=>qB .geq s1 n0 λb=>a [s1,b,b] d) λc d=>qU (nth c 2) true 3 d (λa=>qH 0 b d λb c=>qE c (n6 6)
 λe=>a [b,c,e] d) λd e=>qU a false 2 e (λa=>qP (nth c 2) (nth d 2) bF λb=>a [b,b] e) λc d=>qU (nth c 1) true 4 d (λa=>qH 3 b d λb c=>qE c s1 fun
 e=>a [b,c,s1,e] d) λd e=>z7n [s1,s2,b,s9,s10,s11,a,nth c 1,nth d 3] (later (λa=>qU (nth a 6) false 2 e (λb=>qP (nth a 7) (nth a 8) bF λa=>b [a,a] e)
 λb c=>qU (nth b 1) true 4 c (λb=>qH 4 (nth a 2) c λd e=>qE e (nth a 1) λf=>b [d,e,nth a 1,f] c) λc d=>qU (nth a 6) false 1 d (λa=>qP (nth b 1) (nth
 c 3) bF λb=>a [b] d) λb c=>qP (nth a 6) bT (nth b 0) λb=>qI b (Q .ret (frOf [(6,bT)]) c) (qB .add (nth a 5) (n6 1) λb=>Q .normal (frOf [(1,nth a 0),(2,nth
 a 1),(9,nth a 3),(10,nth a 4),(11,b)]) c)) ())) (Q (.exit 0) (frOf []) h)):WP P_ 50 z4u (frOf [(1,s1),(2,s2),(9,s9),(10,s10),(11,s11)]) h Q:=z0x
 z96 [0] [1,2,9,10,11] [] [6] z07 (by kernel_rfl) (Eq.mpr (by kernel_rfl) H)
def zcl:=mkG [4,17,19,25,30,31,34,40,78,98,104,118,126,135,142,145,146] [(4,[1,2,3,4,8,9,10,18,19,20]),(17,[1,3,4,8,9,13,69,70])] [17] []
noncomputable def z7d:=lpOf 4 Tryz.f101
def z9d (R:AV->z00->Prop) (fr':Fr) (v160:AV) (v186:AV) (h187:z00) (v190:AV) (v191:AV) (v192:AV):Prop :=(1=0->[(0,Operand.tmp
 144)]=[])/\z0j true ⟨3,1,8⟩ [n0] 1 [(0,v192)] h187 (later (λa b=>q1 (q7 true ⟨3,1,8⟩ v186 v190 b λb c=>q3 v191 v192 c/\q1 (q7 true ⟨3,1,8⟩ b a c λa b=>q2
 (qF 1 v160 λc=>qF 2 c λc=>qT 1 c a b λa=>q2 (qK 4 v160 a λb=>qT 4 (fr' 8) b a λa=>qK 4 (fr' 8) a λb=>R b a))))) ())
def z2k (R:AV->z00->Prop) (fr12:Fr) (h91:z00) (v92:AV):Prop :=qI v92 (q8 [(0,1),(1,3)] [n0,bF,n0,.nils] [] λa=>qT 4 (fr12 8)
 a h91 λa=>qK 4 (fr12 8) a λb=>R b a) (qY 8 (fr12 10) n0 h91 λa=>qA 56 [n0,n0,n0,n0,n0,n0,.nils,.nils] h91 λb c=>qT 8 b a c λa=>qG 0 b a λc=>qQ (fun
 d=>qE c (n6 8) λe=>qI e (d (frOf (kq fr12 [1,3,4,8,9] [(13,b),(69,c),(70,e)])) a) (qE c (n6 9) λe=>d (frOf (kq fr12 [1,3,4,8,9] [(13,b),(69,c),(70,e)])) a))
 λa b=>qI (a 70) (q8 [(0,1),(1,3)] [n0,bF,n0,.nils] [(0,n6 1)] λc=>qT 4 (a 8) c b λb=>qK 4 (a 8) b λa=>R a b) (qC .eql (a 69) (n6 1) (qG 6 (a 13) b fun
 c=>qn c λc=>qE c (n6 1) λc=>qU c true 6 b (λc=>qH 6 (a 13) b λa d=>qX 3 d n0 λe=>qH 0 e b λf g=>qE g (n6 2) λi=>c [a,d,e,f,g,i] b) λb d=>qP
 c (nth b 5) bF λb=>qI b (q1 (qK 5 (a 4) d λb=>qG 6 (a 13) d λc=>qX 3 c n0 λc=>qG 2 c d λc=>z1o (.int .i64) c d (later (λc=>qB .sub (a 3) (n6 1)
 λe=>qS P_ 101 [b,a 1,c,e] d λb c=>q2 (qT 4 (a 8) b c λb=>q2 (qK 4 (a 8) b λa=>R a b))) ()))) (q8 [(0,1),(1,3)] [n0,bF,n0,.nils] [] λb=>qT 4 (a 8) b
 d λb=>qK 4 (a 8) b λa=>R a b)) (qC .eql (a 69) (n6 2) (qG 4 (a 13) b λc=>qS P_ 112 [a 9,n6 (-1),c] b λb c=>qN b λb=>qI b (qG 4 (a 13) c λb=>q8 [(0,1),(1,1),(2,1)]
 [bF,n0,.nils] [(0,bT),(1,b)] λb=>q8 [(0,1),(1,3)] [n0,bF,n0,.nils] [(0,n6 2),(1,b)] λb=>qT 4 (a 8) b c λb=>qK 4 (a 8) b λa=>R a b) (q8 [(0,1),(1,3)] [n0,bF,n0,.nils]
 [] λb=>qT 4 (a 8) b c λb=>qK 4 (a 8) b λa=>R a b)) (qC .eql (a 69) (n6 3) (qK 5 (a 4) b λc=>qG 2 (a 13) b λd=>qB .sub (a 3) (n6 1) λe=>qS P_ 101
 [c,a 1,d,e] b λb c=>qA 160 [n0,bF,n0,.nils] c λc d=>qT 4 c b d λb=>qG 0 c b λd=>qE d (n6 2) λd=>qU d true 5 b (λa=>qF 1 c λc=>qH 2 c b λd
 e=>qn e λf=>qB .leq f (n6 2) λg=>a [c,d,e,f,g] b) λb e=>qP d (nth b 4) bF λb=>qU b true 7 e (λb=>qH 3 (a 13) e λc d=>qH 4 (a 13) e λf g=>qS P_
 112 [a 9,d,g] e λe i=>qN e λj=>b [a 9,c,d,f,g,e,j] i) λd e=>qP b (nth d 6) bF λb=>qI b (q1 ((0=0->([]:List (Nat×Operand))=[])/\z0j false ⟨3,1,8⟩
 [n0] 0 [] e (later (λb d=>qF 1 c λe=>qG 2 e d λe=>qH 4 (a 13) d λf g=>z9d R a c b d e f g) ()))) (q8 [(0,1),(1,3)] [n0,bF,n0,.nils]
 [] λb=>qT 4 (a 8) b e λb=>qK 4 (a 8) b λa=>R a b)) (q8 [(0,1),(1,3)] [n0,bF,n0,.nils] [] λc=>qT 4 (a 8) c b λb=>qK 4 (a 8) b λa=>R a b)))))
theorem zkl (H:qM true 28 a0 h λa b=>qA 160 [n0,bF,n0,.nils] b λb c=>qK 5 a c λd=>qS P_ 83 [d,a1] c λc d=>qn c λe=>qw P_ 151 z7d
 [(1,a1),(2,a2),(3,a3),(4,a),(8,b),(9,c),(10,.nils),(18,c),(19,e),(20,n0)] d (λa b c=>q5 a (qn (b 10) λa=>qC .eql a n0 (q8 [(0,1),(1,1),(2,1)] [bF,n0,.nils]
 [(1,b 2)] λa=>q8 [(0,1),(1,3)] [n0,bF,n0,.nils] [(0,n6 2),(1,a)] λa=>qT 4 (b 8) a c λa=>qK 4 (b 8) a λb=>R b a) (q1 (qn (b 10) λa=>qB .gtr a (n6 1)
 λa=>qV a false 1 c (λa=>a [b 3] c) λc d=>qV a false 1 d (λa=>qE (nth c 0) n0 λb=>a [b] d) λc d=>qP a bT (nth c 0) λa=>qV a false 1 d (λa=>qF
 2 (b 4) λb=>a [b] d) λc d=>qV a false 1 d (λa=>qL (nth c 0) d λb=>a [b] d) λc d=>qV a false 1 d (λa=>qF 4 (b 4) λb=>a [b] d) λd e=>qV a false
 1 e (λa=>qL (nth d 0) e λb=>a [b] e) λd e=>qV a false 1 e (λa=>a [b 1] e) λe f=>qV a false 1 f (λa=>qX 3 (nth d 0) (nth e 0) λb=>a [b] f) fun
 d e=>qV a false 1 e (λa=>qF 0 (nth d 0) λb=>a [b] e) λd e=>qV a false 1 e (λa=>qL (nth d 0) e λb=>a [b] e) λd e=>qV a false 1 e (λa=>qX 3 (nth
 c 0) (nth d 0) λb=>a [b] e) λc d=>qV a false 1 d (λa=>qF 0 (nth c 0) λb=>a [b] d) λc d=>qV a false 1 d (λa=>qL (nth c 0) d λb=>a [b] d) λc
 d=>qV a false 1 d (λa=>a [b 2] d) λd e=>qV a false 1 e (λa=>qX 3 (nth c 0) (nth d 0) λb=>a [b] e) λc d=>qV a false 1 d (λa=>qF 2 (nth c 0) λb=>a
 [b] d) λc d=>qV a false 1 d (λa=>qL (nth c 0) d λb=>a [b] d) λc d=>qV a false 1 d (λa=>qN (nth c 0) λb=>a [b] d) λc d=>qP a bT (nth c 0) fun
 a=>z2k R b d a)))) λa b=>qK 4 (a 8) b λa=>R a b):z01 P_ 101 [a0,a1,a2,a3] h R:=cI zcl z07 Tryz.func101 Tryz.ntmps101 Tryz.call101
 (by kernel_rfl) (by kernel_rfl) H
theorem zg4 (H:qC .lss s20 s19 (qY 8 s18 s20 h λa=>qA 56 [n0,n0,n0,n0,n0,n0,.nils,.nils] h λb c=>qT 8 b a c λa=>qK 8 b a λc=>qS P_ 111
 [c] a λa c=>qC .eql a s2 (qK 8 b c λa=>(1=0->[(0,Operand.tmp 29)]=[])/\z0j true ⟨56,8,96⟩ [n0,n0,n0,n0,n0,n0,.nils,.nils] 1 [(0,a)] c (later (λa b=>q1
 (q7 true ⟨56,8,96⟩ s10 a b λa b=>qB .add s20 (n6 1) λc=>Q .normal (frOf [(1,s1),(2,s2),(3,s3),(4,s4),(8,s8),(9,s9),(10,a),(18,s18),(19,s19),(20,c)]) b)) ()))
 (qB .add s20 (n6 1) λa=>Q .normal (frOf [(1,s1),(2,s2),(3,s3),(4,s4),(8,s8),(9,s9),(10,s10),(18,s18),(19,s19),(20,a)]) c)) (Q (.exit 0) (frOf [(1,s1),(2,s2),(3,s3),(4,s4),(8,s8),(9,s9),(10,s10)])
 h)):WP P_ 151 z7d (frOf [(1,s1),(2,s2),(3,s3),(4,s4),(8,s8),(9,s9),(10,s10),(18,s18),(19,s19),(20,s20)]) h Q:=z0x zcl [0] [1,2,3,4,8,9,10,18,19,20]
 [1,2,3,4,8,9,10] [8] z07 (by kernel_rfl) (Eq.mpr (by kernel_rfl) H)
def zck:=mkG [2,9,19,33,44,45,46] [(6,[1,2,5,6,7])] [] []
noncomputable def z7c:=lpOf 6 Tryz.f82
theorem zkk (H:qM true 28 a0 h λa b=>qK 5 a b λc=>qS P_ 56 [c] b λb c=>qN b λb=>qU b false 2 c (λa=>qB .lss a1 n0 λb=>a [a1,b] c)
 λc d=>qP b bT (nth c 1) λb=>qU b false 5 d (λb=>qH 4 a d λa c=>qn c λe=>qB .geq a1 e λf=>b [a1,a,c,e,f] d) λc d=>qP b bT (nth c 4) λb=>qI
 b (R .nils d) (q1 (qG 2 a d λb=>qG 4 a d λc=>qX 3 c a1 λc=>qG 0 c d λc=>qX 3 b c λb=>qG 0 b d λb=>qn b λb=>qw P_ 48 z7c [(1,a1),(2,a),(5,.nils),(6,b),(7,n0)]
 d (λa b c=>q5 a (R (b 5) c)) λa b=>R (a 4) b))):z01 P_ 82 [a0,a1] h R:=cI zck z07 Tryz.func82 Tryz.ntmps82 Tryz.call82 (by kernel_rfl) (by
 kernel_rfl) H
theorem zg3 (H:qC .lss s7 s6 (qK 5 s2 h λa=>qS P_ 101 [a,s1,s7,s6] h λa b=>(1=0->[(0,Operand.tmp 44)]=[])/\z0j true ⟨160,4,48⟩ [n0,bF,n0,.nils]
 1 [(0,a)] b (later (λa b=>q1 (q7 true ⟨160,4,48⟩ s5 a b λa b=>qB .add s7 (n6 1) λc=>Q .normal (frOf [(1,s1),(2,s2),(5,a),(6,s6),(7,c)]) b)) ())) (Q (.exit
 0) (frOf [(5,s5)]) h)):WP P_ 48 z7c (frOf [(1,s1),(2,s2),(5,s5),(6,s6),(7,s7)]) h Q:=z0x zck [0] [1,2,5,6,7] [5] [4] z07 (by
 kernel_rfl) (Eq.mpr (by kernel_rfl) H)
def z6t:=mkG [2,20,23,25,28,37,38,69,70,111,134,135,148,149,160,180,181,184,218,219,222,223] [(7,[5,6,7,8,9,37,38,39]),(12,[5,6,7,8,9,11,12,37,38,39]),(14,[5,6,7,8,9,11,12,37,38,39]),(19,[5,6,7,8,9,11,12,13,15,16,37,38,39]),(29,[5,6,7,8,9,11,17,18,37,38,39,169])]
 [12,14,29] []
noncomputable def z5p:=lpOf 7 Tryz.f59
noncomputable def z4y:=lpOf 19 Tryz.f59
theorem zg6 (H:qM true 28 a0 h λa b=>qK 5 a b λc=>qS P_ 58 [c] b λb c=>qA 128 [.nils,.nils,.nils] c λc d=>qT 3 c b d λb=>qG 3 a b
 λd=>qn d λd=>qK 3 c b λe=>qS P_ 57 [d,e] b λb d=>qK 5 a d λe=>qS P_ 82 [e,a1] d λd e=>qG 4 a e λf=>qX 3 f a1 λf=>qG 0 f e λf=>qK 5 a e
 λa=>qS P_ 83 [a,a1] e λa e=>qn a λg=>qw P_ 226 z5p [(5,c),(6,b),(7,d),(8,f),(9,.nils),(37,a),(38,g),(39,n0)] e (λa b c=>q5 a (R (b
 9) c)) λa b=>R (a 4) b):z01 P_ 59 [a0,a1] h R:=cI z6t z07 Tryz.func59 Tryz.ntmps59 Tryz.call59 (by kernel_rfl) (by kernel_rfl) H
def z6i (Q:z1p->Fr->z00->Prop) (fr':Fr) (h184:z00) (v189:AV):Prop :=qL v189 h184 λa=>qX 4 (fr' 7) a λa=>qF 1 a fun
 a=>qK 3 a h184 λa=>qF 7 (fr' 18) λb=>qT 3 b a h184 λa=>qK 12 (fr' 18) a λb=>(1=0->[(0,Operand.tmp 217)]=[])/\z0j true ⟨109,12,128⟩ [n0,bF,n0,.nils,n0,bF,n0,bF,n0,.nils,n0,n0]
 1 [(0,b)] a (later (λa b=>q1 (q7 true ⟨109,12,128⟩ (fr' 9) a b λa b=>qB .add (fr' 39) (n6 1) λc=>Q .normal (frOf (kq fr' [5,6,7,8] [(9,a),(37,fr' 37),(38,fr'
 38),(39,c)])) b)) ())
def z1z (Q:z1p->Fr->z00->Prop) (fr':Fr) (h':z00) (fr78:Fr) (h79:z00) (v82:AV):Prop :=qU v82 false 2 h79 (λa=>qE
 (fr78 16) (n6 32) λb=>a [fr78 16,b] h79) λa b=>qP v82 bT (nth a 1) λa=>qI a (pIdx 1 1 (qB .add (fr78 39) (n6 1) λa=>Q .normal (frOf (kq fr78 [5,6,7,8,9,37,38]
 [(39,a)])) b) (Q (.exit 1) (frOf [(9,fr78 9)]) b)) (qZ 1 (fr78 6) (fr78 16) b λa=>q8 [(0,1),(1,3),(4,1),(5,1),(6,1),(7,3),(10,1),(11,1)] [n0,bF,n0,.nils,n0,bF,n0,bF,n0,.nils,n0,n0]
 [(0,n6 4),(6,a),(7,fr78 12)] λa=>qA 109 [n0,bF,n0,.nils,n0,bF,n0,bF,n0,.nils,n0,n0] b λb c=>qT 12 b a c λa=>qG 0 (fr78 15) a λc=>qC .neq c (n6 2) (qK
 12 b a λb=>(1=0->[(0,Operand.tmp 133)]=[])/\z0j true ⟨109,12,128⟩ [n0,bF,n0,.nils,n0,bF,n0,bF,n0,.nils,n0,n0] 1 [(0,b)] a (later (λa b=>q1 (q7 true ⟨109,12,128⟩
 (fr78 9) a b λa b=>pIdx 1 1 (qB .add (fr78 39) (n6 1) λc=>Q .normal (frOf (kq fr78 [5,6,7,8] [(9,a),(37,fr78 37),(38,fr78 38),(39,c)])) b) (Q (.exit 1) (frOf
 [(9,a)]) b))) ())) (qI (fr78 13) (q1 (qF 1 (fr78 15) λb=>qK 3 b a λc=>qH 4 (fr78 11) a λd e=>qX 1 (fr78 6) (fr78 16) λf=>qL f a λg=>q8 [(0,1),(1,3),(4,1),(5,1),(6,1),(7,3),(10,1),(11,1)]
 [n0,bF,n0,.nils,n0,bF,n0,bF,n0,.nils,n0,n0] [(0,n6 2),(1,c),(2,e),(6,g),(7,fr78 12)] λi=>(1=0->[(0,Operand.tmp 147)]=[])/\z0j true ⟨109,12,128⟩ [n0,bF,n0,.nils,n0,bF,n0,bF,n0,.nils,n0,n0]
 1 [(0,i)] a (later (λa i=>(q3 f g i/\q3 d e i/\q4 3 b c i)/\q1 (q7 true ⟨109,12,128⟩ (fr78 9) a i λa b=>q2 (q2 (pIdx 1 1 (qB .add (fr78 39) (n6 1) λc=>Q .normal
 (frOf (kq fr78 [5,6,7,8] [(9,a),(37,fr78 37),(38,fr78 38),(39,c)])) b) (Q (.exit 1) (frOf [(9,a)]) b))))) ()))) (q1 (qF 1 (fr78 15) λc=>qK 3 c a λd=>qX 1 (fr78
 6) (fr78 16) λe=>qL e a λf=>q8 [(0,1),(1,3),(4,1),(5,1),(6,1),(7,3),(10,1),(11,1)] [n0,bF,n0,.nils,n0,bF,n0,bF,n0,.nils,n0,n0] [(0,n6 3),(1,d),(6,f),(7,fr78
 12)] λg=>qA 109 [n0,bF,n0,.nils,n0,bF,n0,bF,n0,.nils,n0,n0] a λa i=>(q3 e f i/\q4 3 c d i)/\qT 12 a g i λc=>q2 (qQ (λd=>qG 7 (fr78 11) c λe=>qn e fun
 e=>qE e (n6 1) λe=>qU e true 6 c (λa=>qH 7 (fr78 11) c λb d=>qX 3 d n0 λe=>qH 0 e c λf g=>qE g (n6 1) λi=>a [b,d,e,f,g,i] c) λc f=>qP e (nth
 c 5) bF λc=>d (frOf (kq fr78 [5,6,7,8,9,11] [(17,b),(18,a),(37,fr78 37),(38,fr78 38),(39,fr78 39),(169,c)])) f) λa b=>qI (a 169) (qF 5 (a 18) λc=>qT 1 c
 bT b λb=>qG 7 (a 11) b λc=>qX 3 c n0 λc=>qG 2 c b λc=>z1o (.int .i64) c b (later (λc=>qF 6 (a 18) λd=>qT 1 d c b λb=>qK 12 (a 18) b λc=>(1=0->[(0,Operand.tmp
 179)]=[])/\z0j true ⟨109,12,128⟩ [n0,bF,n0,.nils,n0,bF,n0,bF,n0,.nils,n0,n0] 1 [(0,c)] b (later (λb c=>q1 (q7 true ⟨109,12,128⟩ (a 9) b c λb c=>qB .add
 (a 39) (n6 1) λd=>Q .normal (frOf (kq a [5,6,7,8] [(9,b),(37,a 37),(38,a 38),(39,d)])) c)) ())) ())) (qG 7 (a 11) b λc=>qn c λc=>qE c (n6 1) λc=>qU c
 true 6 b (λc=>qH 7 (a 11) b λa d=>qX 3 d n0 λe=>qH 0 e b λf g=>qE g (n6 2) λi=>c [a,d,e,f,g,i] b) λb d=>qP c (nth b 5) bF λb=>qU b true 10 d
 (λb=>qH 7 (a 11) d λc e=>qX 3 e n0 λf=>qH 2 f d λg i=>qX 4 (a 7) i λj=>qH 0 j d λk l=>qE l (n6 2) λm=>b [a 7,c,e,f,g,i,j,k,l,m] d) λc d=>qP
 b (nth c 9) bF λb=>qI b (qG 7 (a 11) d λb=>qX 3 b n0 λb=>qF 2 b λb=>z6i Q a d b) (qK 12 (a 17) d λb=>(1=0->[(0,Operand.tmp 221)]=[])/\z0j
 true ⟨109,12,128⟩ [n0,bF,n0,.nils,n0,bF,n0,bF,n0,.nils,n0,n0] 1 [(0,b)] d (later (λb c=>q1 (q7 true ⟨109,12,128⟩ (a 9) b c λb c=>qB .add (a 39) (n6 1) λd=>Q
 .normal (frOf (kq a [5,6,7,8] [(9,b),(37,a 37),(38,a 38),(39,d)])) c)) ()))))))))
theorem zda (H:qC .lss s39 s38 (qY 8 s37 s39 h λa=>qA 56 [n0,n0,n0,n0,n0,n0,.nils,.nils] h λb c=>qT 8 b a c λa=>qQ (λc=>qG 0 b a
 λd=>qE d (n6 5) λd=>qU d false 3 a (λc=>qH 0 b a λb d=>qE d (n6 6) λe=>c [b,d,e] a) λa e=>qP d bT (nth a 2) λa=>qU a false 3 e (λa=>qH 0 b
 e λb c=>qE c (n6 7) λd=>a [b,c,d] e) λd e=>qP a bT (nth d 2) λa=>qI a (c (frOf [(5,s5),(6,s6),(7,s7),(8,s8),(9,s9),(11,b),(12,n6 4),(37,s37),(38,s38),(39,s39)])
 e) (c (frOf [(5,s5),(6,s6),(7,s7),(8,s8),(9,s9),(11,b),(12,n6 3),(37,s37),(38,s38),(39,s39)]) e)) λa b=>qQ (λc=>qG 0 (a 11) b λd=>qE d (n6 2) λd=>qU d
 false 3 b (λc=>qH 0 (a 11) b λa d=>qE d (n6 5) λe=>c [a,d,e] b) λb e=>qP d bT (nth b 2) λb=>qI b (qG 4 (a 11) e λb=>q8 [(0,1),(1,3),(4,1),(5,1),(6,1),(7,3),(10,1),(11,1)]
 [n0,bF,n0,.nils,n0,bF,n0,bF,n0,.nils,n0,n0] [(0,n6 1),(2,b),(7,a 12)] λb=>(1=0->[(0,Operand.tmp 68)]=[])/\z0j true ⟨109,12,128⟩ [n0,bF,n0,.nils,n0,bF,n0,bF,n0,.nils,n0,n0]
 1 [(0,b)] e (later (λb d=>q1 (q7 true ⟨109,12,128⟩ (a 9) b d λb d=>c (frOf (kq a [5,6,7,8] [(9,b),(11,a 11),(12,a 12),(37,a 37),(38,a 38),(39,a 39)])) d)) ()))
 (c (frOf (kq a [5,6,7,8,9,11,12,37,38,39] [])) e)) λa b=>qG 0 (a 11) b λc=>qE c (n6 3) λc=>qU c false 3 b (λc=>qH 0 (a 11) b λa d=>qE d (n6 6) fun
 e=>c [a,d,e] b) λd e=>qP c bT (nth d 2) λc=>qG 0 (a 11) e λd=>qE d (n6 4) λd=>qU d false 3 e (λb=>qH 0 (a 11) e λa c=>qE c (n6 7) λd=>b [a,c,d]
 e) λe f=>qP d bT (nth e 2) λd=>qN c λe=>qU e true 2 f (λa=>qN d λb=>a [d,b] f) λd f=>qP e (nth d 1) bF λd=>qI d (pIdx 1 1 (qB .add (a 39) (n6
 1) λb=>Q .normal (frOf (kq a [5,6,7,8,9,37,38] [(39,b)])) f) (Q (.exit 1) (frOf [(9,a 9)]) f)) (qG 2 (a 11) f λd=>qY 4 (a 7) d f λd=>qA 160 [n0,bF,n0,.nils]
 f λe f=>qT 4 e d f λd=>qw P_ 226 z4y (kq a [5,6,7,8,9,11,12] [(13,c),(15,e),(16,n0),(37,a 37),(38,a 38),(39,a 39)]) d (λc d e=>pIdx c
 2 (pIdx 2 2 (qG 0 (d 15) e λc=>qE c (n6 1) λc=>z1z Q a b d e c) (pIdx 2 1 (qB .add (d 39) (n6 1) λa=>Q .normal (frOf (kq d [5,6,7,8,9,37,38]
 [(39,a)])) e) (Q (.exit 2) (frOf [(9,d 9)]) e))) False) λa b=>Q .ret (frOf [(4,a 4)]) b)) (Q (.exit 0) (frOf [(9,s9)]) h)):WP P_ 226 z5p (frOf
 [(5,s5),(6,s6),(7,s7),(8,s8),(9,s9),(37,s37),(38,s38),(39,s39)]) h Q:=z0x z6t [0] [5,6,7,8,9,37,38,39] [9] [4] z07 (by kernel_rfl) (Eq.mpr
 (by kernel_rfl) H)
theorem zc4 (H:q1 (qB .lss s16 (n6 32) λa=>qV a true 1 h (λa=>qF 0 s5 λb=>a [b] h) λb c=>qV a true 1 c (λa=>qL (nth b 0) c fun
 b=>a [b] c) λb c=>qV a true 1 c (λa=>a [s8] c) λc d=>qV a true 1 d (λa=>qX 1 (nth b 0) (nth c 0) λb=>a [b] d) λb c=>qV a true 1 c (λa=>qL (nth
 b 0) c λb=>a [b] c) λb c=>qV a true 1 c (λa=>qF 2 s11 λb=>a [b] c) λc d=>qV a true 1 d (λa=>qL (nth c 0) d λb=>a [b] d) λc d=>qV a true 1
 d (λa=>qX 1 (nth b 0) (nth c 0) λb=>a [b] d) λb c=>qV a true 1 c (λa=>qL (nth b 0) c λb=>a [b] c) λb c=>qV a true 1 c (λa=>a [s16] c) λc d=>qV
 a true 1 d (λa=>qS P_ 84 [nth b 0,nth c 0] d λb c=>a [b] c) λb c=>q2 (qV a true 1 c (λa=>qN (nth b 0) λb=>a [b] c) λb c=>qP a (nth b 0) bF λa=>qI
 a (qB .add s16 (n6 1) λa=>Q .normal (frOf [(5,s5),(6,s6),(7,s7),(8,s8),(9,s9),(11,s11),(12,s12),(13,s13),(15,s15),(16,a),(37,s37),(38,s38),(39,s39)]) c) (Q (.exit
 2) (frOf [(5,s5),(6,s6),(7,s7),(8,s8),(9,s9),(11,s11),(12,s12),(13,s13),(15,s15),(16,s16),(37,s37),(38,s38),(39,s39)]) c)))):WP P_ 226 z4y (frOf
 [(5,s5),(6,s6),(7,s7),(8,s8),(9,s9),(11,s11),(12,s12),(13,s13),(15,s15),(16,s16),(37,s37),(38,s38),(39,s39)]) h Q:=z0x z6t [2,1,0] [5,6,7,8,9,11,12,13,15,16,37,38,39]
 [5,6,7,8,9,11,12,13,15,16,37,38,39] [4] z07 (by kernel_rfl) (Eq.mpr (by kernel_rfl) H)
def z7w:=mkG [2,3,21,24,29] [(4,[2,3,29,30])] [] []
noncomputable def z3t:=lpOf 4 Tryz.f102
theorem zd8 (H:qM true 107 a0 h λa b=>qM true 107 a1 b λb c=>qG 0 a c λd=>qG 0 b c λe=>qD .bool .neq d e λd=>qU d false 5 c (fun
 d=>qH 1 a c λa e=>qH 1 b c λb f=>qB .neq e f λg=>d [a,e,b,f,g] c) λc e=>qP d bT (nth c 4) λc=>qU c false 7 e (λc=>qH 2 a e λa d=>qn d λf=>qH
 2 b e λb g=>qn g λi=>qB .neq f i λj=>c [a,d,f,b,g,i,j] e) λd e=>qP c bT (nth d 6) λc=>qI c (R bF e) (qG 2 a e λc=>qn c λc=>qw P_ 45 z3t
 [(2,a),(3,b),(29,c),(30,n0)] e (λa _ b=>q5 a (R bT b)) λa b=>R (a 4) b)):z01 P_ 102 [a0,a1] h R:=cI z7w z07 Tryz.func102 Tryz.ntmps102
 Tryz.call102 (by kernel_rfl) (by kernel_rfl) H
theorem zak (H:qC .lss s30 s29 (q1 (qG 2 s2 h λa=>qZ 1 a s30 h λa=>qG 2 s3 h λb=>qZ 1 b s30 h λb=>qC .neq a b (Q .ret (frOf [(4,bF)])
 h) (qB .add s30 (n6 1) λa=>Q .normal (frOf [(2,s2),(3,s3),(29,s29),(30,a)]) h))) (Q (.exit 0) (frOf []) h)):WP P_ 45 z3t (frOf [(2,s2),(3,s3),(29,s29),(30,s30)])
 h Q:=z0x z7w [0] [2,3,29,30] [] [4] z07 (by kernel_rfl) (Eq.mpr (by kernel_rfl) H)
def zfc:=mkG [2,3,43,50] [] [] [(1,[(12,[2,3,24,29])])]
theorem zf2 (H:qM true 109 a0 h λa b=>qM true 109 a1 b λb c=>qG 0 a c λd=>qG 0 b c λe=>qE d e λd=>qU d true 5 c (λd=>qH 4 a c
 λa e=>qH 4 b c λb f=>qE e f λg=>d [a,e,b,f,g] c) λc e=>qP d (nth c 4) bF λc=>qU c true 5 e (λc=>qH 5 a e λa d=>qH 5 b e λb f=>qD .bool .eql
 d f λg=>c [a,d,b,f,g] e) λd e=>qP c (nth d 4) bF λc=>qU c true 5 e (λc=>qH 6 a e λa d=>qH 6 b e λb f=>qE d f λg=>c [a,d,b,f,g] e) λd e=>z7n
 [a,b,c,nth d 4] (later (λa=>qP (nth a 2) (nth a 3) bF λb=>qU b true 5 e (λb=>qH 10 (nth a 0) e λc d=>qH 10 (nth a 1) e λa f=>qE d f λg=>b [c,d,a,f,g]
 e) λc d=>qP b (nth c 4) bF λb=>qU b true 5 d (λb=>qF 1 (nth a 0) λc=>qK 3 c d λe=>qF 1 (nth a 1) λa=>qK 3 a d λf=>qS P_ 102 [e,f] d λd g=>b
 [c,e,a,f,d] g) λc d=>qP b (nth c 4) bF λb=>qU b true 5 d (λb=>qF 7 (nth a 0) λc=>qK 3 c d λe=>qF 7 (nth a 1) λa=>qK 3 a d λf=>qS P_ 102 [e,f]
 d λd g=>b [c,e,a,f,d] g) λa c=>qP b (nth a 4) bF λa=>R a c) ())):z01 P_ 85 [a0,a1] h R:=cI zfc z07 Tryz.func85 Tryz.ntmps85 Tryz.call85
 (by kernel_rfl) (by kernel_rfl) H
def z97:=mkG [3,8,42] [(2,[3,7,8,9])] [] [(4,[(10,[3,6,7,8,9,18,22,31,36])])]
noncomputable def z4x:=lpOf 2 Tryz.f60
theorem zf1 (H:qM true 109 a1 h λa b=>qn a0 λc=>qw P_ 46 z4x [(3,a),(7,a0),(8,c),(9,n0)] b (λa _ b=>q5 a (R bF b))
 λa b=>R (a 4) b):z01 P_ 60 [a0,a1] h R:=cI z97 z07 Tryz.func60 Tryz.ntmps60 Tryz.call60 (by kernel_rfl) (by kernel_rfl) H
theorem zc3 (H:qC .lss s9 s8 (qY 12 s7 s9 h λa=>qA 109 [n0,bF,n0,.nils,n0,bF,n0,bF,n0,.nils,n0,n0] h λb c=>qT 12 b a c λa=>qG 11 b
 a λc=>qG 11 s3 a λd=>qB .geq c d λc=>qU c true 4 a (λc=>qH 0 b a λb d=>qE d (n6 5) λe=>c [b,d,e,e] a) λa d=>qU (nth a 3) false 4 d (λa=>qH
 0 b d λb c=>qE c (n6 4) λe=>a [b,c,e,e] d) λd e=>qU (nth d 3) true 3 e (λa=>qH 0 s3 e λb c=>qB .neq c (n6 1) λd=>a [b,c,d] e) λe f=>qU (nth a
 3) false 2 f (λa=>qP (nth d 3) (nth e 2) bF λb=>a [b,b] f) λd e=>qU (nth d 1) true 5 e (λa=>qH 10 b e λb c=>qH 10 s3 e λd f=>qE c f λg=>a [b,c,d,f,g]
 e) λe f=>z7n [s3,b,s7,s8,s9,c,nth a 3,nth d 1,nth e 4] (later (λa=>qU (nth a 6) false 1 f (λb=>qP (nth a 7) (nth a 8) bF λa=>b [a] f) λb c=>qU (nth
 a 5) true 2 c (λd=>qP (nth a 6) bT (nth b 0) λa=>d [a,a] c) λb c=>qU (nth b 1) false 3 c (λb=>qK 12 (nth a 1) c λd=>qK 12 (nth a 0) c λa=>qS P_
 85 [d,a] c λc e=>b [d,a,c] e) λc d=>qU (nth a 5) true 1 d (λa=>qP (nth b 1) bT (nth c 2) λb=>a [b] d) λb c=>qP (nth a 5) (nth b 0) bF λb=>qI b (Q
 .ret (frOf [(4,bT)]) c) (qB .add (nth a 4) (n6 1) λb=>Q .normal (frOf [(3,nth a 0),(7,nth a 2),(8,nth a 3),(9,b)]) c)) ())) (Q (.exit 0) (frOf []) h)):WP P_ 46
 z4x (frOf [(3,s3),(7,s7),(8,s8),(9,s9)]) h Q:=z0x z97 [0] [3,7,8,9] [] [4] z07 (by kernel_rfl) (Eq.mpr (by kernel_rfl)
 H)
def z3z:=mkG [3,14,18,21,26,28,29,31,33,36,51,59,60,67] [(7,[1,2,3,7,36,37]),(13,[3,50,51,52]),(16,[3,10,50,51,52,59,60,61])] [] []
noncomputable def z5o:=lpOf 7 Tryz.f45
noncomputable def z4v:=lpOf 13 Tryz.f45
noncomputable def z4w:=lpOf 16 Tryz.f45
theorem zg5 (H:qM true 28 a0 h λa b=>qK 5 a b λc=>qS P_ 56 [c] b λb c=>qN b λb=>qU b false 6 c (λb=>qn a2 λd=>qH 4 a c λa e=>qn
 e λf=>qB .neq d f λg=>b [a2,d,a,e,f,g] c) λc d=>qP b bT (nth c 5) λb=>qI b (R bF d) (q1 (qH 3 a d λb c=>qn c λe=>qK 5 a d λf=>qS P_ 58 [f] d
 λd f=>q3 b c f/\qS P_ 57 [e,d] f λb c=>q2 (qn b λd=>qn a1 λe=>qC .neq d e (R bF c) (qn b λd=>qw P_ 71 z5o [(1,a1),(2,a2),(3,a),(7,b),(36,d),(37,n0)]
 c (λa b c=>q5 a (qn (b 2) λa=>qw P_ 71 z4v [(3,b 3),(50,b 2),(51,a),(52,n0)] c (λa _ b=>pIdx a 2 (pIdx 2 2 (R bT b) False) False) fun
 a b=>R (a 6) b)) λa b=>R (a 6) b))))):z01 P_ 45 [a0,a1,a2] h R:=cI z3z z07 Tryz.func45 Tryz.ntmps45 Tryz.call45 (by kernel_rfl) (by kernel_rfl)
 H
theorem zd9 (H:qC .lss s37 s36 (q1 (qZ 1 s7 s37 h λa=>qZ 1 s1 s37 h λb=>qC .neq a b (Q .ret (frOf [(6,bF)]) h) (qB .add s37 (n6 1) fun
 a=>Q .normal (frOf [(1,s1),(2,s2),(3,s3),(7,s7),(36,s36),(37,a)]) h))) (Q (.exit 0) (frOf [(2,s2),(3,s3)]) h)):WP P_ 71 z5o (frOf [(1,s1),(2,s2),(3,s3),(7,s7),(36,s36),(37,s37)])
 h Q:=z0x z3z [0] [1,2,3,7,36,37] [2,3] [6] z07 (by kernel_rfl) (Eq.mpr (by kernel_rfl) H)
theorem zc1 (H:qC .lss s52 s51 (qZ 1 s50 s52 h λa=>qK 5 s3 h λb=>qS P_ 59 [b,s52] h λb c=>qn b λd=>qw P_ 71 z4w
 [(3,s3),(10,a),(50,s50),(51,s51),(52,s52),(59,b),(60,d),(61,n0)] c (λa b c=>pIdx a 4 (pIdx 4 4 (qB .add (b 52) (n6 1) λa=>Q .normal (frOf (kq b [3,50,51] [(52,a)]))
 c) (pIdx 4 3 (qB .add (b 52) (n6 1) λa=>Q .normal (frOf (kq b [3,50,51] [(52,a)])) c) (Q (.exit 4) (frOf []) c))) False) λa b=>Q .ret (frOf [(6,a 6)]) b) (Q
 (.exit 2) (frOf []) h)):WP P_ 71 z4v (frOf [(3,s3),(50,s50),(51,s51),(52,s52)]) h Q:=z0x z3z [2] [3,50,51,52] [] [6] z07
 (by kernel_rfl) (Eq.mpr (by kernel_rfl) H)
theorem zc2 (H:qC .lss s61 s60 (qY 12 s59 s61 h λa=>qA 109 [n0,bF,n0,.nils,n0,bF,n0,bF,n0,.nils,n0,n0] h λb c=>qT 12 b a c λa=>qK 12
 b a λb=>qS P_ 60 [s10,b] a λa b=>qN a λa=>qI a (Q .ret (frOf [(6,bF)]) b) (qB .add s61 (n6 1) λa=>Q .normal (frOf [(3,s3),(10,s10),(50,s50),(51,s51),(52,s52),(59,s59),(60,s60),(61,a)])
 b)) (Q (.exit 4) (frOf [(3,s3),(50,s50),(51,s51),(52,s52)]) h)):WP P_ 71 z4w (frOf [(3,s3),(10,s10),(50,s50),(51,s51),(52,s52),(59,s59),(60,s60),(61,s61)])
 h Q:=z0x z3z [4,3,2] [3,10,50,51,52,59,60,61] [3,50,51,52] [6] z07 (by kernel_rfl) (Eq.mpr (by kernel_rfl) H)
def z7g:=mkG [1,22,27,33,70,77] [(4,[26,27,28]),(7,[26,27,28,32,33,34])] [] [(9,[(14,[6,26,27,28,32,33,34,61])])]
noncomputable def z5v:=lpOf 4 Tryz.f28
noncomputable def z5w:=lpOf 7 Tryz.f28
theorem zhr (H:qM true 32 a0 h λa b=>qG 7 a b λc=>qB .lss c n0 λc=>qU c false 3 b (λc=>qH 7 a b λa d=>qB .gtr d (n6 8) λe=>c [a,d,e]
 b) λb d=>qP c bT (nth b 2) λb=>qU b false 8 d (λb=>qF 0 a λc=>qK 5 c d λe=>qH 5 a d λf g=>qH 6 a d λa i=>qS P_ 45 [e,g,i] d λd j=>qN d fun
 k=>b [c,e,f,g,a,i,d,k] j) λc d=>qP b bT (nth c 7) λb=>qI b (R bF d) (qG 6 a d λa=>qn a λb=>qw P_ 82 z5v [(26,a),(27,b),(28,n0)] d (fun
 a _ b=>q5 a (R bT b)) λa b=>R (a 2) b)):z01 P_ 28 [a0] h R:=cI z7g z07 Tryz.func28 Tryz.ntmps28 Tryz.call28 (by kernel_rfl) (by kernel_rfl)
 H
theorem ze8 (H:qC .lss s28 s27 (qZ 1 s26 s28 h λa=>qn a λb=>qw P_ 82 z5w [(26,s26),(27,s27),(28,s28),(32,a),(33,b),(34,n0)]
 h (λa b c=>pIdx a 2 (pIdx 2 2 (qB .add (b 28) (n6 1) λa=>Q .normal (frOf (kq b [26,27] [(28,a)])) c) (pIdx 2 1 (qB .add (b 28) (n6 1) λa=>Q .normal (frOf
 (kq b [26,27] [(28,a)])) c) (Q (.exit 2) (frOf []) c))) False) λa b=>Q .ret (frOf [(2,a 2)]) b) (Q (.exit 0) (frOf []) h)):WP P_ 82 z5v (frOf
 [(26,s26),(27,s27),(28,s28)]) h Q:=z0x z7g [0] [26,27,28] [] [2] z07 (by kernel_rfl) (Eq.mpr (by kernel_rfl) H)
theorem ze9 (H:qC .lss s34 s33 (qY 12 s32 s34 h λa=>qA 109 [n0,bF,n0,.nils,n0,bF,n0,bF,n0,.nils,n0,n0] h λb c=>qT 12 b a c λa=>qG 0 b
 a λc=>qB .lss c (n6 1) λc=>qU c false 3 a (λc=>qH 0 b a λb d=>qB .gtr d (n6 5) λe=>c [b,d,e] a) λa d=>qP c bT (nth a 2) λa=>qU a false 4 d (fun
 a=>qH 11 b d λb c=>qB .neq c (n6 3) λe=>a [b,c,e,e] d) λc d=>qU (nth c 3) true 3 d (λa=>qH 11 b d λb c=>qB .neq c (n6 4) λe=>a [b,c,e] d) λd
 e=>qU a false 1 e (λa=>qP (nth c 3) (nth d 2) bF λb=>a [b] e) λc d=>qP a bT (nth c 0) λa=>qU a false 3 d (λa=>qH 4 b d λb c=>qB .lss c n0 λe=>a
 [b,c,e] d) λc d=>qP a bT (nth c 2) λa=>z7n [b,s26,s27,s28,s32,s33,s34,a] (later (λa=>qU (nth a 7) false 3 d (λb=>qH 10 (nth a 0) d λa c=>qB .lss
 c n0 λe=>b [a,c,e] d) λb c=>qP (nth a 7) bT (nth b 2) λb=>qU b false 5 c (λb=>qF 1 (nth a 0) λa=>qH 2 a c λd e=>qn e λf=>qB .gtr f (n6 3) fun
 g=>b [a,d,e,f,g] c) λc d=>qP b bT (nth c 4) λb=>qU b false 5 d (λb=>qF 7 (nth a 0) λa=>qH 2 a d λc e=>qn e λf=>qB .gtr f (n6 3) λg=>b [a,c,e,f,g]
 d) λc d=>qP b bT (nth c 4) λb=>qI b (Q .ret (frOf [(2,bF)]) d) (qB .add (nth a 6) (n6 1) λb=>Q .normal (frOf [(26,nth a 1),(27,nth a 2),(28,nth a 3),(32,nth
 a 4),(33,nth a 5),(34,b)]) d)) ())) (Q (.exit 2) (frOf [(26,s26),(27,s27),(28,s28)]) h)):WP P_ 82 z5w (frOf [(26,s26),(27,s27),(28,s28),(32,s32),(33,s33),(34,s34)])
 h Q:=z0x z7g [2,1,0] [26,27,28,32,33,34] [26,27,28] [2] z07 (by kernel_rfl) (Eq.mpr (by kernel_rfl) H)
def zia:=mkG [2,6,10,15] [] [] []
theorem zhg (H:qM true 32 a0 h λa b=>qK 8 a b λc=>qS P_ 27 [c] b λb c=>qN b λb=>qU b true 3 c (λa=>qn a1 λb=>qB .leq b (n6 100)
 λd=>a [a1,b,d] c) λc d=>qP b (nth c 2) bF λb=>qU b true 2 d (λb=>qK 8 a d λa=>qS P_ 28 [a] d λc d=>b [a,c] d) λa c=>qP b (nth a 1) bF λa=>R
 a c):z01 P_ 6 [a0,a1] h R:=cI zia z07 Tryz.func6 Tryz.ntmps6 Tryz.call6 (by kernel_rfl) (by kernel_rfl) H
def zjt:=mkG [4,5] [] [] []
theorem ziz (H:z7s (maxA [a0,n0]) (later (λa=>z7s (minA [a,n6 8]) (later (λa=>q6 ⟨65,1,8⟩ [nU 0] a a h λa b=>q8 [(0,1),(1,1)] [.nils,.nils]
 [(0,a)] λa=>qM false 80 a b λa b=>R a b) ())) ())):z01 P_ 8 [a0] h R:=cI zjt z07 Tryz.func8 Tryz.ntmps8 Tryz.call8 (by kernel_rfl) (by
 kernel_rfl) H
def zju:=mkG [3,17] [] [] []
theorem zj0 (H:qM true 32 a0 h λa b=>q1 (qK 8 a b λc=>qF 0 a λd=>qG 2 d b λd=>qX 3 d a1 λd=>qG 0 d b λd=>qn d λd=>q6 ⟨65,1,8⟩
 [nU 0] d d b λb d=>q4 8 a c d/\q8 [(0,8),(8,1),(9,1),(10,1),(11,1),(12,1),(13,1)] [.nils,.nils,.nils,.nils,.nils,.nils,.nils,n0,n0,.nils,.nils,n0,n0,.nils] [(0,c),(1,a1),(2,a2),(3,b)]
 λa=>qM false 60 a d λa b=>q2 (R a b))):z01 P_ 10 [a0,a1,a2] h R:=cI zju z07 Tryz.func10 Tryz.ntmps10 Tryz.call10 (by kernel_rfl) (by kernel_rfl)
 H
def z9t:=mkG [7] [] [] []
theorem z9l (H:qD .slice .eql a0 .nils λa=>qI a (R .nils h) ((0=0->([]:List (Nat×Operand))=[])/\z0j false ⟨65,1,8⟩ [nU 0] 0 [] h
 (later (λa b=>q1 (q7 true ⟨65,1,8⟩ a a0 b λa b=>R a b)) ()))):z01 P_ 30 [a0] h R:=cI z9t z07 Tryz.func30 Tryz.ntmps30 Tryz.call30
 (by kernel_rfl) (by kernel_rfl) H
def z9o:=mkG [7,9,12] [(4,[0,1,12,13])] [] []
noncomputable def z8c:=lpOf 4 Tryz.f15
theorem z9c (H:qn a0 λa=>qn a1 λb=>qC .neq a b (R bF h) (qn a0 λa=>qw P_ 26 z8c [(0,a0),(1,a1),(12,a),(13,n0)] h (fun
 a _ b=>q5 a (R bT b)) λa b=>R (a 4) b)):z01 P_ 15 [a0,a1] h R:=cI z9o z07 Tryz.func15 Tryz.ntmps15 Tryz.call15 (by kernel_rfl) (by kernel_rfl)
 H
theorem z7o (H:qC .lss s13 s12 (q1 (qZ 1 s0 s13 h λa=>qZ 1 s1 s13 h λb=>qC .neq a b (Q .ret (frOf [(4,bF)]) h) (qB .add s13 (n6 1) fun
 a=>Q .normal (frOf [(0,s0),(1,s1),(12,s12),(13,a)]) h))) (Q (.exit 0) (frOf []) h)):WP P_ 26 z8c (frOf [(0,s0),(1,s1),(12,s12),(13,s13)]) h Q:=z0x
 z9o [0] [0,1,12,13] [] [4] z07 (by kernel_rfl) (Eq.mpr (by kernel_rfl) H)
def z7m:=mkG [12] [(3,[1,5,11,12,13])] [] []
noncomputable def z6o:=lpOf 3 Tryz.f35
theorem zc7 (H:qO a0 λa=>qG 1 a h λa=>qn a λb=>qw P_ 28 z6o [(1,a1),(5,n0),(11,a),(12,b),(13,n0)] h (λa b
 c=>q5 a (R (b 5) c)) λa b=>R (a 4) b):z01 P_ 35 [a0,a1] h R:=cI z7m z07 Tryz.func35 Tryz.ntmps35 Tryz.call35 (by kernel_rfl) (by kernel_rfl)
 H
theorem z9v (H:qC .lss s13 s12 (qY 4 s11 s13 h λa=>qA 92 [nU 0,n0,n0,.nils] h λb c=>qT 4 b a c λa=>qG 0 b a λb=>qB .sub b (nU
 1) λb=>z1o (.int .i64) b a (later (λb=>qB .quo b (n6 16) λb=>qC .eql b s1 (qB .add s5 (n6 1) λb=>qB .add s13 (n6 1) λc=>Q .normal (frOf [(1,s1),(5,b),(11,s11),(12,s12),(13,c)])
 a) (qB .add s13 (n6 1) λb=>Q .normal (frOf [(1,s1),(5,s5),(11,s11),(12,s12),(13,b)]) a)) ())) (Q (.exit 0) (frOf [(5,s5)]) h)):WP P_ 28 z6o
 (frOf [(1,s1),(5,s5),(11,s11),(12,s12),(13,s13)]) h Q:=z0x z7m [0] [1,5,11,12,13] [5] [4] z07 (by kernel_rfl) (Eq.mpr (by kernel_rfl)
 H)
def z4z:=mkG [18,27,44,47,53,62,86] [(2,[0,1,17,18,19]),(9,[0,1,9]),(14,[0,52,53,54])] [] []
noncomputable def z8t:=lpOf 2 Tryz.f16
noncomputable def z8u:=lpOf 9 Tryz.f16
noncomputable def z8b:=lpOf 14 Tryz.f16
theorem zhh (H:qO a1 λa=>qG 0 a h λa=>qn a λb=>qw P_ 90 z8t [(0,a0),(1,a1),(17,a),(18,b),(19,n0)] h (λa b c=>q5 a (qw
 P_ 90 z8u (kq b [0,1] [(9,n0)]) c (λa b c=>pIdx a 2 (pIdx 2 2 (qO (b 1) λa=>qG 1 a c λa=>qn a λd=>qw P_ 90 z8b [(0,b
 0),(52,a),(53,d),(54,n0)] c (λa _ b=>pIdx a 4 (pIdx 4 4 (R bT b) False) False) λa b=>R (a 4) b) False) False) λa b=>R (a 4) b)) λa b=>R (a 4) b):z01
 P_ 16 [a0,a1] h R:=cI z4z z07 Tryz.func16 Tryz.ntmps16 Tryz.call16 (by kernel_rfl) (by kernel_rfl) H
theorem ze2 (H:qC .lss s19 s18 (qZ 1 s17 s19 h λa=>qS P_ 33 [s0,s19] h λb c=>qx 0 b λd=>qx 1 b λb=>qB .neq d a λa=>qU a false 2
 c (λa=>qB .neq b n0 λd=>a [b,d] c) λb c=>qP a bT (nth b 1) λa=>qI a (Q .ret (frOf [(4,bF)]) c) (qB .add s19 (n6 1) λa=>Q .normal (frOf [(0,s0),(1,s1),(17,s17),(18,s18),(19,a)])
 c)) (Q (.exit 0) (frOf [(0,s0),(1,s1)]) h)):WP P_ 90 z8t (frOf [(0,s0),(1,s1),(17,s17),(18,s18),(19,s19)]) h Q:=z0x z4z [0]
 [0,1,17,18,19] [0,1] [4] z07 (by kernel_rfl) (Eq.mpr (by kernel_rfl) H)
theorem ze3 (H:qC .lss s9 (n6 4) (qS P_ 34 [s0,s9] h λa b=>qS P_ 35 [s1,s9] b λb c=>qC .neq a b (Q .ret (frOf [(4,bF)]) c) (qB .add s9 (n6
 1) λa=>Q .normal (frOf [(0,s0),(1,s1),(9,a)]) c)) (Q (.exit 2) (frOf [(0,s0),(1,s1)]) h)):WP P_ 90 z8u (frOf [(0,s0),(1,s1),(9,s9)]) h Q:=z0x
 z4z [2] [0,1,9] [0,1] [4] z07 (by kernel_rfl) (Eq.mpr (by kernel_rfl) H)
theorem zcw (H:qC .lss s54 s53 (qY 4 s52 s54 h λa=>qA 92 [nU 0,n0,n0,.nils] h λb c=>qT 4 b a c λa=>qG 0 b a λc=>qS P_ 36 [s0,c] a
 λa c=>qx 0 a λd=>qx 1 a λa=>qA 94 [n0,n0,.nils] c λc e=>qT 3 c d e λd=>qN a λa=>qU a false 5 d (λa=>qH 0 c d λc e=>qH 1 b d λb f=>qB .neq
 e f λg=>a [c,e,b,f,g] d) λd e=>qP a bT (nth d 4) λa=>qU a false 5 e (λa=>qH 1 c e λc d=>qH 2 b e λb f=>qB .neq d f λg=>a [c,d,b,f,g] e) λd
 e=>qP a bT (nth d 4) λa=>qU a false 6 e (λa=>qH 2 c e λc d=>qH 3 b e λb f=>qS P_ 15 [d,f] e λe g=>qN e λi=>a [c,d,b,f,e,i] g) λb c=>qP a bT (nth
 b 5) λa=>qI a (Q .ret (frOf [(4,bF)]) c) (qB .add s54 (n6 1) λa=>Q .normal (frOf [(0,s0),(52,s52),(53,s53),(54,a)]) c)) (Q (.exit 4) (frOf []) h)):WP P_ 90
 z8b (frOf [(0,s0),(52,s52),(53,s53),(54,s54)]) h Q:=z0x z4z [4] [0,52,53,54] [] [4] z07 (by kernel_rfl) (Eq.mpr (by kernel_rfl)
 H)
def zau:=mkG [] [] [] []
theorem zal (H:qA 56 [n0,n0,n0,n0,n0,n0,.nils,.nils] h λa b=>q1 (qO a0 λc=>qF 0 c λc=>qF 0 c λc=>qG 2 c b λc=>qO a0 λd=>qG
 8 d b λd=>qX 3 c d λc=>qG 1 c b λc=>qO a0 λd=>qG 11 d b λd=>qY 8 c d b λc=>qT 8 a c b λb=>q2 (qK 8 a b λa=>R a b))):z01 P_ 23 [a0] h R:=cI
 zau z07 Tryz.func23 Tryz.ntmps23 Tryz.call23 (by kernel_rfl) (by kernel_rfl) H
def z7l:=mkG [11] [(2,[1,10,11,12])] [] []
noncomputable def z6n:=lpOf 2 Tryz.f41
theorem zc6 (H:qO a0 λa=>qG 1 a h λa=>qn a λb=>qw P_ 23 z6n [(1,a1),(10,a),(11,b),(12,n0)] h (λa _ b=>q5
 a (R (n6 (-1)) b)) λa b=>R (a 4) b):z01 P_ 41 [a0,a1] h R:=cI z7l z07 Tryz.func41 Tryz.ntmps41 Tryz.call41 (by kernel_rfl) (by kernel_rfl)
 H
theorem z9u (H:qC .lss s12 s11 (qY 4 s10 s12 h λa=>qA 92 [nU 0,n0,n0,.nils] h λb c=>qT 4 b a c λa=>qG 0 b a λb=>qC .eql b s1
 (Q .ret (frOf [(4,s12)]) a) (qB .add s12 (n6 1) λb=>Q .normal (frOf [(1,s1),(10,s10),(11,s11),(12,b)]) a)) (Q (.exit 0) (frOf []) h)):WP P_ 23 z6n
 (frOf [(1,s1),(10,s10),(11,s11),(12,s12)]) h Q:=z0x z7l [0] [1,10,11,12] [] [4] z07 (by kernel_rfl) (Eq.mpr (by kernel_rfl) H)
def zcm:=mkG [11,26] [] [] []
theorem zc5 (H:qS P_ 41 [a0,a1] h λa b=>qC .lss a n0 (R (.tup [n6 2,n0]) b) (qB .lss a2 n0 λc=>qU c false 11 b (λc=>qO a0 λd=>qH
 1 d b λe f=>qX 4 f a λg=>qH 3 g b λi j=>qn j λk=>qB .geq a2 k λl=>c [a2,a0,d,e,f,a,g,i,j,k,l] b) λb d=>qP c bT (nth b 10) λb=>qI b (R (.tup [n6
 3,n0]) d) (R (.tup [n0,a]) d))):z01 P_ 53 [a0,a1,a2] h R:=cI zcm z07 Tryz.func53 Tryz.ntmps53 Tryz.call53 (by kernel_rfl) (by kernel_rfl)
 H
def zdq:=mkG [14] [] [] []
theorem zdb (H:qS P_ 53 [a0,a1,a2] h λa b=>qx 0 a λc=>qx 1 a λa=>qC .neq c n0 (R (.tup [nU 0,c]) b) (qO a0 λc=>qG 1 c b λc=>qX
 4 c a λa=>qG 3 a b λa=>qZ 1 a a2 b λa=>R (.tup [a,n0]) b)):z01 P_ 38 [a0,a1,a2] h R:=cI zdq z07 Tryz.func38 Tryz.ntmps38 Tryz.call38
 (by kernel_rfl) (by kernel_rfl) H
def zdr:=mkG [15] [] [] []
theorem zdc (H:qS P_ 53 [a0,a1,a2] h λa b=>qx 0 a λc=>qx 1 a λa=>qC .eql c n0 (qO a0 λd=>qG 1 d b λd=>qX 4 d a λa=>qG 3 a b
 λa=>qX 1 a a2 λa=>qT 1 a a3 b λa=>R c a) (R c b)):z01 P_ 39 [a0,a1,a2,a3] h R:=cI zdr z07 Tryz.func39 Tryz.ntmps39 Tryz.call39
 (by kernel_rfl) (by kernel_rfl) H
def zcn:=mkG [22,35,45,52,53] [] [] []
theorem zc8 (H:qB .lss a1 n0 λa=>qU a false 2 h (λa=>qB .gtr a1 (n6 3) λb=>a [a1,b] h) λb c=>qP a bT (nth b 1) λa=>qU a false
 4 c (λa=>qS P_ 35 [a0,a1] c λb c=>qB .geq b (n6 16) λd=>a [a0,a1,b,d] c) λb c=>qP a bT (nth b 3) λa=>qI a (R (.tup [nU 0,n6 4]) c) (qB .lss a4 n0 fun
 a=>qU a false 2 c (λa=>qB .gtr a4 (n6 16) λb=>a [a4,b] c) λb c=>qP a bT (nth b 1) λa=>qI a (R (.tup [nU 0,n6 5]) c) (qB .mul (n6 16) a1 λa=>qS P_ 35
 [a0,a1] c λb c=>qB .add a b λa=>qB .add a (n6 1) λa=>z1o (.int .u64) a c (later (λa=>q1 ((0=0->([]:List (Nat×Operand))=[])/\z0j false ⟨92,4,48⟩
 [nU 0,n0,n0,.nils] 0 [] c (later (λb c=>qO a0 λd=>qH 1 d c λd e=>q1 (q7 true ⟨92,4,48⟩ b e c λb c=>q2 (q6 ⟨65,1,8⟩ [nU 0] a4 a4 c λc d=>q2 (q8 [(0,1),(1,1),(2,1),(3,1)]
 [nU 0,n0,n0,.nils] [(0,a),(1,a2),(2,a3),(3,c)] λc=>(1=0->[(0,Operand.tmp 51)]=[])/\z0j true ⟨92,4,48⟩ [nU 0,n0,n0,.nils] 1 [(0,c)] d (later (λc d=>q1 (q7
 true ⟨92,4,48⟩ b c d λb c=>q2 (qO a0 λd=>qF 1 d λd=>qT 1 d b c λb=>q2 (R (.tup [a,n0]) b)))) ()))))/\q6 ⟨65,1,8⟩ [nU 0] a4 a4 c λc f=>q3 d e f/\q8 [(0,1),(1,1),(2,1),(3,1)]
 [nU 0,n0,n0,.nils] [(0,a),(1,a2),(2,a3),(3,c)] λc=>(1=0->[(0,Operand.tmp 51)]=[])/\z0j true ⟨92,4,48⟩ [nU 0,n0,n0,.nils] 1 [(0,c)] f (later (λc d=>q1 (q7
 true ⟨92,4,48⟩ b e d λb d=>q2 (q1 (q7 true ⟨92,4,48⟩ b c d λb c=>q2 (qO a0 λd=>qF 1 d λd=>qT 1 d b c λb=>q2 (R (.tup [a,n0]) b)))))) ())) ()))) ())))):z01
 P_ 40 [a0,a1,a2,a3,a4] h R:=cI zcn z07 Tryz.func40 Tryz.ntmps40 Tryz.call40 (by kernel_rfl) (by kernel_rfl) H
def zco:=mkG [19,43,56,64,77,162,193,201,220,239,257,274,286,296,297] [(11,[0,1,5,6,7]),(16,[0,1,5,6,7,8]),(19,[0,1,5,6,7,8,9]),(27,[0,1,5,6,7,8,9,10,120,148]),(42,[0,1,5,7,8,9,10,120,202]),(56,[0,5,7,8,10,120,277]),(45,[0,1,5,7,10,14]),(62,[0,7,10])]
 [11,16,19,27,42,45,56,62] []
def z2v (fr':Fr) (J:Fr->z00->Prop) (v67:AV) (x72:List AV) (h73:z00):Prop :=qP v67 bT (nth x72 2) λa=>qU a false 3 h73
 (λa=>qH 0 (fr' 5) h73 λb c=>qE c (n6 7) λd=>a [b,c,d] h73) λb c=>qP a bT (nth b 2) λa=>qU a false 3 c (λa=>qH 0 (fr' 5) c λb d=>qE d (n6 10)
 λe=>a [b,d,e] c) λb c=>qP a bT (nth b 2) λa=>qI a (q1 (qO (fr' 0) λa=>qG 10 a c λa=>qG 2 (fr' 5) c λb=>qZ 1 a b c λa=>J (frOf (kq fr' [0,1,5,6,7,8]
 [(9,a)])) c)) (J (frOf (kq fr' [0,1,5,6,7,8] [(9,nU 0)])) c)
def z0h (R:AV->z00->Prop) (fr':Fr) (h':z00) (v99:AV) (J:Fr->z00->Prop) (v100:AV):Prop :=qL v100 h' λa=>qC .eql
 a (n6 1) (q1 (qO (fr' 0) λa=>qG 10 a h' λa=>qG 1 (fr' 5) h' λb=>qX 1 a b λa=>qT 1 a (fr' 8) h' λa=>q2 (J (frOf (kq fr' [0,7] [(10,v99)])) a))) (qC
 .eql a (n6 2) (q1 (qO (fr' 0) λa=>qG 10 a h' λa=>qG 1 (fr' 5) h' λb=>qO (fr' 1) λc=>qG 0 c h' λc=>qG 4 (fr' 5) h' λd=>qZ 1 c d h' λc=>qX 1 a
 b λa=>qT 1 a c h' λa=>q2 (J (frOf (kq fr' [0,7] [(10,v99)])) a))) (qQ (λb=>qE a (n6 3) λc=>qI c (b (frOf (kq fr' [0,1,5,6,7,8,9] [(10,v99),(120,a),(148,c)]))
 h') (qE a (n6 4) λc=>b (frOf (kq fr' [0,1,5,6,7,8,9] [(10,v99),(120,a),(148,c)])) h')) λa b=>qI (a 148) (qG 4 (a 5) b λc=>qG 0 (a 5) b λd=>qC .eql d (n6
 4) (z1o (.int .i64) (a 6) b (later (λc=>qS P_ 38 [a 1,a 9,c] b λb c=>qx 0 b λd=>qx 1 b λb=>qC .neq b n0 (R b c) (q1 (qO (a 0) λb=>qG 10 b c λb=>qG
 1 (a 5) c λe=>qX 1 b e λb=>qT 1 b d c λb=>q2 (J (frOf (kq a [0,7,10] [])) b)))) ())) (qS P_ 38 [a 1,a 9,c] b λb c=>qx 0 b λd=>qx 1 b λb=>qC .neq
 b n0 (R b c) (q1 (qO (a 0) λb=>qG 10 b c λb=>qG 1 (a 5) c λe=>qX 1 b e λb=>qT 1 b d c λb=>q2 (J (frOf (kq a [0,7,10] [])) b))))) (qC .eql (a 120) (n6
 5) (q1 (qO (a 1) λc=>qG 0 c b λc=>qG 4 (a 5) b λd=>qX 1 c d λc=>qT 1 c (a 8) b λb=>q2 (J (frOf (kq a [0,7,10] [])) b))) (qC .eql (a 120) (n6 6) (qG
 4 (a 5) b λc=>qS P_ 39 [a 1,a 9,c,a 8] b λb c=>J (frOf [(0,a 0),(7,b),(10,a 10)]) c) (qC .eql (a 120) (n6 7) (z1o (.int .i64) (a 6) b (later (λc=>qS P_
 39 [a 1,a 9,c,a 8] b λb c=>J (frOf [(0,a 0),(7,b),(10,a 10)]) c) ())) (qQ (λc=>qE (a 120) (n6 8) λd=>qI d (c (frOf (kq a [0,1,5,7,8,9,10,120] [(202,d)]))
 b) (qE (a 120) (n6 9) λd=>c (frOf (kq a [0,1,5,7,8,9,10,120] [(202,d)])) b)) λa b=>qI (a 202) (z1o (.int .i64) (a 8) b (later (λc=>qQ (λd=>qG 0 (a 5)
 b λe=>qC .eql e (n6 8) (q1 (qO (a 0) λc=>qF 0 c λc=>qF 0 c λc=>qG 0 c b λc=>qG 3 (a 5) b λe=>qZ 1 c e b λc=>qn c λc=>d (frOf (kq a [0,1,5,7,10]
 [(14,c)])) b)) (d (frOf (kq a [0,1,5,7,10] [(14,c)])) b)) λa b=>q1 (qO (a 0) λc=>qG 8 c b λc=>qG 4 (a 5) b λd=>qO (a 0) λe=>qF 0 e λe=>qG 5 e b
 λe=>qG 4 (a 5) b λf=>qZ 1 e f b λe=>qS P_ 40 [a 1,c,d,e,a 14] b λb c=>q2 (qx 0 b λd=>qx 1 b λb=>qC .neq b n0 (R b c) (q1 (qO (a 0) λb=>qG 10
 b c λb=>qG 1 (a 5) c λe=>qX 1 b e λb=>qT 1 b d c λb=>q2 (J (frOf (kq a [0,7,10] [])) b)))))) ())) (qC .eql (a 120) (n6 10) (qS P_ 41 [a 1,a 9] b λb
 c=>qC .lss b n0 (R (n6 2) c) (q1 (qO (a 0) λd=>qG 10 d c λd=>qG 1 (a 5) c λe=>qO (a 1) λf=>qG 1 f c λf=>qX 4 f b λb=>qG 3 b c λb=>qn b λb=>z1o
 (.int .u64) b c (later (λb=>qX 1 d e λd=>qT 1 d b c λb=>q2 (J (frOf (kq a [0,7,10] [])) b)) ())))) (qQ (λc=>qE (a 120) (n6 11) λd=>qI d (c (frOf (kq
 a [0,5,7,8,10,120] [(277,d)])) b) (qE (a 120) (n6 12) λd=>c (frOf (kq a [0,5,7,8,10,120] [(277,d)])) b)) λa b=>qI (a 277) (q1 ((0=0->([]:List (Nat×Operand))=[])/\z0j
 false ⟨72,3,24⟩ [n0,bF,nU 0] 0 [] b (later (λb c=>qO (a 0) λd=>qG 13 d c λd=>qO (a 0) λe=>qH 8 e c λe f=>qH 0 (a 5) c λg i=>qE i (n6 12) λj=>q8
 [(0,1),(1,1),(2,1)] [n0,bF,nU 0] [(0,f),(1,j),(2,a 8)] λj=>(1=0->[(0,Operand.tmp 295)]=[])/\z0j true ⟨72,3,24⟩ [n0,bF,nU 0] 1 [(0,j)] c (later (λc j=>q1
 (q7 true ⟨72,3,24⟩ b d j λb d=>(q3 g i d/\q3 e f d)/\q1 (q7 true ⟨72,3,24⟩ b c d λb c=>q2 (qO (a 0) λd=>qF 13 d λd=>qT 1 d b c λb=>q2 (J (frOf (kq a
 [0,7,10] [])) b))))) ())) ()))) (qC .eql (a 120) (n6 13) (qG 5 (a 5) b λc=>J (frOf (kq a [0,7] [(10,c)])) b) (qC .eql (a 120) (n6 14) (qC .eql (a 8) (nU 0) (qG
 5 (a 5) b λc=>J (frOf (kq a [0,7] [(10,c)])) b) (J (frOf (kq a [0,7,10] [])) b)) (J (frOf (kq a [0,7,10] [])) b)))))))))))
theorem zc9 (H:qS P_ 23 [a0] h λa b=>qA 56 [n0,n0,n0,n0,n0,n0,.nils,.nils] b λb c=>qT 8 b a c λa=>qG 0 b a λc=>qC .eql c (n6 17)
 (R n0 a) (q1 (qO a0 λc=>qG 12 c a λc=>qO a0 λd=>qF 0 d λd=>qF 0 d λd=>qG 2 d a λd=>qO a0 λe=>qG 8 e a λe=>qX 3 d e λd=>qG 2 d a λd=>qC
 .geq c d (R (n6 6) a) (qQ (λc=>qG 7 b a λd=>qn d λd=>qC .gtr d n0 (q1 (qG 7 b a λd=>qO a0 λe=>qG 10 e a λe=>qO a0 λf=>qG 9 f a λf=>qS P_ 37
 [d,e,f] a λa d=>q2 (qx 0 a λe=>qx 1 a λa=>qC .neq a n0 (R a d) (c (frOf [(0,a0),(1,a1),(5,b),(6,e),(7,a)]) d)))) (c (frOf [(0,a0),(1,a1),(5,b),(6,nU 0),(7,n0)])
 a)) λa b=>qQ (λc=>qG 6 (a 5) b λd=>qn d λd=>qC .gtr d n0 (q1 (qG 6 (a 5) b λd=>qO (a 0) λe=>qG 10 e b λe=>qO (a 0) λf=>qG 9 f b λf=>qS
 P_ 37 [d,e,f] b λb d=>q2 (qx 0 b λe=>qx 1 b λb=>qC .neq b n0 (R b d) (c (frOf (kq a [0,1,5,6] [(7,b),(8,e)])) d)))) (c (frOf (kq a [0,1,5,6,7] [(8,nU 0)]))
 b)) λa b=>qQ (λc=>qG 0 (a 5) b λd=>qE d (n6 3) λd=>qU d false 3 b (λc=>qH 0 (a 5) b λa d=>qE d (n6 4) λe=>c [a,d,e] b) λb e=>qP d bT (nth
 b 2) λb=>qU b false 3 e (λb=>qH 0 (a 5) e λa c=>qE c (n6 6) λd=>b [a,c,d] e) λd e=>z2v a c b d e) λa b=>qO (a 0) λc=>qG
 11 c b λc=>qB .add c (n6 1) λc=>qQ (λd=>qF 0 (a 5) λe=>z0h R a b c d e) λa b=>qC .neq (a 7) n0 (R (a 7) b) (qO (a 0) λc=>qF
 11 c λc=>qT 1 c (a 10) b λb=>qO (a 0) λc=>qG 12 c b λc=>qB .add c (n6 1) λc=>qO (a 0) λa=>qF 12 a λa=>qT 1 a c b λa=>R n0 a))))):z01 P_
 17 [a0,a1] h R:=cI zco z07 Tryz.func17 Tryz.ntmps17 Tryz.call17 (by kernel_rfl) (by kernel_rfl) H
def z6q:=mkG [3,16,20,31,37,38,42,43,47,51,57,59,61,64,68,73,79,81,86,91,98,102,105] [(8,[7,8,9,10,11])] [] [(13,[(14,[7,8,88,93])])]
noncomputable def z2r:=lpOf 8 Tryz.f3
theorem zai (H:qM true 32 a0 h λa b=>qS P_ 5 [] b λb c=>qN b λb=>qI b (R bF c) (qK 8 a c λb=>qS P_ 6 [b,a2] c λb c=>qN b fun
 b=>qU b false 2 c (λa=>qB .lss a1 n0 λb=>a [a1,b] c) λc d=>qP b bT (nth c 1) λb=>qU b false 6 d (λb=>qF 0 a λa=>qH 2 a d λc e=>qn e λf=>qB
 .geq a1 f λg=>b [a1,a,c,e,f,g] d) λc d=>qP b bT (nth c 5) λb=>qI b (R bT d) (q1 (qF 0 a λb=>qG 1 b d λb=>qn b λb=>qF 0 a λc=>qH 1 c d λc e=>qn
 e λf=>qS P_ 7 [b] d λb d=>q3 c e d/\qS P_ 8 [f] d λc d=>q2 (q1 (qK 8 a d λe=>qK 8 a d λf=>qS P_ 9 [e,a1,a2] d λd e=>q4 8 a f e/\qS P_ 10 [f,a1,a2]
 e λa e=>q2 (qw P_ 106 z2r [(7,b),(8,c),(9,d),(10,a),(11,n0)] e (λa b c=>q5 a (qS P_ 16 [b 7,b 8] c λa b=>R a b)) λa b=>R (a 6)
 b))))))):z01 P_ 3 [a0,a1,a2] h R:=cI z6q z07 Tryz.func3 Tryz.ntmps3 Tryz.call3 (by kernel_rfl) (by kernel_rfl) H
theorem z9b (H:qC .lss s11 (n6 400) (qS P_ 11 [s9] h λa b=>qS P_ 12 [s9] b λb c=>qS P_ 13 [s9] c λc d=>qS P_ 14 [s9,s7] d fun
 d e=>qC .neq d n0 (qS P_ 11 [s9] e λe f=>qE e a λa=>qU a true 4 f (λa=>qS P_ 12 [s9] f λc d=>qE c b λe=>a [s9,c,b,e] d) λb e=>qP a (nth b 3) bF
 λa=>qU a true 4 e (λa=>qS P_ 13 [s9] e λb d=>qS P_ 15 [b,c] d λd e=>a [s9,b,c,d] e) λb c=>qP a (nth b 3) bF λa=>qU a true 3 c (λa=>qS P_ 16 [s7,s8]
 c λb c=>a [s7,s8,b] c) λb c=>qP a (nth b 2) bF λa=>qU a true 5 c (λa=>qS P_ 14 [s9,s7] c λb c=>qE b d λe=>a [s9,s7,b,d,e] c) λb c=>z7n [s7,s8,a,nth
 b 4] (later (λa=>qP (nth a 2) (nth a 3) bF λb=>qU b true 3 c (λb=>qS P_ 16 [nth a 0,nth a 1] c λc d=>b [nth a 0,nth a 1,c] d) λa c=>qP b (nth a 2)
 bF λa=>Q .ret (frOf [(6,a)]) c) ())) (qS P_ 17 [s10,s8] e λ_ a=>qB .add s11 (n6 1) λb=>Q .normal (frOf [(7,s7),(8,s8),(9,s9),(10,s10),(11,b)]) a)) (Q (.exit
 0) (frOf [(7,s7),(8,s8)]) h)):WP P_ 106 z2r (frOf [(7,s7),(8,s8),(9,s9),(10,s10),(11,s11)]) h Q:=z0x z6q [0] [7,8,9,10,11]
 [7,8] [6] z07 (by kernel_rfl) (Eq.mpr (by kernel_rfl) H)
def z9h:=mkG [16] [] [] []
theorem z9e (H:q1 (qO a0 λa=>qF 0 a λa=>qF 0 a λa=>qK 5 a h λa=>qO a0 λb=>qG 8 b h λb=>qO a0 λc=>qG 11 c h λc=>qS
 P_ 43 [a,b,c] h λa b=>q2 (R a b))):z01 P_ 19 [a0] h R:=cI z9h z07 Tryz.func19 Tryz.ntmps19 Tryz.call19 (by kernel_rfl) (by kernel_rfl)
 H
def za8:=mkG [4] [] [] []
theorem z9w (H:qS P_ 23 [a0] h λa b=>zki 0 none a (later (λa=>qE a (n6 17) λa=>R a b) ())):z01 P_ 21 [a0] h R:=cI za8
 z07 Tryz.func21 Tryz.ntmps21 Tryz.call21 (by kernel_rfl) (by kernel_rfl) H
def z92:=mkG [7,9,12] [(4,[0,1,12,13])] [] []
noncomputable def z7t:=lpOf 4 Tryz.f25
theorem zew (H:qn a0 λa=>qn a1 λb=>qC .neq a b (R bF h) (qn a0 λa=>qw P_ 26 z7t [(0,a0),(1,a1),(12,a),(13,n0)] h (fun
 a _ b=>q5 a (R bT b)) λa b=>R (a 4) b)):z01 P_ 25 [a0,a1] h R:=cI z92 z07 Tryz.func25 Tryz.ntmps25 Tryz.call25 (by kernel_rfl) (by kernel_rfl)
 H
theorem zbf (H:qC .lss s13 s12 (q1 (qY 3 s0 s13 h λa=>qY 3 s1 s13 h λb=>qD (.flat [.int,.bool,.int]) .neq a b λa=>qI a (Q .ret (frOf
 [(4,bF)]) h) (qB .add s13 (n6 1) λa=>Q .normal (frOf [(0,s0),(1,s1),(12,s12),(13,a)]) h))) (Q (.exit 0) (frOf []) h)):WP P_ 26 z7t (frOf [(0,s0),(1,s1),(12,s12),(13,s13)])
 h Q:=z0x z92 [0] [0,1,12,13] [] [4] z07 (by kernel_rfl) (Eq.mpr (by kernel_rfl) H)
def z3u:=mkG [3,16,19,24,30,31,35,36,40,48,49,50,55,56,57,61,62,66,70,80,92,94,98,100,105,108,114,117,121,130,139,144,149,150,152,156,161,165,166,175]
 [(9,[1,2,3,7,8,9,10,40,41]),(17,[1,7,8,9,10,69,70,71])] [] []
noncomputable def z2y:=lpOf 9 Tryz.f4
noncomputable def z2q:=lpOf 17 Tryz.f4
theorem zav (H:qM true 32 a0 h λa b=>qS P_ 5 [] b λb c=>qN b λb=>qI b (R bF c) (qn a2 λb=>qB .gtr b (n6 400) λb=>qU b false
 4 c (λb=>qK 8 a c λa=>qS P_ 6 [a,a1] c λc d=>qN c λe=>b [a,a1,c,e] d) λc d=>qP b bT (nth c 3) λb=>qI b (R bT d) (q1 (qF 0 a λb=>qG 1 b d fun
 b=>qn b λb=>qF 0 a λc=>qH 1 c d λc e=>qn e λf=>qS P_ 7 [b] d λb d=>q3 c e d/\qS P_ 8 [f] d λc d=>q2 (qF 0 a λe=>qG 2 e d λe=>qn e λe=>qw
 P_ 176 z2y [(1,a1),(2,a2),(3,a),(7,b),(8,c),(9,.nils),(10,.nils),(40,e),(41,n0)] d (λa b c=>q5 a (qK 8 (b 3) c λa=>qn (b 9) λd=>qS
 P_ 9 [a,d,.nils] c λa c=>qD .ptr .neq a .nilp λa=>qU a false 3 c (λa=>qK 8 (b 3) c λb=>qS P_ 9 [b,n6 (-1),.nils] c λc d=>qD .ptr .neq c .nilp λe=>a
 [b,c,e] d) λc d=>qP a bT (nth c 2) λa=>qI a (R bF d) (qn (b 2) λa=>qw P_ 176 z2q (kq b [1,7,8,9,10] [(69,b 2),(70,a),(71,n0)]) d
 (λa b c=>pIdx a 2 (pIdx 2 2 (qS P_ 16 [b 7,b 8] c λa b=>R a b) False) False) λa b=>R (a 6) b))) λa b=>R (a 6) b))))):z01 P_ 4 [a0,a1,a2] h R:=cI z3u
 z07 Tryz.func4 Tryz.ntmps4 Tryz.call4 (by kernel_rfl) (by kernel_rfl) H
theorem z9j (H:qC .lss s41 s40 (qK 8 s3 h λa=>qS P_ 9 [a,s41,s1] h λa b=>(1=0->[(0,Operand.tmp 48)]=[])/\z0j true ⟨39,1,8⟩ [.nilp]
 1 [(0,a)] b (later (λa b=>q1 (q7 true ⟨39,1,8⟩ s9 a b λa b=>qK 8 s3 b λc=>qS P_ 10 [c,s41,s1] b λb c=>(1=0->[(0,Operand.tmp 55)]=[])/\z0j true ⟨41,1,8⟩
 [.nilp] 1 [(0,b)] c (later (λb c=>q1 (q7 true ⟨41,1,8⟩ s10 b c λb c=>qB .add s41 (n6 1) λd=>Q .normal (frOf [(1,s1),(2,s2),(3,s3),(7,s7),(8,s8),(9,a),(10,b),(40,s40),(41,d)])
 c)) ()))) ())) (Q (.exit 0) (frOf [(1,s1),(2,s2),(3,s3),(7,s7),(8,s8),(9,s9),(10,s10)]) h)):WP P_ 176 z2y (frOf [(1,s1),(2,s2),(3,s3),(7,s7),(8,s8),(9,s9),(10,s10),(40,s40),(41,s41)])
 h Q:=z0x z3u [0] [1,2,3,7,8,9,10,40,41] [1,2,3,7,8,9,10] [6] z07 (by kernel_rfl) (Eq.mpr (by kernel_rfl) H)
def z3n (s1:AV) (s7:AV) (s8:AV) (s9:AV) (s10:AV) (s69:AV) (s70:AV) (s71:AV) (Q:z1p->Fr->z00->Prop) (v15:AV)
 (v179:AV) (x186:List AV) (h187:z00):Prop :=q2 (qV v179 false 1 h187 (λa=>qn (nth x186 0) λb=>a [b] h187) λa b=>qV v179 false 1 b (λc=>qB .neq
 (nth a 0) n0 λa=>c [a] b) λa b=>qP v179 bT (nth a 0) λa=>qI a (Q .ret (frOf [(6,bF)]) b) (qO v15 λa=>qF 13 a λa=>qT 1 a .nils b λa=>qB .add s71
 (n6 1) λb=>Q .normal (frOf [(1,s1),(7,s7),(8,s8),(9,s9),(10,s10),(69,s69),(70,s70),(71,b)]) a))
def z3o (s1:AV) (s7:AV) (s8:AV) (s9:AV) (s10:AV) (s69:AV) (s70:AV) (s71:AV) (Q:z1p->Fr->z00->Prop) (v13:AV)
 (v15:AV) (v77:AV) (x79:List AV) (x82:List AV) (h83:z00):Prop :=qV v77 false 1 h83 (λa=>qO (nth x82 0) λb=>a [b] h83) λa b=>qV v77 false 1 b
 (λc=>qF 12 (nth a 0) λa=>c [a] b) λa b=>qV v77 false 1 b (λc=>qL (nth a 0) b λa=>c [a] b) λb c=>qV v77 false 1 c (λa=>qS P_ 12 [nth x79 0] c
 λb c=>a [b] c) λc d=>qV v77 false 1 d (λb=>qL (nth a 0) d λa=>b [a] d) (λa c=>nth a 0=nth b 0/\c=d)/\qV v77 false 1 d (λa=>qB .neq (nth c 0) (nth
 b 0) λb=>a [b] d) λa b=>qP v77 bT (nth a 0) λa=>qV a false 1 b (λa=>a [v13] b) λb c=>qV a false 1 c (λa=>a [v15] c) λc d=>qV a false 1 d (fun
 a=>qO (nth c 0) λb=>a [b] d) λc d=>qV a false 1 d (λa=>qF 10 (nth c 0) λb=>a [b] d) λc d=>qV a false 1 d (λa=>qL (nth c 0) d λb=>a [b] d) fun
 d e=>qV a false 1 e (λa=>qS P_ 13 [nth b 0] e λb c=>a [b] c) λb e=>qV a false 1 e (λa=>qL (nth c 0) e λb=>a [b] e) (λa b=>nth a 0=nth d 0/\b=e)/\qV
 a false 1 e (λa=>qS P_ 15 [nth b 0,nth d 0] e λb c=>a [b] c) λb c=>q2 (qV a false 1 c (λa=>qN (nth b 0) λb=>a [b] c) λb c=>qP a bT (nth b 0) fun
 a=>qV a false 1 c (λa=>a [v13] c) λb c=>qV a false 1 c (λa=>a [s1] c) λc d=>qV a false 1 d (λa=>qn (nth c 0) λb=>a [b] d) λc d=>qV a false 1
 d (λa=>qS P_ 24 [nth b 0] d λb c=>a [b] c) λb d=>q2 (qV a false 1 d (λa=>qn (nth b 0) λb=>a [b] d) λb d=>qV a false 1 d (λa=>qB .neq (nth b 0)
 (nth c 0) λb=>a [b] d) λb c=>qP a bT (nth b 0) λa=>qI a (Q .ret (frOf [(6,bF)]) c) (q1 (qO v15 λa=>qH 13 a c λa b=>qS P_ 26 [v13] c λc d=>q3 a b
 d/\qS P_ 25 [c,b] d λa b=>q2 (qN a λa=>qV a false 1 b (λa=>a [v13] b) λb c=>qV a false 1 c (λa=>qS P_ 26 [nth b 0] c λb c=>a [b] c) λb c=>z3n
 s1 s7 s8 s9 s10 s69 s70 s71 Q v15 a b c)))))
theorem z9a (H:qC .lss s71 s70 (qZ 1 s69 s71 h λa=>qB .lss a n0 λb=>qU b false 4 h (λb=>qn s9 λc=>qB .geq a c λd=>b [a,s9,c,d]
 h) λc d=>qP b bT (nth c 3) λb=>qI b (pIdx 3 3 (qB .add s71 (n6 1) λa=>Q .normal (frOf [(1,s1),(7,s7),(8,s8),(9,s9),(10,s10),(69,s69),(70,s70),(71,a)]) d)
 (Q (.exit 3) (frOf [(7,s7),(8,s8)]) d)) (q1 (qZ 1 s9 a d λb=>qZ 1 s10 a d λa=>qS P_ 18 [b] d λc d=>qS P_ 19 [a] d λd e=>qB .neq c d λc=>qU c false
 5 e (λc=>qS P_ 20 [b] e λd e=>qS P_ 21 [a] e λe f=>qD .bool .neq d e λg=>c [b,d,a,e,g] f) λd e=>qP c bT (nth d 4) λc=>qU c false 7 e (λc=>qS
 P_ 22 [b] e λd e=>zki 0 none d (later (λf=>qS P_ 23 [a] e λe g=>zki 0 none e (later (λi=>qB .neq f i λj=>c [b,d,f,a,e,i,j] g) ())) ())) λd
 e=>qP c bT (nth d 6) λc=>qI c (Q .ret (frOf [(6,bF)]) e) (q1 (qS P_ 14 [b,s7] e λc d=>q2 (qS P_ 17 [a,s8] d λd e=>q2 (qB .neq c d λc=>qV c false 1 e (fun
 a=>a [b] e) λd e=>qV c false 1 e (λb=>b [a] e) λe f=>qV c false 1 f (λa=>qO (nth e 0) λb=>a [b] f) λe f=>qV c false 1 f (λa=>qF 11 (nth e 0)
 λb=>a [b] f) λe f=>qV c false 1 f (λa=>qL (nth e 0) f λb=>a [b] f) λf g=>qV c false 1 g (λa=>qS P_ 11 [nth d 0] g λb c=>a [b] c) λd g=>qV
 c false 1 g (λa=>qL (nth e 0) g λb=>a [b] g) (λa b=>nth a 0=nth f 0/\b=g)/\qV c false 1 g (λa=>qB .neq (nth d 0) (nth f 0) λb=>a [b] g) λd e=>qP c
 bT (nth d 0) λc=>qV c false 1 e (λa=>a [b] e) λd e=>qV c false 1 e (λb=>b [a] e) λe f=>z3o s1 s7 s8 s9 s10 s69 s70 s71
 Q b a c d e f))))))) (Q (.exit 2) (frOf [(7,s7),(8,s8)]) h)):WP P_ 176 z2q (frOf [(1,s1),(7,s7),(8,s8),(9,s9),(10,s10),(69,s69),(70,s70),(71,s71)])
 h Q:=z0x z3u [2] [1,7,8,9,10,69,70,71] [7,8] [6] z07 (by kernel_rfl) (Eq.mpr (by kernel_rfl) H)
end
end
section
open Go.Abs
abbrev It:=z09
def sgN (n:Nat):Int:=IntKind.i64.wrap n
def z1j (op:Int):Int:=if 1<=op/\op<=3 then 0 else if 4<=op/\op<=7 then 1 else if 8<=op/\op<=10 then 2 else -1
def z3j (x:It) (s:Int):Bool:=
 if x.Op=1 then decide (x.Bin=0)
 else if x.Op=2 then decide (x.Bin=0)&&decide ((x.N:Int)<max s 0)
 else if x.Op=3 then decide (x.Bin=0)&&decide (x.N<16)
 else if 4<=x.Op/\x.Op<=7 then decide (x.Bin=0)&&decide (x.N=0)
 else if x.Op=8 then decide (x.N=0)&&decide (0<=x.Bin/\x.Bin<=8)
 else if x.Op=9 then decide (x.N=0)&&decide (0<=x.Bin/\x.Bin<=8/\x.Bin≠4)
 else if x.Op=10 then decide (x.N=0)&&decide (x.Bin=5\/x.Bin=6)
 else false
theorem z5e {x:It} {s:Int} (h:z3j x s=true):0<=z1j x.Op/\z1j x.Op<=2:=by
 unfold z3j at h;unfold z1j;by_cases h1:1<=x.Op/\x.Op<=3
 ·rw [if_pos h1];omega
 ·rw [if_neg h1];by_cases h2:4<=x.Op/\x.Op<=7
  ·rw [if_pos h2];omega
  ·rw [if_neg h2];by_cases h3:8<=x.Op/\x.Op<=10
   ·rw [if_pos h3];omega
   ·rw [if_neg (by omega),if_neg (by omega),if_neg (by omega),if_neg h2,if_neg (by omega),if_neg (by omega),if_neg (by omega)] at h;cases h
def z4c (x:It) (s:Int):Int:=if z3j x s then z1j x.Op else -1
def high:List It->Int
 | []=>0
 | x::l=>1-z1j x.Op+high l
theorem zx9 (l m:List It):high (l++m)=high l+high m:=by
 induction l with
 | nil=>simp [high]
 | cons x l ih=>simp only [List.cons_append,high,ih];omega
theorem zk2 (l:List It) (x:It):high (l++[x])=high l+(1-z1j x.Op):=by rw [zx9];simp [high]
def okL (s:Int) (l:List It):Prop:=∀ k,k<l.length->∀ x,l[k]?=some x->z3j x s=true/\z1j x.Op<=high (l.take k)
def zjy (l:List It) (s:Int):Prop:=okL s l/\high l=1/\l.length<=64
theorem zbd {l:List It} {k:Nat} {x:It} (hx:l[k]?=some x):high (l.take (k+1))=high (l.take k)+(1-z1j x.Op):=by
 rw [List.take_add_one,hx];exact zk2 _ _
theorem okL_high {s:Int} {l:List It} (h:okL s l):∀ k,k<=l.length->0<=high (l.take k)/\(0<k->1<=high (l.take k)):=by
 intro k
 induction k with
 | zero=>intro _;simp [high]
 | succ k ih=>
  intro hk;have hx:l[k]?=some l[k]:=List.getElem?_eq_getElem (by omega);obtain ⟨h1,h2⟩:=h k (by omega) _ hx;rw [zbd hx];omega
def zt8 (s:Int):List It->Int->Option Int
 | [],w=>some w
 | x::l,w=>if z4c x s<0\/w=0 then none else zt8 s l (w-1+z4c x s)
theorem zso {s:Int} {l:List It} {x:It}:okL s (l++[x])↔okL s l/\z3j x s=true/\z1j x.Op<=high l:=by
 constructor
 ·intro h;refine ⟨λk hk y hy=>?_,?_⟩
  ·have:=h k (by simp;omega) y (by rw [List.getElem?_append_left hk];exact hy);rwa [List.take_append_of_le_length (by omega)] at this
  ·have:=h l.length (by simp) x (by simp);rwa [List.take_left'] at this
   rfl
 ·rintro ⟨h,h1,h2⟩ k hk y hy;by_cases hkl:k<l.length
  ·rw [List.getElem?_append_left hkl] at hy;rw [List.take_append_of_le_length (by omega)];exact h k hkl y hy
  ·have hke:k=l.length:=by simp at hk;omega
   subst hke;simp at hy;subst hy;rw [List.take_left' rfl];exact ⟨h1,h2⟩
theorem want_good (s:Int):∀ (n:Nat) (l:List It),l.length=n->∀ (w:Int),0<=w->(zt8 s l.reverse w=some 0↔okL s l/\high l=w):=by
 intro n
 induction n with
 | zero=>
  intro l hl w hw;have:l=[]:=List.length_eq_zero_iff.1 hl;subst this;simp [zt8,high,okL];omega
 | succ n ih=>
  intro l hl w hw;rcases List.eq_nil_or_concat l with rfl | ⟨m,x,rfl⟩
  ·simp at hl
  ·rw [List.concat_eq_append] at *;simp at hl;rw [List.reverse_append,List.reverse_singleton,List.singleton_append];simp only [zt8];rw [zso,zk2];by_cases hf:z3j x s=true
   ·have ht:z4c x s=z1j x.Op:=by unfold z4c;rw [if_pos hf]
    obtain ⟨h1,h2⟩:=z5e hf;rw [ht];by_cases hw0:w=0
    ·rw [if_pos (Or.inr hw0)];constructor
     ·intro h;cases h
     ·rintro ⟨⟨h3,h4,h5⟩,h6⟩;omega
    ·rw [if_neg (by omega),ih m hl _ (by omega)];constructor
     ·rintro ⟨h3,h4⟩;exact ⟨⟨h3,hf,by omega⟩,by omega⟩
     ·rintro ⟨⟨h3,h4,h5⟩,h6⟩;exact ⟨h3,by omega⟩
   ·have ht:z4c x s=-1:=by unfold z4c;rw [if_neg hf]
    rw [ht,if_pos (Or.inl (by omega))];constructor
    ·intro h;cases h
    ·rintro ⟨⟨h3,h4,h5⟩,h6⟩;exact absurd h4 hf
end
end Go.Proofs.YtjlogcfggfmacaaGreat

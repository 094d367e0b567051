-- Written by a program of this session out of its own texts (wip/tools/link.py).
import Derived.Below
import Derived.ChangeKeysEq
import Derived.Deep.MidRow
import Derived.Deep.RegionHeld3
import Derived.IntWalk
import Derived.LaidEql
import Derived.Laws.Bits64
import Derived.Laws.BitsLemmas
import Derived.Laws.IdiomCopy
import Derived.Laws.OwnMore
import Derived.Laws.Rows
import Derived.Laws.StructEq
import Derived.Laws.Tables
import Derived.LoopIn
import Derived.LoopNIn
import Derived.OrdersHeld
import Derived.OwnWalkIn
import Derived.RangeFuncBound
import Derived.RangeFuncCalls
import Derived.RangeFuncLeaves
import Derived.RangeFuncNested
import Derived.RowKit
import Derived.Shelf.Abstract
import Derived.Shelf.RegionOpen
import Derived.TacticsInMore
import Derived.Test.YtbpcfhhcoklinaaGreatProg
import Derived.WalkKit
import Derived.Test.YtbpcfhhcoklinaaGreatCVecInto14
set_option linter.unusedSimpArgs false
set_option linter.unusedVariables false
namespace Go.Proofs.YtbpcfhhcoklinaaGreat.Rng
open Go Go.RowKit Go.Shelf Go.Proofs.YtbpcfhhcoklinaaGreat.Ab
attribute [local go_sem] Oper.semAt_some
theorem bwS {gs:List Nat} {w W:World} (hb:Bw gs w W) (p:Addr) (v:Value) (h:w.heap.size≤p.block∨p.block∈gs):Bw gs w (W.setCell p v):=
 ⟨hb.os,hb.tape,hb.output,hb.drawn,Nat.le_trans hb.size (by show W.heap.size≤(W.heap.modify _ _).size;rw [Array.size_modify];exact Nat.le_refl _),fun k hk hn=>(Below.heap_setCell W p v k (fun e=>by subst e;rcases h with h | h;omega;exact hn h)).trans (hb.block k hk hn)⟩
theorem bwA {gs:List Nat} {w W:World} (hb:Bw gs w W) (o:Obj):Bw gs w (W.alloc o):=⟨hb.os,hb.tape,hb.output,hb.drawn,Nat.le_trans hb.size (by simp),fun k hk hn=>(Below.heap_alloc W o k (Nat.lt_of_lt_of_le hk hb.size)).trans (hb.block k hk hn)⟩
theorem bwP {gs:List Nat} {w W:World} (hb:Bw gs w W) (l:Nat) (o:Obj) (h:w.heap.size≤l):Bw gs w (W.putObj l o):=
 ⟨hb.os,hb.tape,hb.output,hb.drawn,by rw [World.putObj_size];exact hb.size,fun k hk hn=>(World.putObj_heap_other (by omega)).trans (hb.block k hk hn)⟩
theorem koB {g:Nat} {W W':World} (hb:Bw [g] W W') (hg:∀ o,W.heap[g]? = some o→o.isCells=true):KeepsOthers W W':=
 ⟨hb.size,fun k o hk ho=>(hb.block k (Array.getElem?_eq_some_iff.1 hk).1 (fun hm=>by
  have:k=g:=by simpa using hm
  subst this
  rw [hg o hk] at ho
  cases ho)).trans hk⟩
structure Two (M g:Nat) (W:World) (b1 b2:Nat) (A B:Option Addr) (a b:List Int) (ca cb:Nat):Prop where
 l1:b1 < M∧b1≠g
 l2:b2 < M∧b2≠g
 c1:W.cell? ⟨b1,0,none⟩=some (.slice A a.length ca)
 c2:W.cell? ⟨b2,0,none⟩=some (.slice B b.length cb)
 ra:∀ i (h:i < a.length),∃ p,A=some p∧(p.block < M∧p.block≠g)∧W.cell? (p.add i)=some (.int .u64 a[i])
 rb:∀ i (h:i < b.length),∃ p,B=some p∧(p.block < M∧p.block≠g)∧W.cell? (p.add i)=some (.int .u64 b[i])
theorem Two.keep {M g:Nat} {W W':World} {b1 b2:Nat} {A B:Option Addr} {a b:List Int} {ca cb:Nat} (h:Two M g W b1 b2 A B a b ca cb) (hk:∀ k,k < M→k≠g→W'.heap[k]? = W.heap[k]?):Two M g W' b1 b2 A B a b ca cb:=
 ⟨h.l1,h.l2,(cell_of (w:=W) (hk _ h.l1.1 h.l1.2)).trans h.c1,(cell_of (w:=W) (hk _ h.l2.1 h.l2.2)).trans h.c2,
  fun i hi=>by obtain ⟨p,h1,h2,h3⟩:=h.ra i hi;exact ⟨p,h1,h2,(cell_of (w:=W) (by rw [add_block];exact hk _ h2.1 h2.2)).trans h3⟩,
  fun i hi=>by obtain ⟨p,h1,h2,h3⟩:=h.rb i hi;exact ⟨p,h1,h2,(cell_of (w:=W) (by rw [add_block];exact hk _ h2.1 h2.2)).trans h3⟩⟩
set_option maxRecDepth 100000 in
set_option maxHeartbeats 4000000 in
theorem places_in (F:Fence) (n:Nat) (h:F.fn 66) (hro:F.round=none) (A B:Option Addr) (la lb ca cb:Nat) (w:World):
  CallsIn F n Tryz.prog 66 #[.slice A la ca,.slice B lb cb] w fun e w'=>e = .returned (.func (.func 109) #[] #[.pointer (some ⟨w.heap.size,0,none⟩),.pointer (some ⟨w.heap.size+1,0,none⟩)])∧w'=(w.alloc (.cells #[.slice A la ca] 22)).alloc (.cells #[.slice B lb cb] 22):=by
 refine callsIn_of_wp Tryz.func66 rfl h ?_ hro
 simp only [Tryz.ntmps66,List.size_toArray,List.length_cons,List.length_nil,Nat.reduceAdd,Nat.reduceSub,Array.replicate_succ,Array.replicate_zero,List.push_toArray,List.append_toArray,List.nil_append,List.cons_append]
 gi_wp2
 go_ret
 exact ⟨rfl,rfl⟩
set_option maxRecDepth 100000 in
set_option maxHeartbeats 4000000 in
theorem places1_in (F:Fence) (n:Nat) (h7:F.fn 109) (hro:F.round=none) (hn:1≤n) (l b1 b2:Nat) (A B:Option Addr) (a b:List Int) (ca cb:Nat) (hl:a.length=b.length) (hm:a.length≤9223372036854775807)
  (M g:Nat) (J:Nat→World→Prop) (Jx:World→Prop) (hJ:∀ i W,J i W→Two M g W b1 b2 A B a b ca cb)
  (hY:∀ i (h:i < a.length) W,J i W→YieldAt F (n - 1) Tryz.prog l #[.int .u64 a[i],.int .u64 (b[i]'(hl▸h))] W fun e W'=>(e = .returned (.bool true)∧J (i+1) W')∨(e = .returned (.bool false)∧Jx W'))
  (W:World) (h0:J 0 W):
  CallsIn F n Tryz.prog 109 #[.func (.yield l) #[] #[],.pointer (some ⟨b1,0,none⟩),.pointer (some ⟨b2,0,none⟩)] W fun e W'=>(∃ v,e = .returned v)∧(J a.length W'∨Jx W'):=by
 refine callsIn_of_wp Tryz.func109 rfl h7 ?_ hro
 simp only [Tryz.ntmps109,List.size_toArray,List.length_cons,List.length_nil,Nat.reduceAdd,Nat.reduceSub,Array.replicate_succ,Array.replicate_zero,List.push_toArray,List.append_toArray,List.nil_append,List.cons_append]
 have c1:=(hJ _ _ h0).c1
 gi_wp2
 gi_loopw [8] (fun i wr=>∃ k:Nat,k≤a.length∧i = .int .i64 k∧J k wr)
  (fun i _=>a.length - (intOf i).toNat)
 case atStart=>exact ⟨0,Nat.zero_le _,rfl,h0⟩
 case round =>
  obtain ⟨k,hk,rfl,hJs⟩:=hrel
  by_cases hlt:k < a.length
  ·have T:=hJ _ _ hJs
   obtain ⟨fn,tmps,assign,body,hy,hR⟩:=hY k hlt wr hJs
   obtain ⟨p,rfl, -,hp⟩:=T.ra k hlt
   obtain ⟨q,rfl, -,hq⟩:=T.rb k (hl▸hlt)
   have c2:=T.c2
   have hlt2:k < b.length:=hl▸hlt
   gi_wp2
   refine hR.mono ?_
   rintro e W3 (⟨rfl,hJ3⟩ | ⟨rfl,hJx3⟩)
   ·gi_wp2
    go_roundw
    case rel=>exact ⟨k+1,by omega,by simp,hJ3⟩
    case measure=>simp [intOf];omega
   ·gi_wp2
    refine bodyPost_ret (results_none rfl _ _ _) rfl ?_
    exact ⟨⟨_,rfl⟩,.inr hJx3⟩
  ·obtain rfl:k=a.length:=by omega
   gi_wp2
   go_end0
   exact ⟨⟨_,rfl⟩,.inl hJs⟩
def Ek (e:Option Int):Prop:=∀ c,e=some c→inK .i64 c
def runL {α:Type} (put:α→Int→Int→Option (α×Option Int)):α→List (Int×Int)→Option (α×Option Int)
 | x,[]=>some (x,none)
 | x,(p,q) :: l=>(match put x p q with
  | none=>none
  | some (y,none)=>runL put y l
  | some (y,some e)=>some (y,some e))
def intoR {α:Type} (tm:Int) (put:α→Int→Int→Option (α×Option Int)) (x:α) (a b:List Int):Option (α×Option Int):=
 if a.length=b.length then (if (a.length:Int) > wrap64 (2147483647 - tm) then some (x,some 11) else runL put x (a.zip b)) else some (x,some 15)
theorem Calls.of_ok {P:Program} {f:FuncId} {vs:Array Value} {w:World} {R:Value→World→Prop} (he:∀ args w,(callFunc f args).run P w = .ok (.enter f args) w) (h:CallOk P f vs w R):Calls P f vs w fun e w'=>∃ v,e = .returned v∧R v w':=by
 rcases h with ⟨-,h⟩ | ⟨v,w',h, -⟩
 ·exact h
 ·rw [he] at h
  cases h
theorem res_err {tmps:Array Value} {p:Addr} {v:Value} {W:World} (hp:tmps[6]?.getD undef = .pointer (some p)) (hc:W.cell? p=some v):(results Tryz.f26 tmps).run Tryz.prog W = .ok v W:=by
 simp [results,show Tryz.f26.results = #[.cell 6 26] from rfl,hp,asAddr,go_sem,hc]
structure InI {α:Type} (At:α→World→Prop) (put:α→Int→Int→Option (α×Option Int)) (g M s b1 b2:Nat) (w:World) (A B:Option Addr) (a b:List Int) (ca cb:Nat) (r:α×Option Int) (i:Nat) (W:World):Prop where
 run:∃ x,At x W∧runL put x ((a.zip b).drop i)=some r
 two:Two M g W b1 b2 A B a b ca cb
 bx:Boxed W s 50 (.pointer (some ⟨g,0,none⟩))
 br:Boxed W (s+1) 26 .nilIface
 bw:Bw [g] w W
 sz:M≤W.heap.size
structure InX {α:Type} (At:α→World→Prop) (g s:Nat) (w:World) (r:α×Option Int) (c:Code) (W:World):Prop where
 ret:c = .ret
 ek:Ek r.2
 at_:At r.1 W
 br:Boxed W (s+1) 26 (errV 76 r.2)
 bw:Bw [g] w W
theorem state_terms (v0 v1 v3:Value) (n:Int) (W:World):(Instr.field 49 (.agg #[v0,v1,.int .i64 n,v3]) 2).run Tryz.prog W = .ok (.int .i64 n) W:=by
 simp [Instr.field,run_underlying Tryz.underlying49,asAgg,part,Tryz.isAgg2,Sem.run_bind,Result.andThen,go_sem]
set_option maxRecDepth 100000 in
set_option maxHeartbeats 8000000 in
theorem into_calls {α:Type} (At:α→World→Prop) (g:Nat) (hAt:∀ x W W',W'.heap[g]? = W.heap[g]?→At x W→At x W') (hcell:∀ x W,At x W→g < W.heap.size∧∀ o,W.heap[g]? = some o→o.isCells=true) (tm:Int) (x0:α) (a b:List Int)
  (hState:a.length=b.length→∀ W,At x0 W→Calls Tryz.prog 28 #[.pointer (some ⟨g,0,none⟩)] W fun e W'=>(∃ v0 v1 v3,e = .returned (.agg #[v0,v1,.int .i64 tm,v3]))∧Bw [] W W')
  (put:α→Int→Int→Option (α×Option Int))
  (hPut:∀ x p q y e W,inK .u64 p→inK .u64 q→put x p q=some (y,e)→At x W→Calls Tryz.prog 67 #[.pointer (some ⟨g,0,none⟩),.int .u64 p,.int .u64 q] W fun e' W'=>e' = .returned (errV 76 e)∧Ek e∧At y W'∧Bw [g] W W')
  (A B:Option Addr) (ca cb:Nat) (w:World) (ok:Nat→Prop) (hog:¬ ok g) (hm:a.length≤9223372036854775807) (hm2:b.length≤9223372036854775807) (ra:Rds w ok A .u64 a) (rb:Rds w ok B .u64 b) (ia:∀ n∈a,inK .u64 n) (ib:∀ n∈b,inK .u64 n) (h0:At x0 w) (y:α) (e:Option Int) (hr:intoR tm put x0 a b=some (y,e)):
  Calls Tryz.prog 26 #[.pointer (some ⟨g,0,none⟩),.slice A a.length ca,.slice B b.length cb] w fun e' W'=>e' = .returned (errV 76 e)∧Ek e∧At y W'∧Bw [g] w W':=by
 refine (callsIn_wide (n:=9)).1 ?_
 refine callsIn_of_wp_marks Tryz.func26 rfl trivial ?_ rfl
 simp only [Tryz.ntmps26,List.size_toArray,List.length_cons,List.length_nil,Nat.reduceAdd,Nat.reduceSub,Array.replicate_succ,Array.replicate_zero,List.push_toArray,List.append_toArray,List.nil_append,List.cons_append]
 obtain ⟨hg,hgc⟩:=hcell _ _ h0
 have hbw0:Bw [g] w ((w.alloc (.cells #[.pointer (some ⟨g,0,none⟩)] 50)).alloc (.cells #[.nilIface] 26)):=bwA (bwA (Bw.refl _ w) _) _
 have hx0:At x0 ((w.alloc (.cells #[.pointer (some ⟨g,0,none⟩)] 50)).alloc (.cells #[.nilIface] 26)):=hAt _ _ _ ((((Below.refl _ w).alloc (Nat.le_refl _) (.cells #[.pointer (some ⟨g,0,none⟩)] 50)).alloc (by simp) (.cells #[.nilIface] 26)).block g hg) h0
 by_cases hl:a.length=b.length
 ·have hst:=hState hl _ hx0
  gi_wp2
  refine ⟨trivial, ?_⟩
  refine (callsIn_wide.2 hst).mono ?_
  rintro _ W1 ⟨⟨v0,v1,v3,rfl⟩,hB1⟩
  gi_wp2
  rw [state_terms]
  simp only [Result.andThen]
  have bx1:Boxed W1 w.heap.size 50 (.pointer (some ⟨g,0,none⟩)):=(hB1.block _ (by simp;omega) (by simp)).trans ((Boxed.new w 50 _).alloc _)
  have bx2:Boxed W1 (w.heap.size+1) 26 .nilIface:=(hB1.block _ (by simp) (by simp)).trans (by have:=Boxed.new (w.alloc (.cells #[.pointer (some ⟨g,0,none⟩)] 50)) 26 .nilIface;rwa [World.size_alloc] at this)
  have hbw1:Bw [g] w W1:=hbw0.trans (hB1.weak (by simp))
  have hx1:At x0 W1:=hAt _ _ _ (hB1.block _ (by simp;omega) (by simp)) hx0
  have k1:=bx1.cell
  have k2:=bx2.cell
  have k3:=bx2.frozen
  by_cases hf:(a.length:Int) > wrap64 (2147483647 - tm)
  ·gi_wp2
   have hq:y=x0∧e=some 11:=by unfold intoR at hr;rw [if_pos hl,if_pos hf] at hr;injection hr with hr;injection hr with h1 h2;exact ⟨h1.symm,h2.symm⟩
   obtain ⟨rfl,rfl⟩:=hq
   refine ⟨.iface 76 (.int .i64 11), ?_,rfl,(fun c hc=>by cases hc;exact ⟨by decide,by decide⟩), ?_, ?_⟩
   ·simp [results,Tryz.f26,go_sem,(bx2.set (.iface 76 (.int .i64 11))).cell]
   ·exact hAt _ _ _ (Below.heap_setCell _ _ _ _ (by simp;omega)) hx1
   ·exact bwS hbw1 _ _ (by simp)
  ·have hrun:runL put x0 (a.zip b)=some (y,e):=by unfold intoR at hr;rw [if_pos hl,if_neg hf] at hr;exact hr
   gi_wp2
   refine ⟨trivial, ?_⟩
   refine (places_in Fence.wide _ trivial rfl A B b.length b.length ca cb _).mono ?_
   rintro _ _ ⟨rfl,rfl⟩
   obtain ⟨W2,hW2⟩:∃ W2,(W1.alloc (.cells #[.slice A b.length ca] 22)).alloc (.cells #[.slice B b.length cb] 22)=W2:=⟨_,rfl⟩
   have hs2:W2.heap.size≤W1.heap.size+2∧W1.heap.size+2≤W2.heap.size:=by rw [← hW2];simp
   have hws:w.heap.size+2≤W1.heap.size:=by have:=hB1.size;simp at this;omega
   have hb12:Bw [] W1 W2:=by rw [← hW2];exact bwA (bwA (Bw.refl [] W1) _) _
   have n1:W2.cell? ⟨W1.heap.size,0,none⟩=some (.slice A b.length ca):=by rw [← hW2];exact ((Boxed.new W1 22 _).alloc _).cell
   have n2:W2.cell? ⟨W1.heap.size+1,0,none⟩=some (.slice B b.length cb):=by
    rw [← hW2]
    have:=(Boxed.new (W1.alloc (.cells #[.slice A b.length ca] 22)) 22 (.slice B b.length cb)).cell
    rwa [World.size_alloc] at this
   have frow:∀ {X:Option Addr} {l:List Int},Rds w ok X .u64 l→∀ i (h:i < l.length),∃ p,X=some p∧(p.block < W2.heap.size∧p.block≠g)∧W2.cell? (p.add i)=some (.int .u64 l[i]):=by
    intro X l hX i hi
    obtain ⟨p,h1,h2,h3,h4⟩:=hX i hi
    have hpg:p.block≠g:=fun e'=>hog (e'▸h2)
    refine ⟨p,h1,⟨by omega,hpg⟩, ?_⟩
    rw [cell_of (w:=w) (by rw [add_block];exact (hb12.block _ (by omega) (by simp)).trans (hbw1.block _ h3 (by simpa using hpg)))]
    exact h4
   have T0:Two W2.heap.size g W2 W1.heap.size (W1.heap.size+1) A B a b ca cb:=⟨by omega,by omega,by rw [hl];exact n1,n2,frow ra,frow rb⟩
   have hI0:InI At put g W2.heap.size w.heap.size W1.heap.size (W1.heap.size+1) w A B a b ca cb (y,e) 0 W2:=
    ⟨⟨x0,hAt _ _ _ (hb12.block _ (by omega) (by simp)) hx1,by simpa using hrun⟩,T0,(hb12.block _ (by omega) (by simp)).trans bx1,(hb12.block _ (by omega) (by simp)).trans bx2,hbw1.trans (hb12.weak (by simp)),Nat.le_refl _⟩
   gi_wp2
   refine stmt_of rfl (by omega) (gf:=109) (lb:=#[.pointer (some ⟨W1.heap.size,0,none⟩),.pointer (some ⟨W1.heap.size+1,0,none⟩)]) rfl trivial (enters_of Tryz.func109 (by kernel_rfl) rfl)
    (I:=InI At put g W2.heap.size w.heap.size W1.heap.size (W1.heap.size+1) w A B a b ca cb (y,e) a.length) (Ix:=InX At g w.heap.size w (y,e)) ?hit ?done ?stop
   case hit =>
    intro L W fn hfn hLl hLD hLr hrdy hbel
    have deafI:∀ i,Deaf L.l (InI At put g W2.heap.size w.heap.size W1.heap.size (W1.heap.size+1) w A B a b ca cb (y,e) i):=by
     intro i W o hlt h
     obtain ⟨x,h1,h2⟩:=h.run
     refine ⟨⟨x,hAt _ _ _ (World.putObj_heap_other (by omega)) h1,h2⟩,h.two.keep (fun k hk _=>World.putObj_heap_other (by omega)),(World.putObj_heap_other (by omega)).trans h.bx,(World.putObj_heap_other (by omega)).trans h.br,bwP h.bw _ _ (by omega),by rw [World.putObj_size];exact h.sz⟩
    have deafX:∀ c,Deaf L.l (InX At g w.heap.size w (y,e) c):=by
     intro c W o hlt h
     exact ⟨h.ret,h.ek,hAt _ _ _ (World.putObj_heap_other (by omega)) h.at_,(World.putObj_heap_other (by omega)).trans h.br,bwP h.bw _ _ (by omega)⟩
    have hIW:InI At put g W2.heap.size w.heap.size W1.heap.size (W1.heap.size+1) w A B a b ca cb (y,e) 0 W:=by
     obtain ⟨x,h1,h2⟩:=hI0.run
     exact ⟨⟨x,hAt _ _ _ (hbel.block _ (by omega) (by simp)) h1,h2⟩,hI0.two.keep (fun k hk _=>hbel.block _ hk (by simp)),(hbel.block _ (by omega) (by simp)).trans hI0.bx,(hbel.block _ (by omega) (by simp)).trans hI0.br,hI0.bw.trans (hbel.weak (by simp)),hbel.size⟩
    refine (places1_in Fence.wide _ trivial rfl (by omega) L.l W1.heap.size (W1.heap.size+1) A B a b ca cb hl hm W2.heap.size g
     (fun i W=>InI At put g W2.heap.size w.heap.size W1.heap.size (W1.heap.size+1) w A B a b ca cb (y,e) i W∧L.rdy W) (fun W=>∃ c,InX At g w.heap.size w (y,e) c W∧L.lft c W)
     (fun i W h=>h.1.two) ?_ W ⟨hIW,hrdy⟩).mono (fun e' W' h=>h)
    intro i hi Wi ⟨hIi,hri⟩
    refine (round_of hLr (by omega) hfn (args:=#[.int .u64 a[i],.int .u64 (b[i]'(hl▸hi))]) rfl hri (deafI (i+1)) deafX ?a1 ?assign ?body).mono (fun e' W' h=>h)
    case assign =>
     intro K hK
     gi_wp2
     exact hK
    case body =>
     have hb:=deafI i Wi (.loop (L.r .busy none)) ((Array.getElem?_eq_some_iff.1 hri.1).1) hIi
     obtain ⟨WB,hWB⟩:∃ WB,Wi.putObj L.l (.loop (L.r .busy none))=WB:=⟨_,rfl⟩
     rw [hWB] at hb ⊢
     clear hWB hIi hri
     obtain ⟨x,hx,hrn⟩:=hb.run
     have hib:i < b.length:=hl▸hi
     have hd:(a.zip b).drop i=(a[i],b[i]) :: (a.zip b).drop (i+1):=by
      rw [List.drop_eq_getElem_cons (by rw [List.length_zip];omega)]
      simp
     rw [hd] at hrn
     simp only [runL] at hrn
     obtain ⟨hxg,hxo⟩:=hcell _ _ hx
     have hsz:=hb.sz
     have c0:=hb.bx.cell
     cases hput:put x a[i] b[i] with
     | none=>rw [hput] at hrn;cases hrn
     | some z =>
      obtain ⟨y',e'⟩:=z
      rw [hput] at hrn
      have hcall:=hPut _ _ _ _ _ _ (ia _ (List.getElem_mem hi)) (ib _ (List.getElem_mem hib)) hput hx
      cases e' with
      | none =>
       gi_wp2
       refine ⟨trivial, ?_⟩
       refine (CallsIn.inRound L.l (callsIn_wide.2 hcall)).mono ?_
       rintro _ W' ⟨rfl,hek,hy',hbw⟩
       simp only [errV]
       gi_wp2
       exact ⟨koB hbw hxo,⟨y',hy',hrn⟩,hb.two.keep (fun k hk hne=>hbw.block k (by omega) (by simpa using hne)),(hbw.block _ (by omega) (by simp;omega)).trans hb.bx,(hbw.block _ (by omega) (by simp;omega)).trans hb.br,hb.bw.trans hbw,Nat.le_trans hsz hbw.size⟩
      | some e2 =>
       injection hrn with hrn
       injection hrn with q1 q2
       subst q1 q2
       gi_wp2
       refine ⟨trivial, ?_⟩
       refine (CallsIn.inRound L.l (callsIn_wide.2 hcall)).mono ?_
       rintro _ W' ⟨rfl,hek,hy',hbw⟩
       simp only [errV]
       have br':Boxed W' (w.heap.size+1) 26 .nilIface:=(hbw.block _ (by omega) (by simp;omega)).trans hb.br
       have c1:=br'.cell
       have c2:=br'.frozen
       gi_wp2
       exact ⟨(koB hbw hxo).trans (KeepsOthers.setCell _ _ _),rfl,hek,hAt _ _ _ (Below.heap_setCell _ _ _ _ (by simp;omega)) hy',br'.set _,bwS (hb.bw.trans hbw) _ _ (by simp)⟩
   case done =>
    intro W hI hK W' hW' hK' hlt
    rw [hl] at hI
    obtain ⟨x,hx,hrn⟩:=hI.run
    rw [List.drop_eq_nil_of_le (by rw [List.length_zip];omega)] at hrn
    simp only [runL] at hrn
    injection hrn with hrn
    injection hrn with q1 q2
    subst q1 q2
    have kW:∀ k,k≤W2.heap.size→W'.heap[k]? = W.heap[k]?:=fun k hk=>by rw [hW'];exact World.putObj_heap_other (by omega)
    have br':Boxed W' (w.heap.size+1) 26 .nilIface:=(kW _ (by omega)).trans hI.br
    have hx':=hAt _ _ _ (kW _ (by omega)) hx
    have hb':Bw [g] w W':=by rw [hW'];exact bwP hI.bw _ _ (by omega)
    have c1:=br'.cell
    have c2:=br'.frozen
    clear hW'
    gi_wp2
    have hK2:=(KeepsOthers.setCell W' ⟨w.heap.size+1,0,none⟩ .nilIface).same W2.heap.size _ hK' rfl
    refine ⟨(fun h=>by cases h),.inl ⟨_,_,rfl,run_takeDeferred hK2, ?_⟩⟩
    have b3:=br'.set .nilIface
    have b4:Boxed ((W'.setCell ⟨w.heap.size+1,0,none⟩ .nilIface).putObj W2.heap.size (.deferred none)) (w.heap.size+1) 26 .nilIface:=(World.putObj_heap_other (by omega)).trans b3
    refine ⟨.nilIface, ?_,rfl,(fun c hc=>by cases hc),hAt _ _ _ ((World.putObj_heap_other (by omega)).trans (Below.heap_setCell _ _ _ _ (by show g≠w.heap.size+1;omega))) hx',bwP (bwS hb' _ _ (.inl (by show w.heap.size≤w.heap.size+1;omega))) _ _ (by omega)⟩
    exact res_err rfl b4.cell
   case stop =>
    intro c W hI hK W' hW' hK' hlt
    obtain ⟨rfl,hek,hx,hbr,hbw⟩:=hI
    have kW:∀ k,k≤W2.heap.size→W'.heap[k]? = W.heap[k]?:=fun k hk=>by rw [hW'];exact World.putObj_heap_other (by omega)
    have br':Boxed W' (w.heap.size+1) 26 (errV 76 e):=(kW _ (by omega)).trans hbr
    have hx':=hAt _ _ _ (kW _ (by omega)) hx
    have hb':Bw [g] w W':=by rw [hW'];exact bwP hbw _ _ (by omega)
    clear hW'
    gi_wp2
    refine ⟨(fun h=>by cases h),.inl ⟨_,_,rfl,run_takeDeferred hK', ?_⟩⟩
    have b4:Boxed (W'.putObj W2.heap.size (.deferred none)) (w.heap.size+1) 26 (errV 76 e):=(World.putObj_heap_other (by omega)).trans br'
    refine ⟨errV 76 e, ?_,rfl,hAt _ _ _ (World.putObj_heap_other (by omega)) hx',bwP hb' _ _ (by omega)⟩
    exact res_err rfl b4.cell
 ·gi_wp2
  have hq:y=x0∧e=some 15:=by unfold intoR at hr;rw [if_neg hl] at hr;injection hr with hr;injection hr with h1 h2;exact ⟨h1.symm,h2.symm⟩
  obtain ⟨rfl,rfl⟩:=hq
  refine ⟨.iface 76 (.int .i64 15), ?_,rfl,(fun c hc=>by cases hc;exact ⟨by decide,by decide⟩),hAt _ _ _ ((((Below.refl _ w).alloc (Nat.le_refl _) _).alloc (by simp) _).block g hg) h0,bwA (bwA (Bw.refl _ w) _) _⟩
  simp [results,Tryz.f26,go_sem]
end Go.Proofs.YtbpcfhhcoklinaaGreat.Rng

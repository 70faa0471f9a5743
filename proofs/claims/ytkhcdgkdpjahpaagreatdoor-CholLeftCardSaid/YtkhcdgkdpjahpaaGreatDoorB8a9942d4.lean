/-
  Parts of the proof: Fw1, Fw2, Fw3, Fw4, Fw5, Fw6, Fw7, Fw8, Fw40, Fw41, Fw9, Fw10, Fw11, Fw12, Fw13, Fw14, Fw15, Fw16, Fw17, Fw18: the framework (Fw), pure forms (Dn), plain laws (Pl, Th), calls of functions (Ok).
-/
import Derived.Laws.AppendOwn
import Derived.ArgAppend
import Derived.Laws.IdiomCopy
import Derived.Laws.Cells
import Derived.Laws.MakeOwn
import Derived.Calls
import Derived.Orders
import Derived.Laws.Entries
import Derived.Maps.RangeRun

set_option linter.all false
abbrev bq:=@Option.bind_some
abbrev bU:=@Nat.le_refl
abbrev bW:=@Bool.and_eq_true
abbrev cr:=@List.getElem?_eq_getElem
abbrev ct:=@Nat.lt_or_ge
abbrev cS:=@Option.some.injEq
abbrev dy:=@List.getElem_mem
abbrev dz:=@List.mem_map
abbrev dA:=@Option.bind_eq_some_iff
abbrev dW:=@List.take_of_length_le
abbrev d4:=@List.mem_cons
abbrev d7:=@Int.toNat_natCast
abbrev d8:=@Nat.le_trans
abbrev eM:=@Int.le_of_lt
abbrev eW:=@List.length_take
abbrev eX:=@Nat.zero_le
abbrev e1:=@Option.map_eq_some_iff
abbrev ff:=@List.map_cons
abbrev fg:=@List.mem_append
abbrev fh:=@List.mem_singleton
abbrev fi:=@Nat.eq_of_beq_eq_true
abbrev fu:=@List.getElem?_eq_some_iff
abbrev fH:=@Option.some.inj
abbrev fL:=@Int.eq_ofNat_of_zero_le
abbrev fM:=@List.all_eq_true
abbrev fQ:=@Nat.le_of_ble_eq_true
abbrev gB:=@List.getElem?_map
abbrev gC:=@List.mem_cons_of_mem
abbrev gW:=@List.getElem?_eq_none
abbrev gX:=@Prod.mk.injEq
abbrev hk:=@List.nil_append
abbrev hC:=@Option.map_some
abbrev hL:=@List.cons.injEq
abbrev hU:=@Nat.min_eq_left
abbrev h9:=@Bool.or_eq_true
abbrev ie:=@Nat.add_mul
abbrev iv:=@List.mem_filter
abbrev iO:=@Int.lt_or_le
abbrev i6:=@List.length_map
abbrev i7:=@List.pairwise_iff_getElem
abbrev jl:=@Int.mul_comm
abbrev jm:=@List.map_append
abbrev jn:=@Nat.lt_of_lt_of_le
abbrev jo:=@Nat.pow_add
abbrev jM:=@Int.emod_add_mul_ediv
abbrev jN:=@List.ext_getElem?
abbrev jO:=@List.mem_iff_getElem
abbrev jQ:=@Nat.mul_le_mul_right
abbrev j9:=@List.mem_range
abbrev kI:=@Int.mul_le_mul_of_nonneg_left
abbrev kJ:=@List.length_cons
abbrev kK:=@List.map_congr_left
abbrev kL:=@List.nodup_append
abbrev kM:=@Nat.two_pow_pos
abbrev kN:=@Nat.zero_add
abbrev k2:=@Option.bind_assoc
abbrev lu:=@List.flatten_cons
abbrev lv:=@List.length_filter_le
abbrev lw:=@List.mem_flatten
abbrev lx:=@Nat.one_mul
abbrev lW:=@List.getD_eq_getElem?_getD
abbrev lX:=@List.getElem?_cons_zero
abbrev lY:=@List.take_add_one
abbrev l1:=@Nat.mul_le_mul
abbrev mw:=@Bool.not_true
abbrev mA:=@List.cons_append
abbrev mB:=@List.nodup_cons
abbrev mC:=@Nat.pow_succ
abbrev nj:=@List.filter_cons
abbrev nk:=@List.mem_cons_self
abbrev nl:=@Nat.eq_zero_or_pos
abbrev n6:=@List.getElem?_drop
abbrev oH:=@Bool.not_false
abbrev oJ:=@Int.ediv_nonneg
abbrev oK:=@Int.mul_le_mul_of_nonneg_right
abbrev oL:=@Int.natCast_mul
abbrev oM:=@List.append_nil
abbrev oN:=@List.getElem?_set_self
abbrev oO:=@List.length_drop
abbrev oP:=@List.mem_of_getElem?
abbrev oQ:=@List.take_append_drop
abbrev pG:=@Int.pow_add
abbrev pH:=@List.getElem?_take_of_lt
abbrev pI:=@List.mem_append_right
abbrev pJ:=@Nat.mul_comm
abbrev qg:=@Int.mul_nonneg
abbrev qh:=@List.drop_zero
abbrev qi:=@List.eq_nil_of_length_eq_zero
abbrev qj:=@List.getElem?_replicate
abbrev qk:=@List.getElem?_set_ne
abbrev ql:=@Nat.add_zero
abbrev q7:=@Array.getElem?_eq_some_iff
abbrev q8:=@Bool.eq_iff_iff
abbrev q9:=@Int.emod_nonneg
abbrev ra:=@Int.mul_assoc
abbrev rb:=@List.filter_append
abbrev rc:=@List.filter_eq_self
abbrev re:=@List.range_succ
abbrev rf:=@Nat.lt_trichotomy
abbrev sj:=@List.append_assoc
abbrev sk:=@List.getElem?_append_left
abbrev sl:=@List.mem_append_left
abbrev sm:=@List.pairwise_cons
abbrev sn:=@Nat.add_sub_cancel_left
abbrev tK:=@Int.ediv_eq_zero_of_lt
abbrev tL:=@Int.emod_lt_of_pos
abbrev tO:=@List.any_eq_true
abbrev tP:=@List.drop_drop
abbrev tQ:=@List.drop_eq_nil_of_le
abbrev tR:=@List.getElem?_append_right
abbrev tS:=@List.length_append
abbrev tV:=@Nat.mul_assoc
abbrev tW:=@Nat.pow_le_pow_right
abbrev vh:=@Array.mem_append_right
abbrev vj:=@Int.ediv_lt_of_lt_mul
abbrev vk:=@Int.mul_pos
abbrev vl:=@Int.pow_pos
abbrev vo:=@List.drop_append_of_le_length
abbrev vp:=@List.drop_of_length_le
abbrev vq:=@List.flatten_append
abbrev vr:=@List.getElem?_cons_succ
abbrev vt:=@List.getElem?_range
abbrev vu:=@List.length_nil
abbrev vv:=@List.length_replicate
abbrev vw:=@List.take_length
abbrev vx:=@Nat.div_add_mod
abbrev xA:=@Array.getElem?_modify
abbrev xE:=@Int.emod_eq_of_lt
abbrev xF:=@Int.le_refl
abbrev xG:=@Int.natCast_ediv
abbrev xJ:=@List.getElem?_set
abbrev xK:=@List.map_map
abbrev xL:=@List.map_nil
abbrev xM:=@List.size_toArray
abbrev xN:=@Nat.beq_refl
abbrev xO:=@Option.getD_some
abbrev zN:=@Int.ediv_ediv_of_nonneg
abbrev zO:=@Int.ediv_le_self
abbrev zP:=@Int.mul_lt_mul_of_pos_right
abbrev zQ:=@Int.natAbs_natCast
abbrev zR:=@Int.natAbs_neg
abbrev zS:=@List.all_cons
abbrev zT:=@List.count_append
abbrev zU:=@List.getElem?_take
abbrev zV:=@List.getElem_set_ne
abbrev zW:=@List.length_range
abbrev zX:=@List.perm_iff_count
abbrev zY:=@List.take_append_of_le_length
abbrev zZ:=@Nat.div_le_self
abbrev CI:=@Array.getElem?_toList
abbrev CJ:=@Array.replicate_succ
abbrev CK:=@Array.replicate_zero
abbrev CO:=@Int.add_mul_ediv_left
abbrev CP:=@List.any_eq_false
abbrev CQ:=@List.append_toArray
abbrev CR:=@List.length_eq_one_iff
abbrev CS:=@List.pairwise_map
abbrev CT:=@List.push_toArray
abbrev CU:=@Nat.add_assoc
abbrev CV:=@Nat.add_sub_cancel
abbrev Fk:=@Array.getElem?_eq_getElem
abbrev Fl:=@Array.getElem?_push
abbrev Fm:=@Bool.not_eq_true'
abbrev Fs:=@Int.add_mul_emod_self_left
abbrev Ft:=@Int.tdiv_eq_ediv_of_nonneg
abbrev Fv:=@List.append_of_mem
abbrev Fw:=@List.filter_congr
abbrev Fx:=@List.filter_cons_of_neg
abbrev Fy:=@List.getElem_take
abbrev Fz:=@List.length_set
abbrev FA:=@List.map_toArray
abbrev FB:=@List.mem_toArray
abbrev JZ:=@Array.getD_eq_getD_getElem?
abbrev J3:=@Int.fdiv_eq_ediv_of_nonneg
abbrev J4:=@Int.lt_of_mul_lt_mul_left
abbrev J5:=@Int.tmod_eq_emod_of_nonneg
abbrev J7:=@List.filter_cons_of_pos
abbrev J8:=@List.length_pos_iff
abbrev J9:=@List.singleton_append
abbrev Ka:=@Nat.le_div_iff_mul_le
abbrev Kb:=@Nat.testBit_two_pow
abbrev Kd:=@Option.isSome_some
abbrev Pv:=@Array.getElem?_setIfInBounds_ne
abbrev Px:=@Int.mul_ediv_cancel_left
abbrev PA:=@List.drop_eq_getElem_cons
abbrev PB:=@List.length_eq_zero_iff
abbrev aBT:=(List (List Int)×Unit)×(List (List Int)×Unit)×List Int×Unit
abbrev aBU:=Int×(List (List Int)×Unit)×(List (List Int)×Unit)×Unit
abbrev aBV:=(List (List Int)×Unit)×(List (List Int)×Unit)×Unit
abbrev aBW:=List Int×(Option (List (List Int)×Unit)×Unit)×Unit
abbrev aBX:=Int×(List (List Int)×Unit)×List (List Bool)×Unit
abbrev aBY:=(List (List Int)×Unit)×List (List Bool)×Unit
abbrev aBZ:=Int×(List (List Bool)×(List Bool×Unit))×Unit
abbrev aB0:=(List (List Bool)×(List Bool×Unit))×Unit
abbrev aB1:=(Int×List Bool×Unit)⊕(Unit⊕(Bool×Unit))
abbrev aB2:=(Int×List Bool×Unit)⊕(List Bool×Unit)
abbrev aB3:=(List (List Int)×Unit)×List Int×Unit
abbrev aB4:=Unit⊕((Int×Unit)⊕(Unit⊕(Int×Unit)))
abbrev aB5:=Int×(List Int×(List Int×Unit))×Unit
abbrev aB7:=(Int×Int×Unit)⊕(Unit⊕(Bool×Unit))
abbrev aB8:=List (List Bool)×(List Bool×Unit)
abbrev aB9:=(List Int×(List Int×Unit))×Unit
abbrev aCa:=(List (List Int)×Unit)×Int×Unit
abbrev aCb:=(Int×Unit)⊕(Unit⊕(Int×Unit))
abbrev aCc:=(List (List Int)×Unit)×Unit
abbrev aCd:=Int×List (List Bool)×Unit
abbrev aCe:=List Int×(List Int×Unit)
abbrev aCf:=List (List Int)×Int×Unit
abbrev aCg:=List (List Bool)×Unit
abbrev aCh:=List (List Int)×Unit
abbrev aCi:=Int×List Bool×Unit
abbrev aCj:=List Int×Int×Unit
abbrev aCk:=Int×List Int×Unit
abbrev aCl:=Nat×Nat×List Nat
abbrev aCm:=Unit⊕(Bool×Unit)
abbrev aCn:=Unit⊕(Int×Unit)
abbrev aCo:=List Bool×Unit
abbrev aCp:=Int×Bool×Unit
abbrev aCq:=List Int×Unit
abbrev aCr:=Bool×Int×Unit
abbrev aCs:=Int×Int×Unit
abbrev aCt:=Bool×Unit
abbrev aCu:=Int×Unit
abbrev aCv:=Nat×Nat
noncomputable section
namespace Go.mz
inductive dE where
 |cL
 |eN
 deriving DecidableEq
inductive au where
 |int (k:IntKind)
 |bool
 |str
 |bM (m:dE) (t:au)
 |ptr (m:dE) (t:au)
 |osl (t:au)
 |optr (t:au)
 |st (t:au)
 |pr (a b:au)
 |nil
 |dG
 |mp (t:au)
 |ey (m:dE) (t:au)
 deriving DecidableEq
def au.size:au->Nat
 |.pr a b=>a.size+b.size
 |.st t=>t.size
 |.nil|.dG=>0
 |_=>1
@[reducible] def au.den:au->Type
 |.int _=>Int
 |.bool=>Bool
 |.str=>ByteArray
 |.bM _ t=>List t.den
 |.ptr _ t=>Option t.den
 |.osl t=>List t.den
 |.optr t=>t.den
 |.st t=>t.den
 |.pr a b=>a.den×b.den
 |.nil=>Unit
 |.dG=>Unit
 |.mp t=>Option (List (Int×t.den)×Nat)
 |.ey _ t=>Option (List (Int×t.den)×Nat)
def lZ {α:Type} (L:List (Int×Nat×α)) (l:List (Int×α)) (c:Nat):Prop:=
 l.Pairwise (fun a b=>a.1<b.1)/\(L.map fun q=>(q.1,q.2.2)).Perm l/\(L.map fun q=>q.2.1).Nodup/\∀q∈L,q.2.1<c
def cQ:au->List Value->Value
 |.st _,cs=>.agg cs.toArray
 |_,cs=>cs.headD undef
def eI (w:World) (b o:Nat) (cs:List Value):Prop:=∀j v,cs[j]?=some v->w.cell? ⟨b,o+j,none⟩=some v
def kq (w:World) (b lo hi:Nat):Prop:=∀j,lo<=j->j<hi->(w.cell? ⟨b,j,none⟩).isSome=true/\w.frozen? ⟨b,j,none⟩=false
def j0 (w:World) (b:Nat):Option (Array MapEntry×Nat):=match w.heap[b]? with
 |some (.map bK c)=>some (bK,c)
 |_=>none
def df (w w':World) (b:Nat):Prop:=(∀j,w'.cell? ⟨b,j,none⟩=w.cell? ⟨b,j,none⟩/\w'.frozen? ⟨b,j,none⟩=w.frozen? ⟨b,j,none⟩)/\j0 w' b=j0 w b
theorem df.refl (w:World) (b:Nat):df w w b:=⟨fun _=>⟨rfl,rfl⟩,rfl⟩
theorem df.of_heap {w w':World} {b:Nat} (h:w'.heap[b]?=w.heap[b]?):df w w' b:=
 ⟨fun j=>⟨World.cell?_of_block (a:=⟨b,j,none⟩) h,World.frozen?_of_block (a:=⟨b,j,none⟩) h⟩,by unfold j0;rw[h]⟩
def my (w w':World) (b:Nat):Prop:=∀bK c,j0 w b=some (bK,c)->∃es' c',j0 w' b=some (es',c')/\c<=c'/\∀(i:Nat) (e:MapEntry),es'[i]?=some e->e.born<c->∃(j:Nat) (ek:MapEntry),bK[j]?=some ek/\ek.key=e.key/\ek.born=e.born
theorem my.of_eq {w w':World} {b:Nat} (h:j0 w' b=j0 w b):my w w' b:=
 fun bK c ak=>⟨bK,c,h.trans ak,bU _,fun i e aE _=>⟨i,e,aE,rfl,rfl⟩⟩
theorem my.refl (w:World) (b:Nat):my w w b:=.of_eq rfl
theorem my.of_heap {w w':World} {b:Nat} (h:w'.heap[b]?=w.heap[b]?):my w w' b:=.of_eq (df.of_heap h).2
theorem my.trans {w w' afz:World} {b:Nat} (h:my w w' b) (a7:my w' afz b):my w afz b:=fun bK c ak=>by obtain⟨es',c',J,R,ac⟩:=h bK c ak;obtain⟨GW,cw,bk,bD,cm⟩:=a7 es' c' J;refine⟨GW,cw,bk,d8 R bD,fun i e aE hc=>?_⟩;obtain⟨j,ek,aN,aM,bb⟩:=cm i e aE (by omega);obtain⟨s6,aA,b2,bo,a5⟩:=ac j ek aN (by omega);exact⟨s6,aA,b2,bo.trans aM,a5.trans bb⟩
theorem eI.eR {w w':World} {b o:Nat} {cs:List Value} (h:eI w b o cs) (hs:df w w' b):eI w' b o cs:=
 fun j v ao=>by rw[(hs.1 _).1];exact h j v ao
theorem kq.eR {w w':World} {b lo hi:Nat} (h:kq w b lo hi) (hs:df w w' b):kq w' b lo hi:=
 fun j J R=>by rw[(hs.1 _).1,(hs.1 _).2];exact h j J R
def br (M:dE->Nat->Prop) (w:World):(τ:au)->List Value->τ.den->List Nat->Prop
 |.int k,cs,n,fp=>fp=[]/\cs=[.int k n]
 |.bool,cs,b,fp=>fp=[]/\cs=[.bool b]
 |.str,cs,s,fp=>fp=[]/\cs=[.string s]
 |.bM m t,cs,xs,fp=>fp=[]/\∃a cap,cs=[.slice a xs.length cap]/\xs.length<=cap/\(a=none->cap=0)/\(xs=[]\/∃b o,a=some ⟨b,o,none⟩/\M m b/\∀i x,xs[i]?=some x->∃ds,ds.length=t.size/\eI w b (o+i*t.size) ds/\br M w t ds x [])
 |.ptr m t,cs,x,fp=>fp=[]/\match x with
  |none=>cs=[.pointer none]
  |some y=>∃b o ds,cs=[.pointer (some ⟨b,o,none⟩)]/\M m b/\ds.length=t.size/\eI w b o ds/\br M w t ds y []
 |.osl t,cs,xs,fp=>∃a cap,cs=[.slice a xs.length cap]/\((
   a=none/\xs=[]/\cap=0/\fp=[])\/∃(b o:Nat) (dR:List (List Nat)),a=some ⟨b,o,none⟩/\fp=b::dR.flatten/\dR.length=xs.length/\xs.length<=cap/\
   kq w b o (o+cap*t.size)/\∀i x f,xs[i]?=some x->dR[i]?=some f->∃ds,ds.length=t.size/\eI w b (o+i*t.size) ds/\br M w t ds x f)
 |.optr t,cs,y,fp=>∃b o f ds,cs=[.pointer (some ⟨b,o,none⟩)]/\fp=b::f/\ds.length=t.size/\eI w b o ds/\kq w b o (o+t.size)/\br M w t ds y f
 |.st t,cs,x,fp=>br M w t cs x fp
 |.pr a b,cs,x,fp=>∃f1 cE,fp=f1++cE/\br M w a (cs.take a.size) x.1 f1/\br M w b (cs.drop a.size) x.2 cE
 |.nil,cs,_,fp=>fp=[]/\cs=[]
 |.dG,cs,_,_=>cs=[]
 |.mp t,cs,x,fp=>match x with
  |none=>fp=[]/\cs=[.map none]
  |some (l,c)=>∃(b:Nat) (bK:Array MapEntry) (L:List (Int×Nat×t.den)),cs=[.map (some b)]/\fp=[b]/\lZ L l c/\j0 w b=some (bK,c)/\bK.size=L.length/\∀(i:Nat) (q:Int×Nat×t.den),L[i]?=some q->∃ds:List Value,ds.length=t.size/\bK[i]?=some (MapEntry.mk (.int .i64 q.1) (cQ t ds) q.2.1)/\br M w t ds q.2.2 []
 |.ey m t,cs,x,fp=>match x with
  |none=>fp=[]/\cs=[.map none]
  |some (l,c)=>∃(b:Nat) (bK:Array MapEntry) (L:List (Int×Nat×t.den)),cs=[.map (some b)]/\fp=[]/\lZ L l c/\M m b/\j0 w b=some (bK,c)/\bK.size=L.length/\∀(i:Nat) (q:Int×Nat×t.den),L[i]?=some q->∃ds:List Value,ds.length=t.size/\bK[i]?=some (MapEntry.mk (.int .i64 q.1) (cQ t ds) q.2.1)/\br M w t ds q.2.2 []
theorem br.len {M:dE->Nat->Prop} {w:World}:∀{τ:au} {cs:List Value} {x:τ.den} {fp:List Nat},br M w τ cs x fp->cs.length=τ.size
 |.int _,_,_,_,h=>by rw[h.2];rfl
 |.bool,_,_,_,h=>by rw[h.2];rfl
 |.str,_,_,_,h=>by rw[h.2];rfl
 |.bM _ _,_,_,_,h=>by obtain⟨_,a,cap,h,_⟩:=h;rw[h];rfl
 |.ptr _ _,_,x,_,h=>by
  obtain⟨_,h⟩:=h;cases x with
  |none=>simp only at h;rw[h];rfl
  |some y=>obtain⟨b,o,ds,h,_⟩:=h;rw[h];rfl
 |.osl _,_,_,_,h=>by obtain⟨a,cap,h,_⟩:=h;rw[h];rfl
 |.optr _,_,_,_,h=>by obtain⟨a,cap,f,ds,h,_⟩:=h;rw[h];rfl
 |.st t,_,_,_,h=>br.len (τ:=t) h
 |.pr a b,cs,_,_,h=>by obtain⟨f1,cE,_,J,R⟩:=h;have dp:=br.len (τ:=a) J;have l2:=br.len (τ:=b) R;simp only[eW,oO] at dp l2;show cs.length=a.size+b.size;omega
 |.nil,_,_,_,h=>by rw[h.2];rfl
 |.dG,_,_,_,h=>by rw[show _=[] from h];rfl
 |.mp t,_,x,_,h=>by
  cases x with
  |none=>rw[h.2];rfl
  |some q=>obtain⟨b,bK,L,h,_⟩:=h;rw[h];rfl
 |.ey m t,_,x,_,h=>by
  cases x with
  |none=>rw[h.2];rfl
  |some q=>obtain⟨b,bK,L,h,_⟩:=h;rw[h];rfl
theorem br.one {M:dE->Nat->Prop} {w:World}:∀{τ:au} {cs:List Value} {x:τ.den} {fp:List Nat},br M w τ cs x fp->∀v∈cs,v.oneCell'=true
 |.int _,_,_,_,h=>by rw[h.2];simp[Value.oneCell']
 |.bool,_,_,_,h=>by rw[h.2];simp[Value.oneCell']
 |.str,_,_,_,h=>by rw[h.2];simp[Value.oneCell']
 |.bM _ _,_,_,_,h=>by obtain⟨_,a,cap,h,_⟩:=h;rw[h];simp[Value.oneCell']
 |.ptr _ _,_,x,_,h=>by
  obtain⟨_,h⟩:=h;cases x with
  |none=>simp only at h;rw[h];simp[Value.oneCell']
  |some y=>obtain⟨b,o,ds,h,_⟩:=h;rw[h];simp[Value.oneCell']
 |.osl _,_,_,_,h=>by obtain⟨a,cap,h,_⟩:=h;rw[h];simp[Value.oneCell']
 |.optr _,_,_,_,h=>by obtain⟨a,cap,f,ds,h,_⟩:=h;rw[h];simp[Value.oneCell']
 |.st t,_,_,_,h=>br.one (τ:=t) h
 |.pr a b,cs,_,_,h=>by
  obtain⟨f1,cE,_,J,R⟩:=h;have dp:=br.one (τ:=a) J;have l2:=br.one (τ:=b) R;intro v hv;rw[<-oQ a.size cs] at hv;rcases fg.1 hv with hv|hv
  ·exact dp v hv
  ·exact l2 v hv
 |.nil,_,_,_,h=>by rw[h.2];simp
 |.dG,_,_,_,h=>by rw[show _=[] from h];simp
 |.mp t,_,x,_,h=>by
  cases x with
  |none=>rw[h.2];simp[Value.oneCell']
  |some q=>obtain⟨b,bK,L,h,_⟩:=h;rw[h];simp[Value.oneCell']
 |.ey m t,_,x,_,h=>by
  cases x with
  |none=>rw[h.2];simp[Value.oneCell']
  |some q=>obtain⟨b,bK,L,h,_⟩:=h;rw[h];simp[Value.oneCell']
theorem br.mono {M eJ:dE->Nat->Prop} {w w':World} (bF:∀m b,M m b->eJ m b/\df w w' b):∀{τ:au} {cs:List Value} {x:τ.den} {fp:List Nat},br M w τ cs x fp->(∀b∈fp,df w w' b)->br eJ w' τ cs x fp
 |.int _,_,_,_,h,_=>h
 |.bool,_,_,_,h,_=>h
 |.str,_,_,_,h,_=>h
 |.bM m t,_,xs,_,h,_=>by obtain⟨aV,a,cap,J,R,ac,aL⟩:=h;refine⟨aV,a,cap,J,R,ac,aL.imp id ?_⟩;rintro⟨b,o,aC,aa,ab⟩;refine⟨b,o,aC,(bF m b aa).1,fun i x hi=>?_⟩;obtain⟨ds,cK,cG,c9⟩:=ab i x hi;exact⟨ds,cK,cG.eR (bF m b aa).2,br.mono bF c9 (by simp)⟩
 |.ptr m t,_,x,_,h,_=>by
  obtain⟨aV,h⟩:=h;refine⟨aV,?_⟩;cases x with
  |none=>exact h
  |some y=>
   obtain⟨b,o,ds,J,R,ac,aL,aY⟩:=h;exact⟨b,o,ds,J,(bF m b R).1,ac,aL.eR (bF m b R).2,br.mono bF aY (by simp)⟩
 |.osl t,_,xs,fp,h,aH=>by obtain⟨a,cap,J,R⟩:=h;refine⟨a,cap,J,R.imp id ?_⟩;rintro⟨b,o,dR,aC,ou,ai,hc,h0,ab⟩;have aa:df w w' b:=aH b (by rw[ou];simp);refine⟨b,o,dR,aC,ou,ai,hc,h0.eR aa,fun i x f hi ZR=>?_⟩;obtain⟨ds,cK,cG,c9⟩:=ab i x f hi ZR;refine⟨ds,cK,cG.eR aa,br.mono bF c9 (fun c hc=>aH c ?_)⟩;rw[ou];exact gC _ (lw.2 ⟨f,oP ZR,hc⟩)
 |.optr t,_,_,_,h,aH=>by obtain⟨b,o,f,ds,J,R,ac,aL,aY,bG⟩:=h;have aa:df w w' b:=aH b (by rw[R];simp);exact⟨b,o,f,ds,J,R,ac,aL.eR aa,aY.eR aa,br.mono bF bG (fun c hc=>aH c (by rw[R];exact gC _ hc))⟩
 |.st t,_,_,_,h,aH=>br.mono (τ:=t) bF h aH
 |.pr a b,cs,_,_,h,aH=>by obtain⟨f1,cE,ou,J,R⟩:=h;exact⟨f1,cE,ou,br.mono (τ:=a) bF J (fun c hc=>aH c (by rw[ou];exact sl _ hc)),br.mono (τ:=b) bF R (fun c hc=>aH c (by rw[ou];exact pI _ hc))⟩
 |.nil,_,_,_,h,_=>h
 |.dG,_,_,_,h,_=>h
 |.mp t,_,x,fp,h,aH=>by
  cases x with
  |none=>exact h
  |some q=>
   obtain⟨b,bK,L,J,R,e4,ac,aL,aY⟩:=h;refine⟨b,bK,L,J,R,e4,(aH b (by rw[R];simp)).2.trans ac,aL,fun i q hi=>?_⟩;obtain⟨ds,cK,cG,c9⟩:=aY i q hi;exact⟨ds,cK,cG,br.mono bF c9 (by simp)⟩
 |.ey m t,_,x,fp,h,aH=>by
  cases x with
  |none=>exact h
  |some q=>
   obtain⟨b,bK,L,J,R,e4,aa,ac,aL,aY⟩:=h;refine⟨b,bK,L,J,R,e4,(bF m b aa).1,(bF m b aa).2.2.trans ac,aL,fun i q hi=>?_⟩;obtain⟨ds,cK,cG,c9⟩:=aY i q hi;exact⟨ds,cK,cG,br.mono bF c9 (by simp)⟩
def au.f5:au->Bool
 |.dG=>false
 |.bM _ t|.ptr _ t|.osl t|.optr t|.st t|.mp t|.ey _ t=>t.f5
 |.pr a b=>a.f5&&b.f5
 |_=>true
theorem br.uniq {M:dE->Nat->Prop} {w:World}:∀{τ:au} {cs:List Value} {x y:τ.den} {f g:List Nat},τ.f5=true->br M w τ cs x f->br M w τ cs y g->f=g
 |.int _,_,_,_,_,_,_,h,a7=>h.1.trans a7.1.symm
 |.bool,_,_,_,_,_,_,h,a7=>h.1.trans a7.1.symm
 |.str,_,_,_,_,_,_,h,a7=>h.1.trans a7.1.symm
 |.bM _ _,_,_,_,_,_,_,h,a7=>h.1.trans a7.1.symm
 |.ptr _ _,_,_,_,_,_,_,h,a7=>h.1.trans a7.1.symm
 |.nil,_,_,_,_,_,_,h,a7=>h.1.trans a7.1.symm
 |.dG,_,_,_,_,_,aa,_,_=>by cases aa
 |.ey m t,cs,x,y,f,g,_,h,a7=>by
  have e:∀{x:(au.ey m t).den} {f:List Nat},br M w (.ey m t) cs x f->f=[]:=fun{x f} h=>by
   cases x with
   |none=>exact h.1
   |some q=>obtain⟨b,bK,L,_,R,_⟩:=h;exact R
  rw[e h,e a7]
 |.mp t,_,x,y,_,_,_,h,a7=>by
  cases x with
  |none=>
   cases y with
   |none=>exact h.1.trans a7.1.symm
   |some f7=>
    obtain⟨b,bK,L,J,_⟩:=a7;have:=h.2.symm.trans J;simp at this
  |some q=>
   obtain⟨b,bK,L,J,R,_⟩:=h;cases y with
   |none=>
    have:=J.symm.trans a7.2;simp at this
   |some f7=>
    obtain⟨c3,es',iu,oj,MM,_⟩:=a7;have:=J.symm.trans oj;simp only[hL,Value.map.injEq,cS,and_true] at this;rw[R,MM,this]
 |.st t,_,_,_,_,_,aa,h,a7=>br.uniq (τ:=t) aa h a7
 |.pr a b,_,_,_,_,_,aa,h,a7=>by simp only[au.f5,bW] at aa;obtain⟨f1,cE,rfl,J,R⟩:=h;obtain⟨bS,bt,rfl,ac,aL⟩:=a7;rw[br.uniq (τ:=a) aa.1 J ac,br.uniq (τ:=b) aa.2 R aL]
 |.optr t,_,_,_,_,_,aa,h,a7=>by
  obtain⟨b,o,f,ds,J,rfl,ac,aL,_,bG⟩:=h;obtain⟨c3,bR,ij,iT,oj,rfl,Zi,G7,_,jd⟩:=a7;rw[J] at oj;simp only[hL,Value.pointer.injEq,cS,Addr.mk.injEq,and_true] at oj;obtain⟨rfl,rfl⟩:=oj;obtain rfl:ds=iT:=by
   apply jN;intro j;rcases ct j ds.length with ao|ao
   ·have aN:=aL j ds[j] (by simp[ao]);have aM:=G7 j (iT[j]'(by omega)) (by simp)
    rw[aN] at aM;simp only[cS] at aM;rw[cr ao,cr (by omega),aM]
   ·rw[gW ao,gW (by omega)]
  rw[br.uniq (τ:=t) aa bG jd]
 |.osl t,_,x,y,_,_,aa,h,a7=>by
  obtain⟨a,cap,J,R⟩:=h;obtain⟨b9,fW,oj,MM⟩:=a7;rw[J] at oj;simp only[hL,Value.slice.injEq,and_true] at oj;obtain⟨rfl,ai,rfl⟩:=oj;rcases R with⟨rfl,rfl,rfl,rfl⟩|⟨b,o,dR,rfl,rfl,aN,aM,bb,bH⟩
  ·rcases MM with⟨_,rfl,_,rfl⟩|⟨b,o,dR,aV,_⟩
   ·rfl
   ·cases aV
  ·rcases MM with⟨aV,_⟩|⟨c3,bR,Ro,aV,rfl,aBI,aBJ,aBK,awz⟩
   ·cases aV
   ·simp only[cS,Addr.mk.injEq,and_true] at aV;obtain⟨rfl,rfl⟩:=aV;have:dR=Ro:=by
     apply jN;intro j;rcases ct j x.length with ao|ao
     ·have aA:dR[j]?=some (dR[j]'(by omega)):=cr (by omega)
      have aX:Ro[j]?=some (Ro[j]'(by omega)):=cr (by omega)
      obtain⟨ds,cK,cG,c9⟩:=bH j x[j] _ (by simp[ao]) aA;obtain⟨iT,aA4,alK,alL⟩:=awz j (y[j]'(by omega)) _ (by simp) aX
      obtain rfl:ds=iT:=by
       apply jN;intro k;rcases ct k ds.length with ae|ae
       ·have b2:=cG k ds[k] (by simp[ae]);have bo:=alK k (iT[k]'(by omega)) (by simp)
        rw[b2] at bo;simp only[cS] at bo;rw[cr ae,cr (by omega),bo]
       ·rw[gW ae,gW (by omega)]
      rw[aA,aX,br.uniq (τ:=t) aa c9 alL]
     ·rw[gW (by omega),gW (by omega)]
    rw[this]
inductive bB where
 |idx (i:Nat)
 |deref
 |unst
 |fst
 |snd
 deriving DecidableEq
def dD:(τ:au)->τ.den->List bB->(τ':au)->τ'.den->Prop
 |τ,x,[],τ',y=>∃h:τ=τ',h▸x=y
 |.osl t,xs,.idx i::p,τ',y=>∃e,xs[i]?=some e/\dD t e p τ' y
 |.optr t,x,.deref::p,τ',y=>dD t x p τ' y
 |.st t,x,.unst::p,τ',y=>dD t x p τ' y
 |.pr a _,x,.fst::p,τ',y=>dD a x.1 p τ' y
 |.pr _ b,x,.snd::p,τ',y=>dD b x.2 p τ' y
 |_,_,_,_,_=>False
def er:(τ:au)->τ.den->List bB->(τ':au)->τ'.den->τ.den->Prop
 |τ,_,[],τ',y,hS=>∃h:τ=τ',h▸hS=y
 |.osl t,xs,.idx i::p,τ',y,az7=>∃e dI,xs[i]?=some e/\er t e p τ' y dI/\az7=xs.set i dI
 |.optr t,x,.deref::p,τ',y,hS=>er t x p τ' y hS
 |.st t,x,.unst::p,τ',y,hS=>er t x p τ' y hS
 |.pr a _,x,.fst::p,τ',y,hS=>∃dI,er a x.1 p τ' y dI/\hS=(dI,x.2)
 |.pr _ b,x,.snd::p,τ',y,hS=>∃dI,er b x.2 p τ' y dI/\hS=(x.1,dI)
 |_,_,_,_,_,_=>False
theorem dD.f6 {τ:au} {x:τ.den} {τ':au} {y:τ'.den}:dD τ x [] τ' y↔∃h:τ=τ',h▸x=y:=by cases τ<;>exact Iff.rfl
theorem er.f6 {τ:au} {x hS:τ.den} {τ':au} {y:τ'.den}:er τ x [] τ' y hS↔∃h:τ=τ',h▸hS=y:=by cases τ<;>exact Iff.rfl
abbrev Loc:=Option aCv
def bv (w:World):(τ:au)->Loc->List Value->List bB->(τ':au)->Loc->List Value->Prop
 |τ,loc,cs,[],τ',dN,cc=>τ=τ'/\loc=dN/\cs=cc
 |.osl t,_,cs,.idx i::p,τ',dN,cc=>∃b o len cap ds,cs=[.slice (some ⟨b,o,none⟩) len cap]/\i<len/\ds.length=t.size/\eI w b (o+i*t.size) ds/\bv w t (some (b,o+i*t.size)) ds p τ' dN cc
 |.optr t,_,cs,.deref::p,τ',dN,cc=>∃b o ds,cs=[.pointer (some ⟨b,o,none⟩)]/\ds.length=t.size/\eI w b o ds/\bv w t (some (b,o)) ds p τ' dN cc
 |.st t,loc,cs,.unst::p,τ',dN,cc=>bv w t loc cs p τ' dN cc
 |.pr a _,loc,cs,.fst::p,τ',dN,cc=>bv w a loc (cs.take a.size) p τ' dN cc
 |.pr a b,loc,cs,.snd::p,τ',dN,cc=>bv w b (loc.map fun q=>(q.1,q.2+a.size)) (cs.drop a.size) p τ' dN cc
 |_,_,_,_,_,_,_=>False
theorem eI.eq {w:World} {b o:Nat} {cs ds:List Value} (h:eI w b o cs) (a7:eI w b o ds) (ai:cs.length=ds.length):cs=ds:=by
 apply jN;intro j;rcases ct j cs.length with ao|ao
 ·have J:=h j cs[j] (by simp[ao]);have R:=a7 j (ds[j]'(by omega)) (by simp)
  rw[J] at R;simp only[cS] at R;rw[cr ao,cr (by omega),R]
 ·rw[gW ao,gW (by omega)]
theorem bv.ku {w:World}:∀{p:List bB} {τ:au} {loc:Loc} {cs:List Value} {t1 t2:au} {dp l2:Loc} {da cw:List Value},bv w τ loc cs p t1 dp da->bv w τ loc cs p t2 l2 cw->t1=t2/\dp=l2/\da=cw
 |[],τ,loc,cs,_,_,_,_,_,_,J,R=>by simp only[bv] at J R;exact⟨J.1.symm.trans R.1,J.2.1.symm.trans R.2.1,J.2.2.symm.trans R.2.2⟩
 |s::p,τ,loc,cs,_,_,_,_,_,_,J,R=>by
  cases τ<;>cases s<;>simp only[bv] at J R
  case osl.idx t i=>
   obtain⟨b,o,len,cap,ds,aA,_,dp,ch,pn⟩:=J;obtain⟨c3,bR,wF,fW,iT,aX,_,l2,c8,mj⟩:=R;rw[aA] at aX;simp only[hL,Value.slice.injEq,cS,Addr.mk.injEq,and_true] at aX;obtain⟨⟨rfl,rfl⟩,rfl,rfl⟩:=aX;obtain rfl:=ch.eq c8 (by omega);exact bv.ku pn mj
  case optr.deref t=>
   obtain⟨b,o,ds,aA,dp,ch,pn⟩:=J;obtain⟨c3,bR,iT,aX,l2,c8,mj⟩:=R;rw[aA] at aX;simp only[hL,Value.pointer.injEq,cS,Addr.mk.injEq,and_true] at aX;obtain⟨rfl,rfl⟩:=aX;obtain rfl:=ch.eq c8 (by omega);exact bv.ku pn mj
  case st.unst t=>exact bv.ku J R
  case pr.fst a b=>exact bv.ku J R
  case pr.snd a b=>exact bv.ku J R
def xC (w w':World) (loc:Loc) (n:Nat) (b:Nat):Prop:=
 (∀j,(∀o,loc=some (b,o)->j<o\/o+n<=j)->w'.cell? ⟨b,j,none⟩=w.cell? ⟨b,j,none⟩)/\
 (∀j,w'.frozen? ⟨b,j,none⟩=w.frozen? ⟨b,j,none⟩)/\(∀j,(w'.cell? ⟨b,j,none⟩).isSome=(w.cell? ⟨b,j,none⟩).isSome)/\j0 w' b=j0 w b
theorem xC.eR {w w':World} {loc:Loc} {n b:Nat} (h:xC w w' loc n b) (ai:∀o,loc≠some (b,o)):df w w' b:=
 ⟨fun j=>⟨h.1 j (fun o aJ=>absurd aJ (ai o)),h.2.1 j⟩,h.2.2.2⟩
theorem xC.Rq {w w':World} {loc:Loc} {n b lo hi:Nat} (h:xC w w' loc n b) (aH:kq w b lo hi):kq w' b lo hi:=
 fun j J R=>by rw[h.2.1,h.2.2.1];exact aH j J R
def tT (w:World) (loc:Loc) (cs:List Value) (n:Nat):Prop:=∀b o,loc=some (b,o)->eI w b o cs/\kq w b o (o+n)
theorem eI.take {w:World} {b o n:Nat} {cs:List Value} (h:eI w b o cs):eI w b o (cs.take n):=fun j v ao=>by
 rw[zU] at ao;split at ao
 ·exact h j v ao
 ·cases ao
theorem eI.drop {w:World} {b o n:Nat} {cs:List Value} (h:eI w b o cs):eI w b (o+n) (cs.drop n):=fun j v ao=>by rw[n6] at ao;have:=h (n+j) v ao;rwa[<-CU] at this
theorem eI.append {w:World} {b o:Nat} {cs ds:List Value} (h:eI w b o cs) (a7:eI w b (o+cs.length) ds):eI w b o (cs++ds):=fun j v ao=>by
 rw[List.getElem?_append] at ao;split at ao
 ·exact h j v ao
 ·have:=a7 _ v ao;rwa[show o+cs.length+(j-cs.length)=o+j by omega] at this
theorem ayJ {α:Type} {l:List α} {i:Nat} {x:α} (h:l[i]?=some x):∃pre post,l=pre++x::post/\pre.length=i:=by obtain⟨hi,rfl⟩:=fu.1 h;exact⟨l.take i,l.drop (i+1),by rw[List.getElem_cons_drop,oQ],by simp;omega⟩
theorem bv.eR {M:dE->Nat->Prop} {w w':World}:∀{p:List bB} {τ:au} {loc:Loc} {cs:List Value} {x:τ.den} {fp:List Nat} {τ':au} {dN:Loc} {cc:List Value},br M w τ cs x fp->(∀b∈fp,df w w' b)->bv w τ loc cs p τ' dN cc->bv w' τ loc cs p τ' dN cc
 |[],τ,_,_,_,_,_,_,_,_,_,h=>by cases τ<;>exact h
 |s::p,τ,loc,cs,x,fp,τ',dN,cc,hr,hs,h=>by
  cases τ<;>cases s<;>simp only[bv] at h
  case osl.idx t i=>
   obtain⟨b,o,len,cap,ds,rfl,hi,ai,aC,ag⟩:=h;obtain⟨a,fW,J,R⟩:=hr;simp only[hL,Value.slice.injEq,and_true] at J;obtain⟨rfl,rfl,rfl⟩:=J;rcases R with⟨aV,_⟩|⟨c3,bR,dR,aV,rfl,aN,aM,bb,bH⟩
   ·cases aV
   ·simp only[cS,Addr.mk.injEq,and_true] at aV;obtain⟨rfl,rfl⟩:=aV;obtain⟨iT,cK,cG,c9⟩:=bH i x[i] (dR[i]'(by omega)) (by simp[hi]) (by simp)
    obtain rfl:=aC.eq cG (by omega);exact⟨b,o,_,cap,ds,rfl,hi,ai,aC.eR (hs b (by simp)),bv.eR c9 (fun c hc=>hs c (gC _ (lw.2 ⟨_,dy (by omega),hc⟩))) ag⟩
  case optr.deref t=>
   obtain⟨b,o,ds,rfl,ai,aC,ag⟩:=h;obtain⟨c3,bR,ij,iT,oj,rfl,Zi,G7,_,jd⟩:=hr;simp only[hL,Value.pointer.injEq,cS,Addr.mk.injEq,and_true] at oj;obtain⟨rfl,rfl⟩:=oj;obtain rfl:=aC.eq G7 (by omega);exact⟨b,o,ds,rfl,ai,aC.eR (hs b (by simp)),bv.eR jd (fun c hc=>hs c (by simp[hc])) ag⟩
  case st.unst t=>exact bv.eR (τ:=t) hr hs h
  case pr.fst a b=>
   obtain⟨f1,cE,rfl,J,R⟩:=hr;exact bv.eR (τ:=a) J (fun c hc=>hs c (by simp[hc])) h
  case pr.snd a b=>
   obtain⟨f1,cE,rfl,J,R⟩:=hr;exact bv.eR (τ:=b) R (fun c hc=>hs c (by simp[hc])) h
def sS:List bB->Bool
 |[]=>false
 |.idx _::_=>true
 |.deref::_=>true
 |_::p=>sS p
def hd:List bB->List bB->Bool
 |p,[]=>sS p
 |.idx _::p,.idx _::q=>hd p q
 |.deref::p,.deref::q=>hd p q
 |.unst::p,.unst::q=>hd p q
 |.fst::p,.fst::q=>hd p q
 |.snd::p,.snd::q=>hd p q
 |.fst::_,.snd::_=>true
 |.snd::_,.fst::_=>true
 |_,_=>false
theorem bv.qV {w:World} {τ τ':au} {l l':Loc} {cs cc:List Value}:bv w τ l cs [] τ' l' cc↔τ=τ'/\l=l'/\cs=cc:=by cases τ<;>exact Iff.rfl
def mH:List bB->List bB->Bool
 |.deref::p,.deref::q=>mH p q
 |.unst::p,.unst::q=>mH p q
 |.fst::p,.fst::q=>mH p q
 |.snd::p,.snd::q=>mH p q
 |.fst::_,.snd::_=>true
 |.snd::_,.fst::_=>true
 |_,_=>false
theorem AN (q:List bB):mH [] q=false:=by cases q<;>rfl
theorem Mh:∀{p q:List bB},mH p q=true->hd p q=true
 |[],q,h=>by rw[AN] at h;cases h
 |s::p,[],h=>by cases s<;>cases h
 |s::p,s'::q,h=>by cases s<;>cases s'<;>first|(cases h;done)|exact Mh (p:=p) (q:=q) h|rfl
theorem AO:∀{p q:List bB} {τ:au} {x z:τ.den} {oG gA:au} {JJ:oG.den} {dU:gA.den},mH p q=true->er τ x p oG JJ z->dD τ x q gA dU->dD τ z q gA dU
 |[],q,_,_,_,_,_,_,_,h,_,_=>by rw[AN] at h;cases h
 |s::p,[],_,_,_,_,_,_,_,h,_,_=>by cases s<;>cases h
 |s::p,s'::q,τ,x,z,oG,gA,JJ,dU,h,J,R=>by
  cases τ<;>cases s<;>simp only[er] at J<;>cases s'<;>first|(cases h;done)|(simp only[dD] at R;done)|skip
  case optr.deref.deref t=>exact AO (p:=p) (q:=q) (τ:=t) h J R
  case st.unst.unst t=>exact AO (p:=p) (q:=q) (τ:=t) h J R
  case pr.fst.fst a b=>
   obtain⟨e,J,rfl⟩:=J;exact AO (p:=p) (q:=q) (τ:=a) h J R
  case pr.snd.snd a b=>
   obtain⟨e,J,rfl⟩:=J;exact AO (p:=p) (q:=q) (τ:=b) h J R
  case pr.fst.snd a b=>
   obtain⟨e,J,rfl⟩:=J;exact R
  case pr.snd.fst a b=>
   obtain⟨e,J,rfl⟩:=J;exact R
theorem br.sub {M:dE->Nat->Prop} {w:World}:∀{p:List bB} {τ:au} {loc:Loc} {cs:List Value} {x:τ.den} {fp:List Nat} {τ':au} {y:τ'.den} {l':Loc} {c':List Value},br M w τ cs x fp->dD τ x p τ' y->bv w τ loc cs p τ' l' c'->∃f,br M w τ' c' y f/\∀c∈f,c∈fp
 |[],τ,loc,cs,x,fp,τ',y,l',c',hr,aG,ag=>by obtain⟨rfl,rfl⟩:=dD.f6.1 aG;obtain⟨_,_,rfl⟩:=bv.qV.1 ag;exact⟨fp,hr,fun c h=>h⟩
 |s::p,τ,loc,cs,x,fp,τ',y,l',c',hr,aG,ag=>by
  cases τ<;>cases s<;>simp only[dD] at aG<;>simp only[bv] at ag
  case osl.idx t i=>
   obtain⟨e,aE,aG⟩:=aG;obtain⟨c3,bR,wF,fW,iT,J,R,ac,aL,ag⟩:=ag;obtain⟨a,cap,rfl,hr⟩:=hr;rcases hr with⟨_,rfl,_⟩|⟨b,o,dR,rfl,rfl,d2,sT,h0,ab⟩
   ·simp at aE
   have hi:i<x.length:=(fu.1 aE).1;obtain⟨f,aH⟩:∃f,dR[i]?=some f:=⟨dR[i],cr (by omega)⟩;obtain⟨ds,mP,k7,Bg⟩:=ab i e f aE aH;simp only[hL,Value.slice.injEq,cS,Addr.mk.injEq,and_true] at J;obtain⟨⟨rfl,rfl⟩,rfl,rfl⟩:=J;obtain rfl:=aL.eq k7 (by omega);obtain⟨g,bk,bD⟩:=br.sub (p:=p) Bg aG ag;exact⟨g,bk,fun c hc=>gC _ (lw.2 ⟨f,oP aH,bD c hc⟩)⟩
  case optr.deref t=>
   obtain⟨c3,bR,iT,J,ac,aL,ag⟩:=ag;obtain⟨b,o,f,ds,rfl,rfl,mP,k7,h0,Bg⟩:=hr;simp only[hL,Value.pointer.injEq,cS,Addr.mk.injEq,and_true] at J;obtain⟨rfl,rfl⟩:=J;obtain rfl:=aL.eq k7 (by omega);obtain⟨g,bk,bD⟩:=br.sub (p:=p) Bg aG ag;exact⟨g,bk,fun c hc=>gC _ (bD c hc)⟩
  case st.unst t=>exact br.sub (p:=p) (τ:=t) hr aG ag
  case pr.fst ta tb=>
   obtain⟨f1,cE,rfl,J,R⟩:=hr;obtain⟨g,bk,bD⟩:=br.sub (p:=p) J aG ag;exact⟨g,bk,fun c hc=>sl _ (bD c hc)⟩
  case pr.snd ta tb=>
   obtain⟨f1,cE,rfl,J,R⟩:=hr;obtain⟨g,bk,bD⟩:=br.sub (p:=p) R aG ag;exact⟨g,bk,fun c hc=>pI _ (bD c hc)⟩
theorem G3 {M:dE->Nat->Prop} {w:World}:∀(p:List bB) {τ:au} {loc:Loc} {cs:List Value} {x:τ.den} {fp:List Nat} {τ':au} {y:τ'.den},br M w τ cs x fp->tT w loc cs τ.size->fp.Nodup->(∀b o,loc=some (b,o)->b∉fp/\∀m,¬M m b)->(∀b∈fp,∀m,¬M m b)->dD τ x p τ' y->∃dN cc hq dT,bv w τ loc cs p τ' dN cc/\br M w τ' cc y hq/\tT w dN cc τ'.size/\fp.Perm (hq++dT)/\(∀gj ea,dN=some (gj,ea)->(∃o,loc=some (gj,o)/\o<=ea/\ea+τ'.size<=o+τ.size)\/gj∈dT)/\(∀(
   w':World) (eJ:dE->Nat->Prop) (iR:List Value) (dU:τ'.den) (nz:List Nat) (kp:τ.den),
   (∀m b,M m b->eJ m b)->(∀b,(∃m,M m b)\/b∈dT\/(∃o,loc=some (b,o))->xC w w' dN τ'.size b)->
   br eJ w' τ' iR dU nz->(dN=none->p≠[]->iR=cc)->(∀b o,dN=some (b,o)->eI w' b o iR)->er τ x p τ' dU kp->
   ∃fD ma,br eJ w' τ fD kp ma/\(p=[]->fD=iR)/\(loc=none->(dN≠none\/iR=cc)->fD=cs)/\(∀b o,loc=some (b,o)->eI w' b o fD)/\ma.Perm (nz++dT)/\bv w' τ loc fD p τ' dN iR/\∀(q:List bB) (gV:au) (hF:Loc) (gQ:List Value),hd p q=true->bv w τ loc cs q gV hF gQ->bv w' τ loc fD q gV hF gQ)/\
  (∀(q:List bB) (gA:au) (dU:gA.den) (l2:Loc) (cw:List Value) (cE:List Nat),mH p q=true->gA.f5=true->dD τ x q gA dU->bv w τ loc cs q gA l2 cw->br M w gA cw dU cE->∀c∈cE,c∈dT/\∀gj ea,dN=some (gj,ea)->c≠gj):=by
 intro p
 induction p with
 |nil=>
  intro τ loc cs x fp τ' y hr ai ag aa ak aG;obtain⟨rfl,rfl⟩:=dD.f6.1 aG;refine⟨loc,cs,fp,[],(by cases τ<;>exact⟨rfl,rfl,rfl⟩),hr,ai,by simp,fun gj ea h=>.inl ⟨ea,h,by omega,by omega⟩,?_,fun q _ _ _ _ _ h=>by rw[AN] at h;cases h⟩;intro w' eJ iR dU nz kp _ _ fm _ R hs;obtain⟨_,rfl⟩:=er.f6.1 hs;exact⟨iR,nz,fm,fun _=>rfl,fun aV h=>h.resolve_left (fun q=>q aV),R,by simp,(by cases τ<;>exact⟨rfl,rfl,rfl⟩),fun q _ _ _ ae=>by cases q<;>simp[hd,sS] at ae⟩
 |cons s p aZ=>
  intro τ loc cs x fp τ' y hr ai ag aa ak aG;cases τ<;>cases s<;>simp only[dD] at aG
  case osl.idx t i=>
   obtain⟨e,aE,aG⟩:=aG;obtain⟨a,cap,rfl,hr⟩:=hr;rcases hr with⟨_,rfl,_⟩|⟨b,o,dR,rfl,rfl,d2,sT,h0,ab⟩
   ·simp at aE
   have hi:i<x.length:=(fu.1 aE).1;obtain⟨f,aH⟩:∃f,dR[i]?=some f:=⟨dR[i],cr (by omega)⟩;obtain⟨ds,mP,k7,Bg⟩:=ab i e f aE aH;obtain⟨pre,post,yu,qH⟩:=ayJ aH;have DV:∀k,k<x.length->o+k*t.size+t.size<=o+cap*t.size:=fun k ae=>(by have:(k+1)*t.size<=cap*t.size:=jQ _ (by omega);rw[ie,lx] at this;omega);have gp:tT w (some (b,o+i*t.size)) ds t.size:=(by rintro c3 bR h;simp only[cS,gX] at h;obtain⟨rfl,rfl⟩:=h;exact⟨k7,fun j J R=>h0 j (by omega) (by have:=DV i hi;omega)⟩);have eA:=ag;rw[yu] at eA;simp only[vq,lu,mB,kL,fg,not_or] at eA;obtain⟨⟨DP,je,ZE⟩,lI,⟨h1,o9,apO⟩,apP⟩:=eA;obtain⟨dN,cc,hq,dT,bS,bt,cY,c7,g0,kx,oi⟩:=aZ (loc:=some (b,o+i*t.size)) Bg gp h1 (by rintro c3 bR h;simp only[cS,gX] at h;obtain⟨rfl,rfl⟩:=h;exact⟨je,ak b (by simp)⟩) (fun c hc=>ak c (by rw[yu];simp[hc])) aG;refine⟨dN,cc,hq,b::(pre.flatten++(dT++post.flatten)),⟨b,o,_,cap,ds,rfl,hi,mP,k7,bS⟩,bt,cY,?_,?_,?_,fun q _ _ _ _ _ h=>by cases q with|nil=>cases h|cons s' q=>cases s'<;>cases h⟩
   ·rw[yu];simp only[vq,lu];rw[zX] at c7|-;intro c;have:=c7 c;simp only[zT,List.count_cons] at this|-;omega
   ·intro gj ea h;right;rcases g0 gj ea h with⟨bR,J,_⟩|J
    ·simp only[cS,gX] at J;rw[J.1];simp
    ·simp[J]
   ·intro w' eJ iR dU nz kp rA iD fm sX kh hs;simp only[er] at hs;obtain⟨ek,dI,DS,hs,rfl⟩:=hs;obtain rfl:ek=e:=(by rw[aE] at DS;exact(fH DS).symm);obtain⟨fD,ma,bk,_,_,bD,cm,kW,iG⟩:=kx w' eJ iR dU nz dI rA (by
      rintro c (h|h|⟨bR,h⟩)
      ·exact iD c (.inl h)
      ·exact iD c (.inr (.inl (by simp[h])))
      ·simp only[cS,gX] at h;exact iD c (.inr (.inl (by rw[<-h.1];simp)))) fm
     (by
      intro aV aw;exact sX aV (by simp)) kh hs
    have rD:∀gj ea,dN=some (gj,ea)->(gj=b/\o+i*t.size<=ea/\ea+τ'.size<=o+i*t.size+t.size)\/gj∈f:=by
     intro gj ea h;rcases g0 gj ea h with⟨bR,J,R,ac⟩|J
     ·simp only[cS,gX] at J;obtain⟨rfl,rfl⟩:=J;exact .inl ⟨rfl,R,ac⟩
     ·exact .inr (c7.mem_iff.2 (by simp[J]))
    have ys:=iD b (.inr (.inl (by simp)));have o5:∀m c,M m c->eJ m c/\df w w' c:=fun m c hc=>⟨rA m c hc,(iD c (.inl ⟨m,hc⟩)).eR (fun bR h=>by
     rcases rD c bR h with⟨rfl,_⟩|J
     ·exact ak c (by simp) m hc
     ·exact ak c (by rw[yu];simp[J]) m hc)⟩
    have aad:∀(k:Nat) (z:t.den) (g:List Nat),k≠i->x[k]?=some z->dR[k]?=some g->∀vV:List Value,vV.length=t.size->eI w b (o+k*t.size) vV->eI w' b (o+k*t.size) vV/\∀c∈g,df w w' c:=by
     intro k z g pV ae kz vV iH fE;have aBr:k<x.length:=(fu.1 ae).1;have Sd:∀c∈g,c∈pre.flatten\/c∈post.flatten:=by
      intro c hc;rw[yu] at kz;rcases ct k pre.length with h|h
      ·rw[sk h] at kz;exact .inl (lw.2 ⟨g,oP kz,hc⟩)
      ·rw[tR h] at kz;obtain⟨q,aj⟩:∃q,k-pre.length=q+1:=⟨k-pre.length-1,by omega⟩;rw[aj] at kz;simp only[vr] at kz;exact .inr (lw.2 ⟨g,oP kz,hc⟩)
     refine⟨?_,?_⟩
     ·intro j v ao;have lH:j<vV.length:=(fu.1 ao).1;rw[ys.1]
      ·exact fE j v ao
      ·intro ea h;rcases rD b ea h with⟨_,J,R⟩|J
       ·rcases Nat.lt_or_gt_of_ne pV with ca|Hk
        ·left;have:(k+1)*t.size<=i*t.size:=jQ _ (by omega);rw[ie,lx] at this;omega
        ·right;have:(i+1)*t.size<=k*t.size:=jQ _ (by omega);rw[ie,lx] at this;omega
       ·exact absurd J je
     ·intro c hc;refine(iD c (.inr (.inl ?_))).eR ?_
      ·rcases Sd c hc with h|h<;>simp[h]
      ·intro ea h;rcases rD c ea h with⟨rfl,_⟩|J
       ·rcases Sd c hc with h|h
        ·exact DP h
        ·exact ZE h
       ·rcases Sd c hc with h|h
        ·exact apP c h c (.inl J) rfl
        ·exact apO c J c h rfl
    refine⟨[.slice (some ⟨b,o,none⟩) x.length cap],b::(pre++ma::post).flatten,⟨some ⟨b,o,none⟩,cap,by simp,.inr ⟨b,o,pre++ma::post,rfl,rfl,?_,by simpa using sT,ys.Rq h0,?_⟩⟩,by simp,fun _ _=>rfl,?_,?_,⟨b,o,_,cap,fD,rfl,hi,by rw[bk.len],bD b _ rfl,kW⟩,?_⟩
    ·rw[yu] at d2;simpa using d2
    ·intro k z g ae aG;by_cases pV:k=i
     ·subst pV;rw[oN hi] at ae;obtain rfl:=fH ae;rw[tR (by omega),qH,Nat.sub_self] at aG;simp only[lX,cS] at aG;subst aG;exact⟨fD,by rw[bk.len],bD b _ rfl,bk⟩
     ·rw[qk (fun h=>pV h.symm)] at ae;have kz:dR[k]?=some g:=by
       rw[yu];rcases ct k pre.length with h|h
       ·rw[sk h] at aG|-;exact aG
       ·rw[tR h] at aG|-;obtain⟨q,aj⟩:∃q,k-pre.length=q+1:=⟨k-pre.length-1,by omega⟩;rw[aj] at aG|-;simpa using aG
      obtain⟨vV,iH,fE,jg⟩:=ab k z g ae kz;obtain⟨pn,mj⟩:=aad k z g pV ae kz vV iH fE;exact⟨vV,iH,pn,jg.mono o5 mj⟩
    ·intro c3 bR h;have cZ:=(aa c3 bR h).1;refine((ai c3 bR h).1).eR ((iD c3 (.inr (.inr ⟨bR,h⟩))).eR ?_);intro ea a7;rcases rD c3 ea a7 with⟨rfl,_⟩|J
     ·exact cZ (by simp)
     ·exact cZ (by rw[yu];simp[J])
    ·rw[zX] at cm|-;intro c;have:=cm c;simp only[vq,lu,zT,List.count_cons] at this|-;omega
    ·intro q gV hF gQ ae aj;cases q with
     |nil=>exact aj
     |cons s' q=>
      cases s'<;>simp only[hd] at ae<;>first|(cases ae;done)|skip
      rename_i j;obtain⟨c3,bR,wF,fW,gk,J,R,ac,aL,aY⟩:=aj;simp only[hL,Value.slice.injEq,cS,Addr.mk.injEq,and_true] at J;obtain⟨⟨rfl,rfl⟩,rfl,rfl⟩:=J;by_cases o8:j=i
      ·subst o8;obtain rfl:=aL.eq k7 (by omega);exact⟨b,o,_,cap,fD,rfl,R,bk.len,bD b _ rfl,iG q gV hF gQ ae aY⟩
      ·have a2:x[j]?=some x[j]:=cr R;have M2:dR[j]?=some (dR[j]'(by omega)):=cr _
       obtain⟨vV,iH,fE,jg⟩:=ab j _ _ a2 M2;obtain rfl:=aL.eq fE (by omega);obtain⟨pn,mj⟩:=aad j _ _ o8 a2 M2 gk ac aL;exact⟨b,o,_,cap,gk,rfl,R,ac,pn,bv.eR jg mj aY⟩
  case optr.deref t=>
   obtain⟨b,o,f,ds,rfl,rfl,mP,k7,h0,Bg⟩:=hr;simp only[mB] at ag;obtain⟨Bd,apS⟩:=ag;have gp:tT w (some (b,o)) ds t.size:=(by rintro c3 bR h;simp only[cS,gX] at h;obtain⟨rfl,rfl⟩:=h;exact⟨k7,h0⟩);obtain⟨dN,cc,hq,dT,bS,bt,cY,c7,g0,kx,oi⟩:=aZ (loc:=some (b,o)) Bg gp apS (by rintro c3 bR h;simp only[cS,gX] at h;obtain⟨rfl,rfl⟩:=h;exact⟨Bd,ak b (by simp)⟩) (fun c hc=>ak c (by simp[hc])) aG;refine⟨dN,cc,hq,b::dT,⟨b,o,ds,rfl,mP,k7,bS⟩,bt,cY,?_,?_,?_,?_⟩
   rotate_left 3
   ·intro q gA dU l2 cw cE h h1 iE rH fm c hc;cases q with
    |nil=>cases h
    |cons s' q=>
     cases s'<;>first|(cases h;done)|skip
     simp only[bv] at rH;obtain⟨c3,bR,iT,aA,bY,e7,rH⟩:=rH;simp only[hL,Value.pointer.injEq,cS,Addr.mk.injEq,and_true] at aA;obtain⟨rfl,rfl⟩:=aA;obtain rfl:=e7.eq k7 (by omega);obtain⟨aN,aM⟩:=oi q gA dU l2 cw cE h h1 iE rH fm c hc;exact⟨by simp[aN],aM⟩
   ·rw[zX] at c7|-;intro c;have:=c7 c;simp only[zT,List.count_cons] at this|-;omega
   ·intro gj ea h;right;rcases g0 gj ea h with⟨bR,J,_⟩|J
    ·simp only[cS,gX] at J;rw[J.1];simp
    ·simp[J]
   ·intro w' eJ iR dU nz kp rA iD fm sX kh hs;simp only[er] at hs;obtain⟨fD,ma,bk,_,_,bD,cm,kW,iG⟩:=kx w' eJ iR dU nz kp rA (by
      rintro c (h|h|⟨bR,h⟩)
      ·exact iD c (.inl h)
      ·exact iD c (.inr (.inl (by simp[h])))
      ·simp only[cS,gX] at h;exact iD c (.inr (.inl (by rw[<-h.1];simp)))) fm
     (fun aV _=>sX aV (by simp)) kh hs
    have ys:=iD b (.inr (.inl (by simp)));refine⟨[.pointer (some ⟨b,o,none⟩)],b::ma,⟨b,o,ma,fD,rfl,rfl,bk.len,bD b o rfl,ys.Rq h0,bk⟩,by simp,fun _ _=>rfl,?_,?_,⟨b,o,fD,rfl,bk.len,bD b o rfl,kW⟩,?_⟩
    ·intro c3 bR h;have cZ:=(aa c3 bR h).1;refine((ai c3 bR h).1).eR ((iD c3 (.inr (.inr ⟨bR,h⟩))).eR ?_);intro ea a7;rcases g0 c3 ea a7 with⟨hu,J,_⟩|J
     ·simp only[cS,gX] at J;exact cZ (by rw[J.1];simp)
     ·exact cZ (gC _ (c7.mem_iff.2 (by simp[J])))
    ·rw[zX] at cm|-;intro c;have:=cm c;simp only[zT,List.count_cons] at this|-;omega
    ·intro q gV hF gQ ae aj;cases q with
     |nil=>exact aj
     |cons s' q=>
      cases s'<;>simp only[hd] at ae<;>first|(cases ae;done)|skip
      obtain⟨c3,bR,gk,J,ac,aL,aY⟩:=aj;simp only[hL,Value.pointer.injEq,cS,Addr.mk.injEq,and_true] at J;obtain⟨rfl,rfl⟩:=J;obtain rfl:=aL.eq k7 (by omega);exact⟨b,o,fD,rfl,bk.len,bD b o rfl,iG q gV hF gQ ae aY⟩
  case st.unst t=>
   obtain⟨dN,cc,hq,dT,bS,bt,cY,c7,g0,kx,oi⟩:=aZ (loc:=loc) (τ:=t) hr ai ag aa ak aG;refine⟨dN,cc,hq,dT,bS,bt,cY,c7,g0,?_,?_⟩
   rotate_left 1
   ·intro q gA dU l2 cw cE h h1 iE rH fm c hc;cases q with
    |nil=>cases h
    |cons s' q=>
     cases s'<;>first|(cases h;done)|skip
     exact oi q gA dU l2 cw cE h h1 iE rH fm c hc
   intro w' eJ iR dU nz kp rA iD fm sX kh hs;obtain⟨fD,ma,bk,fx,mi,bD,cm,kW,iG⟩:=kx w' eJ iR dU nz kp rA iD fm (fun aV _=>sX aV (by simp)) kh hs;refine⟨fD,ma,bk,by simp,mi,bD,cm,kW,?_⟩;intro q gV hF gQ ae aj;cases q with
   |nil=>
    obtain⟨rfl,rfl,rfl⟩:=bv.qV.1 aj;obtain⟨_,_,e⟩:=bv.qV.1 (iG [] t loc cs (by simpa[hd,sS] using ae) (bv.qV.2 ⟨rfl,rfl,rfl⟩));exact bv.qV.2 ⟨rfl,rfl,e⟩
   |cons s' q=>
    cases s'<;>simp only[hd] at ae<;>first|(cases ae;done)|skip
    exact iG q gV hF gQ ae aj
  case pr.fst ta tb=>
   obtain⟨f1,cE,rfl,J,R⟩:=hr;have dp:=J.len;have l2:=R.len;simp only[eW,oO] at dp l2;have gp:tT w loc (cs.take ta.size) ta.size:=fun b o h=>⟨(ai b o h).1.take,fun j aN aM=>(ai b o h).2 j aN (by show j<o+(ta.size+tb.size);omega)⟩;simp only[kL] at ag;obtain⟨lI,h1,o9⟩:=ag;obtain⟨dN,cc,hq,dT,bS,bt,cY,c7,g0,kx,oi⟩:=aZ (loc:=loc) J gp lI (fun b o h=>⟨fun q=>(aa b o h).1 (by simp[q]),(aa b o h).2⟩) (fun c hc=>ak c (by simp[hc])) aG;refine⟨dN,cc,hq,dT++cE,bS,bt,cY,?_,?_,?_,?_⟩
   rotate_left 3
   ·intro q gA dU l2 cw Rp h fX iE rH fm c hc;cases q with
    |nil=>cases h
    |cons s' q=>
     cases s'<;>first|(cases h;done)|skip
     ·obtain⟨aN,aM⟩:=oi q gA dU l2 cw Rp h fX iE rH fm c hc;exact⟨by simp[aN],aM⟩
     ·obtain⟨g,bk,bD⟩:=br.sub (p:=q) R iE rH;have Be:c∈cE:=bD c (by rw[<-br.uniq fX fm bk];exact hc);refine⟨by simp[Be],fun gj ea aE e=>?_⟩;subst e;rcases g0 c ea aE with⟨bR,aA,_⟩|aA
      ·exact(aa c bR aA).1 (by simp[Be])
      ·exact o9 c (c7.mem_iff.2 (by simp[aA])) c Be rfl
   ·rw[zX] at c7|-;intro c;have:=c7 c;simp only[zT] at this|-;omega
   ·intro gj ea h;rcases g0 gj ea h with⟨bR,aN,aM,bb⟩|aN
    ·exact .inl ⟨bR,aN,aM,by show ea+τ'.size<=bR+(ta.size+tb.size);omega⟩
    ·exact .inr (by simp[aN])
   ·intro w' eJ iR dU nz kp rA iD fm sX kh hs;simp only[er] at hs;obtain⟨dI,hs,rfl⟩:=hs;obtain⟨fD,ma,bk,_,mi,bD,cm,kW,iG⟩:=kx w' eJ iR dU nz dI rA (by
      rintro c (h|h|h)
      ·exact iD c (.inl h)
      ·exact iD c (.inr (.inl (by simp[h])))
      ·exact iD c (.inr (.inr h))) fm (fun aV _=>sX aV (by simp)) kh hs
    have rD:∀gj ea,dN=some (gj,ea)->(∃o,loc=some (gj,o)/\o<=ea/\ea+τ'.size<=o+ta.size)\/gj∈f1:=fun gj ea h=>(g0 gj ea h).imp id (fun q=>c7.mem_iff.2 (by simp[q]));have o5:∀m c,M m c->eJ m c/\df w w' c:=fun m c hc=>⟨rA m c hc,(iD c (.inl ⟨m,hc⟩)).eR (fun bR h=>by
     rcases rD c bR h with⟨o,q,_⟩|q
     ·exact(aa c o q).2 m hc
     ·exact ak c (by simp[q]) m hc)⟩
    have aao:∀c∈cE,df w w' c:=fun c hc=>(iD c (.inr (.inl (by simp[hc])))).eR (fun ea h=>by
     rcases rD c ea h with⟨o,q,_⟩|q
     ·exact(aa c o q).1 (by simp[hc])
     ·exact o9 c q c hc rfl)
    have mZ:=bk.len;refine⟨fD++cs.drop ta.size,ma++cE,⟨ma,cE,rfl,?_,?_⟩,by simp,?_,?_,?_,(by
     show bv w' ta loc ((fD++cs.drop ta.size).take ta.size) p τ' dN iR;rw[zY (by omega),dW (by omega)];exact kW),?_⟩
    ·rw[zY (by omega),dW (by omega)];exact bk
    ·rw[vo (by omega),vp (by omega),hk];exact R.mono o5 aao
    ·intro aN aM;rw[mi aN aM,oQ]
    ·intro b o h;refine(bD b o h).append ?_;rw[mZ];intro j v ao;have ys:=iD b (.inr (.inr ⟨o,h⟩));have lH:j<(cs.drop ta.size).length:=(fu.1 ao).1;simp only[oO] at lH;rw[ys.1]
     ·exact((ai b o h).1.drop) j v ao
     ·intro ea a7;rcases rD b ea a7 with⟨hu,aN,aM,bb⟩|q
      ·rw[h] at aN;simp only[cS,gX,true_and] at aN;right;omega
      ·exact absurd (by simp[q]) (aa b o h).1
    ·rw[zX] at cm|-;intro c;have:=cm c;simp only[zT] at this|-;omega
    ·intro q gV hF gQ ae aj;have aA:(fD++cs.drop ta.size).take ta.size=fD:=(by rw[zY (by omega),dW (by omega)]);have aX:(fD++cs.drop ta.size).drop ta.size=cs.drop ta.size:=(by rw[vo (by omega),vp (by omega),hk]);cases q with
     |nil=>
      obtain⟨rfl,rfl,rfl⟩:=bv.qV.1 aj;obtain⟨_,_,e⟩:=bv.qV.1 (iG [] ta loc (cs.take ta.size) (by simpa[hd,sS] using ae) (bv.qV.2 ⟨rfl,rfl,rfl⟩));exact bv.qV.2 ⟨rfl,rfl,by rw[e,oQ]⟩
     |cons s' q=>
      cases s'<;>simp only[hd] at ae<;>first|(cases ae;done)|skip
      ·show bv w' ta loc ((fD++cs.drop ta.size).take ta.size) q gV hF gQ;rw[aA];exact iG q gV hF gQ ae aj
      ·show bv w' tb (loc.map fun q=>(q.1,q.2+ta.size)) ((fD++cs.drop ta.size).drop ta.size) q gV hF gQ;rw[aX];exact bv.eR R aao aj
  case pr.snd ta tb=>
   obtain⟨f1,cE,rfl,J,R⟩:=hr;have dp:=J.len;have l2:=R.len;simp only[eW,oO] at dp l2;have gp:tT w (loc.map fun q=>(q.1,q.2+ta.size)) (cs.drop ta.size) tb.size:=by
    intro b o h;cases loc with
    |none=>simp at h
    |some q=>
     obtain⟨ua,lO⟩:=q;simp only[hC,cS,gX] at h;obtain⟨rfl,rfl⟩:=h;exact⟨(ai _ _ rfl).1.drop,fun j aN aM=>(ai _ _ rfl).2 j (by omega) (by show j<lO+(ta.size+tb.size);omega)⟩
   simp only[kL] at ag;obtain⟨lI,h1,o9⟩:=ag;have je:∀b o,(loc.map fun q=>(q.1,q.2+ta.size))=some (b,o)->∃lO,loc=some (b,lO)/\o=lO+ta.size:=by
    intro b o h;cases loc with
    |none=>simp at h
    |some q=>
     obtain⟨ua,lO⟩:=q;simp only[hC,cS,gX] at h;exact⟨lO,by rw[h.1],h.2.symm⟩
   obtain⟨dN,cc,hq,dT,bS,bt,cY,c7,g0,kx,oi⟩:=aZ (loc:=loc.map fun q=>(q.1,q.2+ta.size)) R gp h1 (fun b o h=>by obtain⟨lO,h,_⟩:=je b o h;exact⟨fun q=>(aa b lO h).1 (by simp[q]),(aa b lO h).2⟩) (fun c hc=>ak c (by simp[hc])) aG;refine⟨dN,cc,hq,dT++f1,bS,bt,cY,?_,?_,?_,?_⟩
   rotate_left 3
   ·intro q gA dU l2 cw Rp h fX iE rH fm c hc;cases q with
    |nil=>cases h
    |cons s' q=>
     cases s'<;>first|(cases h;done)|skip
     ·obtain⟨g,bk,bD⟩:=br.sub (p:=q) J iE rH;have Be:c∈f1:=bD c (by rw[<-br.uniq fX fm bk];exact hc);refine⟨by simp[Be],fun gj ea aE e=>?_⟩;subst e;rcases g0 c ea aE with⟨bR,aA,_⟩|aA
      ·obtain⟨lO,aX,_⟩:=je _ _ aA;exact(aa c lO aX).1 (by simp[Be])
      ·exact o9 c Be c (c7.mem_iff.2 (by simp[aA])) rfl
     ·obtain⟨aN,aM⟩:=oi q gA dU l2 cw Rp h fX iE rH fm c hc;exact⟨by simp[aN],aM⟩
   ·rw[zX] at c7|-;intro c;have:=c7 c;simp only[zT] at this|-;omega
   ·intro gj ea h;rcases g0 gj ea h with⟨bR,aN,aM,bb⟩|aN
    ·obtain⟨lO,bH,rfl⟩:=je _ _ aN;exact .inl ⟨lO,bH,by omega,by show ea+τ'.size<=lO+(ta.size+tb.size);omega⟩
    ·exact .inr (by simp[aN])
   ·intro w' eJ iR dU nz kp rA iD fm sX kh hs;simp only[er] at hs;obtain⟨dI,hs,rfl⟩:=hs;obtain⟨fD,ma,bk,_,mi,bD,cm,kW,iG⟩:=kx w' eJ iR dU nz dI rA (by
      rintro c (h|h|⟨o,h⟩)
      ·exact iD c (.inl h)
      ·exact iD c (.inr (.inl (by simp[h])))
      ·obtain⟨lO,bH,rfl⟩:=je _ _ h;exact iD c (.inr (.inr ⟨lO,bH⟩))) fm (fun aV _=>sX aV (by simp)) kh hs
    have rD:∀gj ea,dN=some (gj,ea)->(∃o,loc=some (gj,o)/\o+ta.size<=ea/\ea+τ'.size<=o+ta.size+tb.size)\/gj∈cE:=fun gj ea h=>by
     rcases g0 gj ea h with⟨bR,aN,aM,bb⟩|q
     ·obtain⟨lO,bH,rfl⟩:=je _ _ aN;exact .inl ⟨lO,bH,aM,bb⟩
     ·exact .inr (c7.mem_iff.2 (by simp[q]))
    have o5:∀m c,M m c->eJ m c/\df w w' c:=fun m c hc=>⟨rA m c hc,(iD c (.inl ⟨m,hc⟩)).eR (fun bR h=>by
     rcases rD c bR h with⟨o,q,_⟩|q
     ·exact(aa c o q).2 m hc
     ·exact ak c (by simp[q]) m hc)⟩
    have aan:∀c∈f1,df w w' c:=fun c hc=>(iD c (.inr (.inl (by simp[hc])))).eR (fun ea h=>by
     rcases rD c ea h with⟨o,q,_⟩|q
     ·exact(aa c o q).1 (by simp[hc])
     ·exact o9 c hc c q rfl)
    have mZ:=bk.len;refine⟨cs.take ta.size++fD,f1++ma,⟨f1,ma,rfl,?_,?_⟩,by simp,?_,?_,?_,(by
     show bv w' tb (loc.map fun q=>(q.1,q.2+ta.size)) ((cs.take ta.size++fD).drop ta.size) p τ' dN iR;rw[vo (by simp;omega),vp (by simp;omega),hk];exact kW),?_⟩
    ·rw[zY (by simp;omega),List.take_take,Nat.min_self];exact J.mono o5 aan
    ·rw[vo (by simp;omega),vp (by simp;omega),hk];exact bk
    ·intro aN aM;rw[mi (by rw[aN];rfl) aM,oQ]
    ·intro b o h;have ys:=iD b (.inr (.inr ⟨o,h⟩));have aC:eI w' b o (cs.take ta.size):=by
      intro j v ao;have lH:j<(cs.take ta.size).length:=(fu.1 ao).1;simp only[eW] at lH;rw[ys.1]
      ·exact((ai b o h).1.take) j v ao
      ·intro ea a7;rcases rD b ea a7 with⟨hu,aN,aM,bb⟩|q
       ·rw[h] at aN;simp only[cS,gX,true_and] at aN;left;omega
       ·exact absurd (by simp[q]) (aa b o h).1
     refine aC.append ?_;have:=bD b (o+ta.size) (by rw[h];rfl);rwa[eW,hU (by omega)]
    ·rw[zX] at cm|-;intro c;have:=cm c;simp only[zT] at this|-;omega
    ·intro q gV hF gQ ae aj;have aA:(cs.take ta.size++fD).take ta.size=cs.take ta.size:=(by rw[zY (by simp;omega),List.take_take,Nat.min_self]);have aX:(cs.take ta.size++fD).drop ta.size=fD:=(by rw[vo (by simp;omega),vp (by simp;omega),hk]);cases q with
     |nil=>
      obtain⟨rfl,rfl,rfl⟩:=bv.qV.1 aj;obtain⟨_,_,e⟩:=bv.qV.1 (iG [] tb (loc.map fun q=>(q.1,q.2+ta.size)) (cs.drop ta.size) (by simpa[hd,sS] using ae) (bv.qV.2 ⟨rfl,rfl,rfl⟩));exact bv.qV.2 ⟨rfl,rfl,by rw[e,oQ]⟩
     |cons s' q=>
      cases s'<;>simp only[hd] at ae<;>first|(cases ae;done)|skip
      ·show bv w' ta loc ((cs.take ta.size++fD).take ta.size) q gV hF gQ;rw[aA];exact bv.eR J aan aj
      ·show bv w' tb (loc.map fun q=>(q.1,q.2+ta.size)) ((cs.take ta.size++fD).drop ta.size) q gV hF gQ;rw[aX];exact iG q gV hF gQ ae aj
theorem Mz {M:dE->Nat->Prop} {w:World} (p:List bB) {τ:au} {loc:Loc} {cs:List Value} {x:τ.den} {fp:List Nat} {τ':au} {y:τ'.den} (J:br M w τ cs x fp) (R:tT w loc cs τ.size) (ac:fp.Nodup) (aL:∀b o,loc=some (b,o)->b∉fp/\∀m,¬M m b) (aY:∀b∈fp,∀m,¬M m b) (bG:dD τ x p τ' y):∃dN cc hq dT,bv w τ loc cs p τ' dN cc/\br M w τ' cc y hq/\tT w dN cc τ'.size/\fp.Perm (hq++dT)/\(∀gj ea,dN=some (gj,ea)->(∃o,loc=some (gj,o)/\o<=ea/\ea+τ'.size<=o+τ.size)\/gj∈dT)/\(∀(
   w':World) (eJ:dE->Nat->Prop) (iR:List Value) (dU:τ'.den) (nz:List Nat) (kp:τ.den),
   (∀m b,M m b->eJ m b)->(∀b,(∃m,M m b)\/b∈dT\/(∃o,loc=some (b,o))->xC w w' dN τ'.size b)->
   br eJ w' τ' iR dU nz->(dN=none->p≠[]->iR=cc)->(∀b o,dN=some (b,o)->eI w' b o iR)->er τ x p τ' dU kp->
   ∃fD ma,br eJ w' τ fD kp ma/\(p=[]->fD=iR)/\(loc=none->(dN≠none\/iR=cc)->fD=cs)/\(∀b o,loc=some (b,o)->eI w' b o fD)/\ma.Perm (nz++dT)/\bv w' τ loc fD p τ' dN iR/\∀(q:List bB) (gV:au) (hF:Loc) (gQ:List Value),hd p q=true->bv w τ loc cs q gV hF gQ->bv w' τ loc fD q gV hF gQ):=by
 obtain⟨dN,cc,hq,dT,bS,bt,cY,c7,g0,kx,_⟩:=G3 p J R ac aL aY bG;exact⟨dN,cc,hq,dT,bS,bt,cY,c7,g0,kx⟩
def bP (I B:Nat->Prop):dE->Nat->Prop
 |.cL=>I
 |.eN=>fun b=>I b\/B b
theorem qQ {I B:Nat->Prop} {m:dE} {b:Nat} (h:bP I B m b):I b\/B b:=by cases m;exact .inl h;exact h
inductive ax where
 |dead
 |val (τ:au) (x:τ.den)
 |ref (id:Nat) (p:List bB)
 |addr (id:Nat) (p:List bB)
 |view (id:Nat) (p:List bB) (lo hi:Nat)
 |app (id:Nat) (p:List bB) (τ:au) (aW:List τ.den) (own:List Nat)
 |dh (v:Value)
 |ei (l:List ax)
 |agg (l:List ax)
 |d1 (f:Nat) (l:List ax)
 |l7 (id:Nat) (p:List bB) (k:Int)
abbrev a6:=(τ:au)×τ.den
structure bj where
 g:List (Nat×ax)
 h:List (Nat×a6)
def aD {α:Type}:List (Nat×α)->Nat->Option α
 |[],_=>none
 |(k,v)::r,n=>bif Nat.beq k n then some v else aD r n
theorem dq {α:Type} (k:Nat) (v:α) (r:List (Nat×α)) (n:Nat):aD ((k,v)::r) n=if k=n then some v else aD r n:=by
 show(bif Nat.beq k n then some v else aD r n)=_;by_cases h:k=n
 ·rw[if_pos h,h];simp
 ·rw[if_neg h];have:Nat.beq k n=false:=by
   cases aa:Nat.beq k n
   ·rfl
   ·exact absurd (fi aa) h
  rw[this];rfl
def gt (g:List (Nat×ax)) (n:Nat):ax:=match aD g n with|some v=>v|none=>.dead
structure eb where
 I0:Nat->Prop
 B:Nat->Prop
 F0:Nat->Prop
 w0:World
 n:Nat
 pin:List Nat
 vs:Nat->Value
def eb.ok (C:eb) (d:Nat):Prop:=d<C.n/\d∉C.pin
inductive cJ (M:dE->Nat->Prop) (w:World) (h:List (Nat×a6)) (rt:Nat->List Value) (fp:Nat->List Nat):ax->Value->Prop
 |dead (v:Value):cJ M w h rt fp .dead v
 |dh (v:Value):cJ M w h rt fp (.dh v) v
 |val {τ:au} {x:τ.den} {cs:List Value} (r:br M w τ cs x []):cJ M w h rt fp (.val τ x) (cQ τ cs)
 |ref {id:Nat} {p:List bB} {t:a6} {τ':au} {loc:Loc} {cs:List Value} (ah:aD h id=some t) (ag:bv w t.1 none (rt id) p τ' loc cs):cJ M w h rt fp (.ref id p) (cQ τ' cs)
 |addr {id:Nat} {p:List bB} {t:a6} {τ':au} {b o:Nat} {cs:List Value} (ah:aD h id=some t) (ag:bv w t.1 none (rt id) p τ' (some (b,o)) cs):cJ M w h rt fp (.addr id p) (.pointer (some ⟨b,o,none⟩))
 |view {id:Nat} {p:List bB} {lo hi:Nat} {t:a6} {τ':au} {loc:Loc} {b o len cap:Nat} (ah:aD h id=some t) (ag:bv w t.1 none (rt id) p (.osl τ') loc [.slice (some ⟨b,o,none⟩) len cap]) (J:lo<=hi) (R:hi<=len) (ac:len<=cap):cJ M w h rt fp (.view id p lo hi) (.slice (some ⟨b,if cap=lo then o else o+lo*τ'.size,none⟩) (hi-lo) (cap-lo))
 |oE (id:Nat) (p:List bB):cJ M w h rt fp (.view id p 0 0) (.slice none 0 0)
 |app {id:Nat} {p:List bB} {τ:au} {aW:List τ.den} {own:List Nat} {t:a6} {loc:Loc} {ks:List Value} {xs:List τ.den} {f1 cE:List Nat} {v:Value} (ah:aD h id=some t) (fX:τ.f5=true) (ag:bv w t.1 none (rt id) p (.osl τ) loc ks) (aG:dD t.1 t.2 p (.osl τ) xs) (J:br M w (.osl τ) ks xs f1) (ky:∀b∈f1,b∈fp id) (R:br M w (.osl τ) [v] (xs++aW) cE) (nI:∀i∈own,i≠id/\∃u,aD h i=some u) (fw:∀b∈cE,b∈f1\/∃i∈own,b∈fp i) (eA:cE.Nodup):cJ M w h rt fp (.app id p τ aW own) v
 |ei {l:List ax} {vs:Array Value} (ai:l.length=vs.size) (ay:∀(i:Nat) (a:ax) (v:Value),l[i]?=some a->vs[i]?=some v->cJ M w h rt fp a v):cJ M w h rt fp (.ei l) (.tuple vs)
 |agg {l:List ax} {vs:List Value} (ai:l.length=vs.length) (ay:∀(i:Nat) (a:ax) (v:Value),l[i]?=some a->vs[i]?=some v->cJ M w h rt fp a v):cJ M w h rt fp (.agg l) (.agg (vs.map fun v=>v.cells.toList).flatten.toArray)
 |l7 {id:Nat} {p:List bB} {k:Int} {t:a6} {τ':au} {loc:Loc} {b c i:Nat} {bK:Array MapEntry} {e:MapEntry} (ah:aD h id=some t) (ag:bv w t.1 none (rt id) p (.mp τ') loc [.map (some b)]) (aa:b∈fp id) (ak:j0 w b=some (bK,c)) (hi:bK[i]?=some e) (ae:e.key=.int .i64 k):cJ M w h rt fp (.l7 id p k) (.int .i64 (e.born:Int))
 |d1 {f:Nat} {l:List ax} {vs:Array Value} (ai:l.length=vs.size) (ay:∀(i:Nat) (a:ax) (v:Value),l[i]?=some a->vs[i]?=some v->cJ M w h rt fp a v):cJ M w h rt fp (.d1 f l) (.func (.func f) #[] vs)
structure cx (C:eb) (st:bj) (b3:Array Value) (w:World) (I:Nat->Prop) (rt:Nat->List Value) (fp:Nat->List Nat):Prop where
 n:b3.size=C.n
 i0:∀b,C.I0 b->I b
 i1:∀b,I b->C.I0 b\/C.w0.heap.size<=b\/C.F0 b
 ib:∀b,I b\/C.B b->b<w.heap.size
 tree:∀id t,aD st.h id=some t->br (bP I C.B) w t.1 (rt id) t.2 (fp id)/\(fp id).Nodup/\∀b∈fp id,¬I b/\¬C.B b/\b<w.heap.size/\(C.w0.heap.size<=b\/C.F0 b)
 dis:∀i j t u,aD st.h i=some t->aD st.h j=some u->i≠j->∀b∈fp i,b∉fp j
 tmp:∀k,cJ (bP I C.B) w st.h rt fp (gt st.g k) (b3.getD k undef)
 frame:∀b,b<C.w0.heap.size->¬C.F0 b->w.heap[b]?=C.w0.heap[b]?
 evo:∀b,b<C.w0.heap.size->my C.w0 w b
 size:C.w0.heap.size<=w.heap.size
 os:w.os=C.w0.os
 tape:w.tape=C.w0.tape
 output:w.output=C.w0.output
 pin:∀k∈C.pin,b3.getD k undef=C.vs k
def gD (C:eb) (st:bj) (b3:Array Value) (w:World):Prop:=∃I rt fp,cx C st b3 w I rt fp
structure it (w w':World):Prop where
 os:w'.os=w.os
 tape:w'.tape=w.tape
 output:w'.output=w.output
 size:w.heap.size<=w'.heap.size
 heap:∀b,b<w.heap.size->w'.heap[b]?=w.heap[b]?
theorem it.refl (w:World):it w w:=⟨rfl,rfl,rfl,bU _,fun _ _=>rfl⟩
theorem it.trans {a b c:World} (h:it a b) (k:it b c):it a c:=
 ⟨k.os.trans h.os,k.tape.trans h.tape,k.output.trans h.output,d8 h.size k.size,fun i hi=>(k.heap i (jn hi h.size)).trans (h.heap i hi)⟩
theorem it.drew {a w:World} (h:it a w):it a w.drew:=⟨h.os,h.tape,h.output,h.size,h.heap⟩
theorem it.alloc (w:World) (o:Obj):it w (w.alloc o):=⟨rfl,rfl,rfl,by simp,fun b aa=>by
 show(w.heap.push o)[b]?=_;rw[Fl,if_neg (by omega)]⟩
theorem cJ.mono {M eJ:dE->Nat->Prop} {w w':World} {h a7:List (Nat×a6)} {rt pu:Nat->List Value} {fp hq:Nat->List Nat} (bF:∀m b,M m b->eJ m b/\df w w' b) (ay:∀id t,aD h id=some t->br M w t.1 (rt id) t.2 (fp id)/\∀b∈fp id,df w w' b) {a:ax} {v:Value} (aC:cJ M w h rt fp a v) (ae:∀id t,aD h id=some t->aD a7 id=some t/\pu id=rt id/\hq id=fp id):cJ eJ w' a7 pu hq a v:=by
 induction aC with
 |dead v=>exact .dead v
 |dh v=>exact .dh v
 |val r=>exact .val (r.mono bF (by simp))
 |ref ah ag=>
  obtain⟨bk,bD,_⟩:=ae _ _ ah;exact .ref bk (by rw[bD];exact ag.eR (ay _ _ ah).1 (ay _ _ ah).2)
 |addr ah ag=>
  obtain⟨bk,bD,_⟩:=ae _ _ ah;exact .addr bk (by rw[bD];exact ag.eR (ay _ _ ah).1 (ay _ _ ah).2)
 |oE id p=>exact .oE id p
 |view ah ag J R ac=>
  obtain⟨bk,bD,_⟩:=ae _ _ ah;exact .view bk (by rw[bD];exact ag.eR (ay _ _ ah).1 (ay _ _ ah).2) J R ac
 |@app id p τ aW own t loc ks xs f1 cE v ah fX ag aG J ky R nI fw eA=>
  obtain⟨bk,bD,cm⟩:=ae _ _ ah;obtain⟨hr,hs⟩:=ay _ _ ah;have mb:∀b∈cE,df w w' b:=fun b aa=>by
   rcases fw b aa with aa|⟨i,hi,aa⟩
   ·exact hs b (ky b aa)
   ·obtain⟨_,u,aR⟩:=nI i hi;exact(ay i u aR).2 b aa
  refine .app bk fX (by rw[bD];exact ag.eR hr hs) aG (J.mono bF (fun b aa=>hs b (ky b aa))) (by rw[cm];exact ky) (R.mono bF mb) ?_ ?_ eA
  ·intro i hi;obtain⟨q,u,aR⟩:=nI i hi;exact⟨q,u,(ae i u aR).1⟩
  ·intro b aa;rcases fw b aa with aa|⟨i,hi,aa⟩
   ·exact .inl aa
   ·obtain⟨_,u,aR⟩:=nI i hi;exact .inr ⟨i,hi,by rw[(ae i u aR).2.2];exact aa⟩
 |l7 ah ag aa ak hi Bm=>
  obtain⟨bk,bD,cm⟩:=ae _ _ ah;exact .l7 bk (by rw[bD];exact ag.eR (ay _ _ ah).1 (ay _ _ ah).2) (by rw[cm];exact aa) (by rw[((ay _ _ ah).2 _ aa).2];exact ak) hi Bm
 |ei ai _ aZ=>exact .ei ai (fun i a v J R=>aZ i a v J R)
 |agg ai _ aZ=>exact .agg ai (fun i a v J R=>aZ i a v J R)
 |d1 ai _ aZ=>exact .d1 ai (fun i a v J R=>aZ i a v J R)
def bu (g:List (Nat×ax)):Operand->ax
 |.tmp t=>gt g t
 |.const (.int k n)=>.val (.int k) n
 |.const (.bool b)=>.val .bool b
 |.const (.string s)=>.val .str s
 |.const v=>.dh v
 |.func f=>.d1 f []
 |.global _=>.dead
theorem cJ.int {M:dE->Nat->Prop} {w:World} {h:List (Nat×a6)} {rt:Nat->List Value} {fp:Nat->List Nat} (k:IntKind) (n:Int):cJ M w h rt fp (.val (.int k) n) (.int k n):=
 .val (τ:=.int k) (cs:=[.int k n]) ⟨rfl,rfl⟩
theorem cJ.bool {M:dE->Nat->Prop} {w:World} {h:List (Nat×a6)} {rt:Nat->List Value} {fp:Nat->List Nat} (b:Bool):cJ M w h rt fp (.val .bool b) (.bool b):=
 .val (τ:=.bool) (cs:=[.bool b]) ⟨rfl,rfl⟩
theorem cJ.str {M:dE->Nat->Prop} {w:World} {h:List (Nat×a6)} {rt:Nat->List Value} {fp:Nat->List Nat} (s:ByteArray):cJ M w h rt fp (.val .str s) (.string s):=
 .val (τ:=.str) (cs:=[.string s]) ⟨rfl,rfl⟩
theorem cx.bu {C:eb} {st:bj} {a:Act} {w:World} {I:Nat->Prop} {rt:Nat->List Value} {fp:Nat->List Nat} (h:cx C st a.tmps w I rt fp) (x:Operand):cJ (bP I C.B) w st.h rt fp (bu st.g x) (a.eval x):=by
 cases x with
 |tmp t=>exact h.tmp t
 |const v=>
  cases v<;>simp only[mz.bu,Act.eval]
  case int k n=>exact .int k n
  case bool b=>exact .bool b
  case string s=>exact .str s
  all_goals exact .dh _
 |func f=>exact .d1 (vs:=#[]) (by simp) (by simp)
 |global g=>exact .dead _
theorem lL {α:Type}:∀(l r:List (Nat×α)) (n:Nat),aD (l++r) n=(aD l n).or (aD r n)
 |[],r,n=>by simp[aD]
 |(k,v)::l,r,n=>by rw[mA,dq,dq,lL l r n];split<;>simp
theorem jX (d:Nat) (av:ax) (g:List (Nat×ax)) (k:Nat):gt ((d,av)::g) k=if d=k then av else gt g k:=by unfold gt;rw[dq];by_cases h:d=k<;>simp[h]
theorem cx.put {C:eb} {st:bj} {b3:Array Value} {w:World} {I:Nat->Prop} {rt:Nat->List Value} {fp:Nat->List Nat} (h:cx C st b3 w I rt fp) {d:Nat} (aP:C.ok d) {av:ax} {v:Value} (hv:cJ (bP I C.B) w st.h rt fp av v):cx C ⟨(d,av)::st.g,st.h⟩ (b3.setIfInBounds d v) w I rt fp where
 n:=by simpa using h.n
 i0:=h.i0
 i1:=h.i1
 ib:=h.ib
 tree:=h.tree
 dis:=h.dis
 tmp:=fun k=>by
  show cJ _ _ _ _ _ (gt ((d,av)::st.g) k) _;unfold gt;rw[dq];have hs:d<b3.size:=(by rw[h.n];exact aP.1);by_cases ae:d=k
  ·subst ae;rw[if_pos rfl];have:(b3.setIfInBounds d v).getD d undef=v:=(by simp[Array.getD,hs]);rw[this];exact hv
  ·rw[if_neg ae];have:(b3.setIfInBounds d v).getD k undef=b3.getD k undef:=by
    simp only[JZ,Pv ae]
   rw[this];exact h.tmp k
 frame:=h.frame
 evo:=h.evo
 size:=h.size
 os:=h.os
 tape:=h.tape
 output:=h.output
 pin:=fun k ae=>by have:d≠k:=fun e=>aP.2 (e▸ae);rw[<-h.pin k ae];simp only[JZ,Pv this]
structure CW (C:eb) (st:bj) (w w':World) (I':Nat->Prop) (new:List (Nat×a6)) (rtn:Nat->List Value) (fpn:Nat->List Nat):Prop where
 tree:∀id t,aD new id=some t->aD st.h id=none/\br (bP I' C.B) w' t.1 (rtn id) t.2 (fpn id)/\(fpn id).Nodup/\∀b∈fpn id,w.heap.size<=b/\b<w'.heap.size/\¬I' b
 dis:∀i j t u,aD new i=some t->aD new j=some u->i≠j->∀b∈fpn i,b∉fpn j
theorem CW.nil {C:eb} {st:bj} {w w':World} {I':Nat->Prop} {rtn:Nat->List Value} {fpn:Nat->List Nat}:CW C st w w' I' [] rtn fpn:=
 ⟨(fun _ _ h=>by cases h),(fun _ _ _ _ h=>by cases h)⟩
theorem CW.one {C:eb} {st:bj} {w w':World} {I':Nat->Prop} {id:Nat} {t:a6} {cs:List Value} {f:List Nat} (ag:aD st.h id=none) (hr:br (bP I' C.B) w' t.1 cs t.2 f) (aH:f.Nodup) (aa:∀b∈f,w.heap.size<=b/\b<w'.heap.size/\¬I' b):CW C st w w' I' [(id,t)] (fun _=>cs) (fun _=>f) where
 tree:=fun i u h=>by
  rw[dq] at h;split at h
  ·rename_i e;subst e;obtain rfl:=fH h;exact⟨ag,hr,aH,aa⟩
  ·cases h
 dis:=fun i j t' u J R dJ=>by
  rw[dq] at J R;split at J
  ·split at R
   ·rename_i aA aX;exact absurd (aA.symm.trans aX) dJ
   ·cases R
  ·cases J
def en (new:List (Nat×a6)) {α:Type} (a b:Nat->α):Nat->α:=fun id=>match aD new id with|some _=>a id|none=>b id
theorem cx.ext {C:eb} {st:bj} {b3:Array Value} {w w':World} {I I':Nat->Prop} {rt rtn:Nat->List Value} {fp fpn:Nat->List Nat} (h:cx C st b3 w I rt fp) (aG:it w w') (cU:∀b,I b->I' b) (Bc:∀b,I' b->I b\/(w.heap.size<=b/\b<w'.heap.size)) {new:List (Nat×a6)} (ag:CW C st w w' I' new rtn fpn):cx C ⟨st.g,new++st.h⟩ b3 w' I' (en new rtn rt) (en new fpn fp):=by
 have bF:∀m b,bP I C.B m b->bP I' C.B m b/\df w w' b:=fun m b aa=>by
  refine⟨?_,.of_heap (aG.heap b (h.ib b (qQ aa)))⟩;cases m
  ·exact cU b aa
  ·exact aa.imp (cU b) id
 have pW:∀id t,aD st.h id=some t->aD (new++st.h) id=some t/\en new rtn rt id=rt id/\en new fpn fp id=fp id:=fun id t ah=>by
  have:aD new id=none:=by
   cases ay:aD new id with
   |none=>rfl
   |some u=>have:=(ag.tree id u ay).1;rw[ah] at this;cases this
  refine⟨by rw[lL,this,ah];rfl,by simp[en,this],by simp[en,this]⟩
 have rF:∀id t,aD (new++st.h) id=some t->(aD new id=some t/\en new rtn rt id=rtn id/\en new fpn fp id=fpn id)\/(aD st.h id=some t/\en new rtn rt id=rt id/\en new fpn fp id=fp id):=fun id t ah=>by
  rw[lL] at ah;cases ay:aD new id with
  |none=>rw[ay] at ah;exact .inr ⟨by simpa using ah,by simp[en,ay],by simp[en,ay]⟩
  |some u=>rw[ay] at ah;exact .inl ⟨by simpa using ah,by simp[en,ay],by simp[en,ay]⟩
 have DQ:∀id t,aD st.h id=some t->∀b∈fp id,df w w' b:=fun id t ah b aa=>.of_heap (aG.heap b ((h.tree id t ah).2.2 b aa).2.2.1);refine{n:=h.n,i0:=fun b aa=>cU b (h.i0 b aa),i1:=?_,ib:=?_,tree:=?_,dis:=?_,tmp:=?_,frame:=?_,evo:=fun b aa=>(h.evo b aa).trans (.of_heap (aG.heap b (jn aa h.size))),size:=d8 h.size aG.size,os:=aG.os.trans h.os,tape:=aG.tape.trans h.tape,output:=aG.output.trans h.output,pin:=h.pin}
 ·intro b aa;rcases Bc b aa with aa|⟨aa,_⟩
  ·exact h.i1 b aa
  ·exact .inr (.inl (d8 h.size aa))
 ·intro b aa;rcases aa with aa|aa
  ·rcases Bc b aa with aa|⟨_,aa⟩
   ·exact jn (h.ib b (.inl aa)) aG.size
   ·exact aa
  ·exact jn (h.ib b (.inr aa)) aG.size
 ·intro id t ah;rcases rF id t ah with⟨J,R,ac⟩|⟨J,R,ac⟩
  ·obtain⟨_,aN,aM,bb⟩:=ag.tree id t J;rw[R,ac];refine⟨aN,aM,fun b aa=>?_⟩;obtain⟨b2,bo,a5⟩:=bb b aa;exact⟨a5,fun dZ=>by have:=h.ib b (.inr dZ);omega,bo,.inl (d8 h.size b2)⟩
  ·obtain⟨aN,aM,bb⟩:=h.tree id t J;rw[R,ac];refine⟨aN.mono bF (DQ id t J),aM,fun b aa=>?_⟩;obtain⟨b2,bo,a5,bw⟩:=bb b aa;exact⟨fun cZ=>(Bc b cZ).elim b2 (fun q=>by omega),bo,jn a5 aG.size,bw⟩
 ·intro i j t u hi ao dJ b aa;rcases rF i t hi with⟨J,_,ac⟩|⟨J,_,ac⟩<;>rcases rF j u ao with⟨bk,_,cm⟩|⟨bk,_,cm⟩<;>rw[ac] at aa<;>rw[cm]
  ·exact ag.dis i j t u J bk dJ b aa
  ·intro cZ;have:=((ag.tree i t J).2.2.2 b aa).1;have:=((h.tree j u bk).2.2 b cZ).2.2.1;omega
  ·intro cZ;have:=((ag.tree j u bk).2.2.2 b cZ).1;have:=((h.tree i t J).2.2 b aa).2.2.1;omega
  ·exact h.dis i j t u J bk dJ b aa
 ·intro k;exact(h.tmp k).mono bF (fun id t ah=>⟨(h.tree id t ah).1,DQ id t ah⟩) pW
 ·intro b aa dn;rw[aG.heap b (jn aa h.size)];exact h.frame b aa dn
theorem cx.aob {C:eb} {st:bj} {b3:Array Value} {w w':World} {I:Nat->Prop} {rt:Nat->List Value} {fp:Nat->List Nat} (h:cx C st b3 w I rt fp) (aG:it w w'):cx C st b3 w' I rt fp:=by have:=h.ext (rtn:=rt) (fpn:=fp) aG (fun _ h=>h) (fun _ h=>.inl h) (new:=[]) .nil;exact this
def sx:List (Nat×ax)->bj->Prop
 |[],_=>True
 |(k,av)::r,st=>gt st.g k=av/\sx r st
def sy:List (Nat×a6)->bj->Prop
 |[],_=>True
 |(k,t)::r,st=>aD st.h k=some t/\sy r st
theorem sx.get {r:List (Nat×ax)} {st:bj} (h:sx r st):∀k,gt r k=.dead\/gt r k=gt st.g k:=by
 induction r with
 |nil=>exact fun k=>.inl rfl
 |cons q r aZ=>
  obtain⟨k0,av⟩:=q;intro k;rw[jX];split
  ·rename_i e;subst e;exact .inr h.1.symm
  ·exact aZ h.2 k
theorem sy.get {r:List (Nat×a6)} {st:bj} (h:sy r st):∀k t,aD r k=some t->aD st.h k=some t:=by
 induction r with
 |nil=>intro k t h;cases h
 |cons q r aZ=>
  obtain⟨k0,av⟩:=q;intro k t ah;rw[dq] at ah;split at ah
  ·rename_i e;subst e;rw[<-ah];exact h.1
  ·exact aZ h.2 k t ah
mutual
def ax.ids:ax->List Nat
 |.dead|.val _ _|.dh _=>[]
 |.ref id _|.addr id _|.view id _ _ _|.l7 id _ _=>[id]
 |.app id _ _ _ own=>id::own
 |.ei l|.agg l|.d1 _ l=>ax.rM l
def ax.rM:List ax->List Nat
 |[]=>[]
 |a::r=>a.ids++ax.rM r
end
theorem ax.It {l:List ax} {i:Nat} {a:ax} (h:l[i]?=some a) {id:Nat} (bp:id∈a.ids):id∈ax.rM l:=by
 induction l generalizing i with
 |nil=>simp at h
 |cons x r aZ=>
  simp only[ax.rM,fg];cases i with
  |zero=>simp at h;subst h;exact .inl bp
  |succ i=>simp at h;exact .inr (aZ h)
theorem cJ.y1 {M eJ:dE->Nat->Prop} {w w':World} {h a7:List (Nat×a6)} {rt pu:Nat->List Value} {fp hq:Nat->List Nat} (bF:∀m b,M m b->eJ m b/\df w w' b) {a:ax} {v:Value} (aC:cJ M w h rt fp a v) (ae:∀id∈a.ids,∀t,aD h id=some t->aD a7 id=some t/\pu id=rt id/\hq id=fp id/\br M w t.1 (rt id) t.2 (fp id)/\∀b∈fp id,df w w' b):cJ eJ w' a7 pu hq a v:=by
 induction aC with
 |dead v=>exact .dead v
 |dh v=>exact .dh v
 |val r=>exact .val (r.mono bF (by simp))
 |ref ah ag=>
  obtain⟨bk,bD,_,fx,mi⟩:=ae _ (by simp[ax.ids]) _ ah;exact .ref bk (by rw[bD];exact ag.eR fx mi)
 |addr ah ag=>
  obtain⟨bk,bD,_,fx,mi⟩:=ae _ (by simp[ax.ids]) _ ah;exact .addr bk (by rw[bD];exact ag.eR fx mi)
 |oE id p=>exact .oE id p
 |view ah ag J R ac=>
  obtain⟨bk,bD,_,fx,mi⟩:=ae _ (by simp[ax.ids]) _ ah;exact .view bk (by rw[bD];exact ag.eR fx mi) J R ac
 |@app id p τ aW own t loc ks xs f1 cE v ah fX ag aG J ky R nI fw eA=>
  obtain⟨bk,bD,cm,hr,hs⟩:=ae _ (by simp[ax.ids]) _ ah;have mb:∀b∈cE,df w w' b:=fun b aa=>by
   rcases fw b aa with aa|⟨i,hi,aa⟩
   ·exact hs b (ky b aa)
   ·obtain⟨_,u,aR⟩:=nI i hi;exact(ae i (by simp[ax.ids,hi]) u aR).2.2.2.2 b aa
  refine .app bk fX (by rw[bD];exact ag.eR hr hs) aG (J.mono bF (fun b aa=>hs b (ky b aa))) (by rw[cm];exact ky) (R.mono bF mb) ?_ ?_ eA
  ·intro i hi;obtain⟨q,u,aR⟩:=nI i hi;exact⟨q,u,(ae i (by simp[ax.ids,hi]) u aR).1⟩
  ·intro b aa;rcases fw b aa with aa|⟨i,hi,aa⟩
   ·exact .inl aa
   ·obtain⟨_,u,aR⟩:=nI i hi;exact .inr ⟨i,hi,by rw[(ae i (by simp[ax.ids,hi]) u aR).2.2.1];exact aa⟩
 |l7 ah ag aa ak hi Bm=>
  obtain⟨bk,bD,cm,fx,mi⟩:=ae _ (by simp[ax.ids]) _ ah;exact .l7 bk (by rw[bD];exact ag.eR fx mi) (by rw[cm];exact aa) (by rw[(mi _ aa).2];exact ak) hi Bm
 |ei ai _ aZ=>exact .ei ai (fun i a v J R=>aZ i a v J R (fun id bp=>ae id (ax.It J bp)))
 |agg ai _ aZ=>exact .agg ai (fun i a v J R=>aZ i a v J R (fun id bp=>ae id (ax.It J bp)))
 |d1 ai _ aZ=>exact .d1 ai (fun i a v J R=>aZ i a v J R (fun id bp=>ae id (ax.It J bp)))
theorem cx.FT {C:eb} {st cz:bj} {b3:Array Value} {w:World} {I:Nat->Prop} {rt:Nat->List Value} {fp:Nat->List Nat} (h:cx C st b3 w I rt fp) (aG:sx cz.g st) (ay:sy cz.h st) (bp:∀k,∀id∈(gt cz.g k).ids,(aD cz.h id).isSome=true):cx C cz b3 w I rt fp where
 n:=h.n
 i0:=h.i0
 i1:=h.i1
 ib:=h.ib
 tree:=fun id t ah=>h.tree id t (ay.get id t ah)
 dis:=fun i j t u hi ao=>h.dis i j t u (ay.get i t hi) (ay.get j u ao)
 tmp:=fun k=>by
  rcases aG.get k with e|e
  ·rw[e];exact .dead _
  ·have:=bp k;rw[e] at this|-;refine(h.tmp k).y1 (fun m b aa=>⟨aa,df.refl w b⟩) (fun id hi t ah=>?_);obtain⟨u,aR⟩:=Option.isSome_iff_exists.1 (this id hi);have:=ay.get id u aR;rw[ah] at this;obtain rfl:=fH this;exact⟨aR,rfl,rfl,(h.tree id t ah).1,fun b _=>df.refl w b⟩
 frame:=h.frame
 evo:=h.evo
 size:=h.size
 os:=h.os
 tape:=h.tape
 output:=h.output
 pin:=h.pin
def pg (g:List (Nat×ax)) (h:List (Nat×a6)):Bool:=g.all fun q=>q.2.ids.all fun id=>(aD h id).isSome
theorem pg.get {g:List (Nat×ax)} {h:List (Nat×a6)} (ay:pg g h=true) (k:Nat):∀id∈(gt g k).ids,(aD h id).isSome=true:=by
 intro id bp;unfold gt at bp;cases ae:aD g k with
 |none=>rw[ae] at bp;simp[ax.ids] at bp
 |some av=>
  rw[ae] at bp;have ak:(k,av)∈g:=by
   clear ay bp
   induction g with
   |nil=>cases ae
   |cons q r aZ=>
    obtain⟨k0,a0⟩:=q;rw[dq] at ae;split at ae
    ·rename_i e;subst e;obtain rfl:=fH ae;simp
    ·exact gC _ (aZ ae)
  simp only[pg,fM] at ay;exact ay (k,av) ak id bp
section
mutual
def eB (P:Program):au->TypeId->Prop
 |.int k,T=>∃i,P.info? T=some i/\i.size=1/\i.bytes<=24/\i.zero=some (.int k 0)/\P.underlying T=some (.int k)
 |.bool,T=>∃i,P.info? T=some i/\i.size=1/\i.bytes<=24/\i.zero=some (.bool false)/\P.underlying T=some .bool
 |.str,T=>∃i,P.info? T=some i/\i.size=1/\i.bytes<=24/\i.zero=some (.string ByteArray.empty)/\P.underlying T=some .string
 |.bM _ t,T=>∃i E,P.info? T=some i/\i.size=1/\i.bytes<=24/\i.zero=some (.slice none 0 0)/\P.underlying T=some (.slice E)/\eB P t E
 |.osl t,T=>∃i E,P.info? T=some i/\i.size=1/\i.bytes<=24/\i.zero=some (.slice none 0 0)/\P.underlying T=some (.slice E)/\eB P t E
 |.ptr _ t,T=>∃i E,P.info? T=some i/\i.size=1/\i.bytes<=24/\i.zero=some (.pointer none)/\P.underlying T=some (.pointer E)/\eB P t E
 |.optr t,T=>∃i E,P.info? T=some i/\i.size=1/\i.bytes<=24/\i.zero=some (.pointer none)/\P.underlying T=some (.pointer E)/\eB P t E
 |.st t,T=>0<t.size/\∃i fs zs,P.info? T=some i/\i.size=t.size/\i.bytes<=24*t.size/\i.zero=some (.agg zs)/\P.underlying T=some (.struct fs)/\jL P t fs.toList 0 zs.toList/\zs.size=t.size
 |.mp t,T=>∃i K E,P.info? T=some i/\i.size=1/\i.bytes<=24/\i.zero=some (.map none)/\P.underlying T=some (.map K E)/\P.underlying K=some (.int .i64)/\eB P t E
 |.ey _ t,T=>∃i K E,P.info? T=some i/\i.size=1/\i.bytes<=24/\i.zero=some (.map none)/\P.underlying T=some (.map K E)/\P.underlying K=some (.int .i64)/\eB P t E
 |_,_=>False
def jL (P:Program):au->List Field->Nat->List Value->Prop
 |.pr a b,f::r,off,zs=>f.offset=off/\eB P a f.type/\0<a.size/\(∃i z,P.info? f.type=some i/\i.zero=some z/\zs.take a.size=z.cells.toList)/\jL P b r (off+a.size) (zs.drop a.size)
 |.nil,[],_,zs=>zs=[]
 |_,_,_,_=>False
end
def uK:au->Bool
 |.st _=>true
 |_=>false
structure ajT (P:Program) (τ:au) (T:TypeId) (i:TypeInfo):Prop where
 info:P.info? T=some i
 size:i.size=τ.size
 bytes:i.bytes<=24*τ.size
 pos:0<τ.size
theorem eB.info {P:Program}:∀{τ:au} {T:TypeId},eB P τ T->∃i d,ajT P τ T i/\P.underlying T=some d/\(match d with|.struct _|.array _ _=>true|_=>false)=uK τ
 |.int _,_,⟨i,J,R,ac,_,aY⟩=>⟨i,_,⟨J,R,ac,by simp[au.size]⟩,aY,rfl⟩
 |.bool,_,⟨i,J,R,ac,_,aY⟩=>⟨i,_,⟨J,R,ac,by simp[au.size]⟩,aY,rfl⟩
 |.str,_,⟨i,J,R,ac,_,aY⟩=>⟨i,_,⟨J,R,ac,by simp[au.size]⟩,aY,rfl⟩
 |.bM _ _,_,⟨i,_,J,R,ac,_,aY,_⟩=>⟨i,_,⟨J,R,ac,by simp[au.size]⟩,aY,rfl⟩
 |.osl _,_,⟨i,_,J,R,ac,_,aY,_⟩=>⟨i,_,⟨J,R,ac,by simp[au.size]⟩,aY,rfl⟩
 |.ptr _ _,_,⟨i,_,J,R,ac,_,aY,_⟩=>⟨i,_,⟨J,R,ac,by simp[au.size]⟩,aY,rfl⟩
 |.optr _,_,⟨i,_,J,R,ac,_,aY,_⟩=>⟨i,_,⟨J,R,ac,by simp[au.size]⟩,aY,rfl⟩
 |.st t,_,⟨aV,i,_,_,J,R,ac,_,aY,_⟩=>⟨i,_,⟨J,R,ac,aV⟩,aY,rfl⟩
 |.pr _ _,_,h=>h.elim
 |.nil,_,h=>h.elim
 |.dG,_,h=>h.elim
 |.mp _,_,⟨i,_,_,J,R,ac,_,aY,_⟩=>⟨i,_,⟨J,R,ac,by simp[au.size]⟩,aY,rfl⟩
 |.ey _ _,_,⟨i,_,_,J,R,ac,_,aY,_⟩=>⟨i,_,⟨J,R,ac,by simp[au.size]⟩,aY,rfl⟩
theorem eB.RX {P:Program}:∀{τ:au} {T:TypeId},eB P τ T->∃z,z.cells.size=τ.size/\∀i,P.info? T=some i->i.zero=some z
 |.int _,_,⟨i,J,_,_,aL,_⟩|.bool,_,⟨i,J,_,_,aL,_⟩|.str,_,⟨i,J,_,_,aL,_⟩=>⟨_,rfl,fun j ao=>by rw[J] at ao;cases ao;exact aL⟩
 |.bM _ _,_,⟨i,_,J,_,_,aL,_⟩|.osl _,_,⟨i,_,J,_,_,aL,_⟩|.ptr _ _,_,⟨i,_,J,_,_,aL,_⟩|.optr _,_,⟨i,_,J,_,_,aL,_⟩=>⟨_,rfl,fun j ao=>by rw[J] at ao;cases ao;exact aL⟩
 |.st t,_,⟨aV,i,_,zs,J,R,ac,aL,aY,_,eF⟩=>⟨.agg zs,eF,fun j ao=>by rw[J] at ao;cases ao;exact aL⟩
 |.pr _ _,_,h=>h.elim
 |.nil,_,h=>h.elim
 |.dG,_,h=>h.elim
 |.mp _,_,⟨i,_,_,J,_,_,aL,_⟩=>⟨_,rfl,fun j ao=>by rw[J] at ao;cases ao;exact aL⟩
 |.ey _ _,_,⟨i,_,_,J,_,_,aL,_⟩=>⟨_,rfl,fun j ao=>by rw[J] at ao;cases ao;exact aL⟩
section
variable {P:Program} {τ:au} {T:TypeId}
theorem eB.sizeOf (h:eB P τ T) (w:World):(Go.sizeOf T).run P w=.ok τ.size w:=by obtain⟨i,d,hi,_⟩:=h.info;simp[Go.sizeOf,typeInfo,hi.info,hi.size]
theorem eB.isAgg (h:eB P τ T) (w:World):(Go.isAgg T).run P w=.ok (uK τ) w:=by obtain⟨i,d,hi,aR,aP⟩:=h.info;simp only[Go.isAgg,Sem.run_bind,run_underlying aR,Result.andThen_ok];rw[<-aP];cases d<;>rfl
theorem eB.pos (h:eB P τ T):0<τ.size:=by obtain⟨i,d,hi,_⟩:=h.info;exact hi.pos
theorem Un:∀{τ:au} {T:TypeId},eB P τ T->uK τ=false->τ.size=1
 |.int _,_,_,_|.bool,_,_,_|.str,_,_,_|.bM _ _,_,_,_|.osl _,_,_,_|.ptr _ _,_,_,_|.optr _,_,_,_|.mp _,_,_,_|.ey _ _,_,_,_=>rfl
 |.st _,_,_,h=>by cases h
 |.pr _ _,_,h,_=>h.elim
 |.nil,_,h,_=>h.elim
 |.dG,_,h,_=>h.elim
theorem OH {cs:List Value} (h:uK τ=false):cQ τ cs=cs.headD undef:=by cases τ<;>first|rfl|cases h
theorem OI {cs:List Value} (h:uK τ=true):cQ τ cs=.agg cs.toArray:=by cases τ<;>first|rfl|cases h
theorem tr {cs:List Value} (h:eB P τ T) (ai:cs.length=τ.size) (J:∀v∈cs,v.oneCell'=true):(cQ τ cs).cells=cs.toArray:=by
 cases hs:uK τ with
 |true=>rw[OI hs];rfl
 |false=>
  rw[OH hs];rw[Un h hs] at ai;obtain⟨v,rfl⟩:=CR.1 ai;have:=J v (by simp);cases v<;>first|rfl|(simp[Value.oneCell'] at this)
theorem aet {w:World} {b o:Nat} {cs:List Value} (h:eB P τ T) (aC:eI w b o cs) (ai:cs.length=τ.size):(loadVar T ⟨b,o,none⟩).run P w=.ok (cQ τ cs) w:=by
 simp only[loadVar,Sem.run_bind,h.isAgg,Result.andThen_ok];cases hs:uK τ with
 |true=>
  simp only[if_true,Sem.run_bind,h.sizeOf,Result.andThen_ok];rw[<-ai,run_loadCells_list w ⟨b,o,none⟩ cs (fun j v ao=>by rw[Addr.add_lit];exact aC j v ao)];rw[OI hs];rfl
 |false=>
  rw[Un h hs] at ai;obtain⟨v,rfl⟩:=CR.1 ai;have:=aC 0 v rfl;simp only[ql] at this;rw[OH hs];simp[this]
end
def oF:(τ:au)->Option τ.den
 |.int _=>some (0:Int)
 |.bool=>some false
 |.str=>some ByteArray.empty
 |.bM _ _=>some []
 |.osl _=>some []
 |.ptr _ _=>some none
 |.optr _=>none
 |.st t=>oF t
 |.pr a b=>match oF a,oF b with|some x,some y=>some (x,y)|_,_=>none
 |.nil=>some ()
 |.dG=>none
 |.mp _=>some none
 |.ey _ _=>some none
mutual
theorem CH {P:Program}:∀{τ:au} {T:TypeId} {z:τ.den},eB P τ T->oF τ=some z->∃i iN,P.info? T=some i/\i.zero=some iN/\iN=cQ τ iN.cells.toList/\∀(M:dE->Nat->Prop) (w:World),br M w τ iN.cells.toList z []
 |.int k,_,z,⟨i,J,R,ac,aL,aY⟩,a2=>⟨i,_,J,aL,rfl,fun M w=>by cases a2;exact⟨rfl,rfl⟩⟩
 |.bool,_,z,⟨i,J,R,ac,aL,aY⟩,a2=>⟨i,_,J,aL,rfl,fun M w=>by cases a2;exact⟨rfl,rfl⟩⟩
 |.str,_,z,⟨i,J,R,ac,aL,aY⟩,a2=>⟨i,_,J,aL,rfl,fun M w=>by cases a2;exact⟨rfl,rfl⟩⟩
 |.bM _ _,_,z,⟨i,_,J,R,ac,aL,aY,_⟩,a2=>⟨i,_,J,aL,rfl,fun M w=>by cases a2;exact⟨rfl,none,0,rfl,bU _,fun _=>rfl,.inl rfl⟩⟩
 |.osl _,_,z,⟨i,_,J,R,ac,aL,aY,_⟩,a2=>⟨i,_,J,aL,rfl,fun M w=>by cases a2;exact⟨none,0,rfl,.inl ⟨rfl,rfl,rfl,rfl⟩⟩⟩
 |.ptr _ _,_,z,⟨i,_,J,R,ac,aL,aY,_⟩,a2=>⟨i,_,J,aL,rfl,fun M w=>by cases a2;exact⟨rfl,rfl⟩⟩
 |.optr _,_,_,_,a2=>by cases a2
 |.st t,_,z,⟨_,i,fs,zs,J,R,ac,aL,aY,bG,_⟩,a2=>⟨i,_,J,aL,rfl,fun M w=>afM (τ:=t) bG a2 M w⟩
 |.pr _ _,_,_,h,_=>h.elim
 |.nil,_,_,h,_=>h.elim
 |.dG,_,_,h,_=>h.elim
 |.mp _,_,z,⟨i,_,_,J,R,ac,aL,aY,_⟩,a2=>⟨i,_,J,aL,rfl,fun M w=>by cases a2;exact⟨rfl,rfl⟩⟩
 |.ey _ _,_,z,⟨i,_,_,J,R,ac,aL,aY,_⟩,a2=>⟨i,_,J,aL,rfl,fun M w=>by cases a2;exact⟨rfl,rfl⟩⟩
theorem afM {P:Program}:∀{τ:au} {fs:List Field} {off:Nat} {zs:List Value} {z:τ.den},jL P τ fs off zs->oF τ=some z->∀(M:dE->Nat->Prop) (w:World),br M w τ zs z []
 |.pr a b,f::r,off,zs,z,h,a2,M,w=>by
  obtain⟨J,R,ac,⟨i,iN,aN,aM,bb⟩,aL⟩:=h;simp only[oF] at a2;split at a2
  ·rename_i x y ab aB;cases a2;obtain⟨lf,aBS,b2,bo,_,a5⟩:=CH (τ:=a) R ab;rw[aN] at b2;obtain rfl:=fH b2;rw[aM] at bo;obtain rfl:=fH bo;exact⟨[],[],rfl,by rw[bb];exact a5 M w,afM (τ:=b) aL aB M w⟩
  ·cases a2
 |.nil,[],_,zs,z,h,a2,M,w=>⟨rfl,h⟩
 |.pr _ _,[],_,_,_,h,_,_,_=>h.elim
 |.nil,_::_,_,_,_,h,_,_,_=>h.elim
 |.int _,_,_,_,_,h,_,_,_=>by cases h
 |.bool,_,_,_,_,h,_,_,_=>by cases h
 |.str,_,_,_,_,h,_,_,_=>by cases h
 |.bM _ _,_,_,_,_,h,_,_,_=>by cases h
 |.osl _,_,_,_,_,h,_,_,_=>by cases h
 |.ptr _ _,_,_,_,_,h,_,_,_=>by cases h
 |.optr _,_,_,_,_,h,_,_,_=>by cases h
 |.st _,_,_,_,_,h,_,_,_=>by cases h
 |.dG,_,_,_,_,h,_,_,_=>by cases h
 |.mp _,_,_,_,_,h,_,_,_=>by cases h
 |.ey _ _,_,_,_,_,h,_,_,_=>by cases h
end
def bI:au->au->Bool
 |.int k,.int c0=>if k=c0 then true else false
 |.bool,.bool|.str,.str|.nil,.nil=>true
 |.bM _ t,.bM _ u|.bM _ t,.osl u|.osl t,.bM _ u|.osl t,.osl u=>bI t u
 |.ptr _ t,.ptr _ u|.ptr _ t,.optr u|.optr t,.ptr _ u|.optr t,.optr u=>bI t u
 |.st t,.st u=>bI t u
 |.mp t,.mp u|.mp t,.ey _ u|.ey _ t,.mp u|.ey _ t,.ey _ u=>bI t u
 |.pr a b,.pr c d=>bI a c&&bI b d
 |_,_=>false
theorem bI.size:∀{τ υ:au},bI τ υ=true->τ.size=υ.size:=by
 intro τ
 induction τ with
 |st t aZ=>intro υ h;cases υ<;>simp only[bI] at h<;>first|(simp only[au.size];exact aZ h)|cases h
 |pr a b wy wz=>
  intro υ h;cases υ<;>simp only[bI] at h<;>try (cases h;done)
  simp only[bW] at h;simp only[au.size];rw[wy h.1,wz h.2]
 |_=>intro υ h;cases υ<;>simp[bI] at h<;>simp[au.size]
mutual
theorem eB.lay {P:Program}:∀{τ υ:au} {T:TypeId},bI τ υ=true->eB P τ T->eB P υ T
 |.int k,υ,_,hs,h=>by cases υ<;>simp[bI] at hs;subst hs;exact h
 |.bool,υ,_,hs,h=>by cases υ<;>simp[bI] at hs;exact h
 |.str,υ,_,hs,h=>by cases υ<;>simp[bI] at hs;exact h
 |.bM _ t,υ,_,hs,h=>by obtain⟨i,E,J,R,ac,aL,aY,bG⟩:=h;cases υ<;>simp only[bI] at hs<;>first|exact⟨i,E,J,R,ac,aL,aY,eB.lay hs bG⟩|cases hs
 |.osl t,υ,_,hs,h=>by obtain⟨i,E,J,R,ac,aL,aY,bG⟩:=h;cases υ<;>simp only[bI] at hs<;>first|exact⟨i,E,J,R,ac,aL,aY,eB.lay hs bG⟩|cases hs
 |.ptr _ t,υ,_,hs,h=>by obtain⟨i,E,J,R,ac,aL,aY,bG⟩:=h;cases υ<;>simp only[bI] at hs<;>first|exact⟨i,E,J,R,ac,aL,aY,eB.lay hs bG⟩|cases hs
 |.optr t,υ,_,hs,h=>by obtain⟨i,E,J,R,ac,aL,aY,bG⟩:=h;cases υ<;>simp only[bI] at hs<;>first|exact⟨i,E,J,R,ac,aL,aY,eB.lay hs bG⟩|cases hs
 |.st t,υ,_,hs,h=>by
  obtain⟨aV,i,fs,zs,J,R,ac,aL,aY,bG,eF⟩:=h;cases υ<;>simp only[bI] at hs<;>try (cases hs;done)
  have:=bI.size hs;exact⟨by omega,i,fs,zs,J,by omega,by omega,aL,aY,jL.lay hs bG,by omega⟩
 |.pr _ _,_,_,_,h=>h.elim
 |.nil,_,_,_,h=>h.elim
 |.dG,_,_,_,h=>h.elim
 |.mp t,υ,_,hs,h=>by obtain⟨i,K,E,J,R,ac,aL,aY,bG,eF⟩:=h;cases υ<;>simp only[bI] at hs<;>first|exact⟨i,K,E,J,R,ac,aL,aY,bG,eB.lay hs eF⟩|cases hs
 |.ey _ t,υ,_,hs,h=>by obtain⟨i,K,E,J,R,ac,aL,aY,bG,eF⟩:=h;cases υ<;>simp only[bI] at hs<;>first|exact⟨i,K,E,J,R,ac,aL,aY,bG,eB.lay hs eF⟩|cases hs
theorem jL.lay {P:Program}:∀{τ υ:au} {fs:List Field} {off:Nat} {zs:List Value},bI τ υ=true->jL P τ fs off zs->jL P υ fs off zs
 |.pr a b,υ,f::r,off,zs,hs,h=>by
  obtain⟨J,R,ac,aL,aY⟩:=h;cases υ<;>simp only[bI] at hs<;>try (cases hs;done)
  simp only[bW] at hs;have:=bI.size hs.1;exact⟨J,eB.lay hs.1 R,by omega,by rw[<-this];exact aL,by rw[<-this];exact jL.lay hs.2 aY⟩
 |.nil,υ,[],_,_,hs,h=>by cases υ<;>simp[bI] at hs;exact h
 |.pr _ _,_,[],_,_,_,h=>h.elim
 |.nil,_,_::_,_,_,_,h=>h.elim
 |.int _,_,_,_,_,_,h=>by cases h
 |.bool,_,_,_,_,_,h=>by cases h
 |.str,_,_,_,_,_,h=>by cases h
 |.bM _ _,_,_,_,_,_,h=>by cases h
 |.osl _,_,_,_,_,_,h=>by cases h
 |.ptr _ _,_,_,_,_,_,h=>by cases h
 |.optr _,_,_,_,_,_,h=>by cases h
 |.st _,_,_,_,_,_,h=>by cases h
 |.dG,_,_,_,_,_,h=>by cases h
 |.mp _,_,_,_,_,_,h=>by cases h
end
structure z8 where
 b:Nat
 T:TypeId
 k:IntKind
 xs:List Int
def Ww (P:Program) (g:z8):Prop:=∃S,P.underlying g.T=some (.array g.xs.length S)/\eB P (.int g.k) S
structure eV where
 P:Program
 tt:List (TypeId×au)
 ok:∀T τ,aD tt T=some τ->eB P τ T
 mix:P.follows .mixedOrders=true
 glob:List z8:=[]
 gok:∀g∈glob,Ww P g:=by intro g h;cases h
end
section
def gS:Nat:=4294967296
def bf {α:Type} (xs:List α) (i:Int):Option α:=if 0<=i then xs[i.toNat]? else none
theorem Zb {α:Type} {xs:List α} {i:Int} {y:α} (h:bf xs i=some y):i=(i.toNat:Int)/\i.toNat<xs.length/\xs[i.toNat]?=some y:=by
 unfold bf at h;split at h
 ·exact⟨by omega,(fu.1 h).1,h⟩
 ·cases h
inductive iw where
 |eh (av:ax) (new:List (Nat×a6))
 |part (α:Type) (jk:α->Prop) (f:α->ax×List (Nat×a6))
 |bad
def iw.K (r:iw) (Q:ax->List (Nat×a6)->Prop):Prop:=
 match r with
 |.eh av new=>Q av new
 |.part α jk f=>∃y:α,jk y/\Q (f y).1 (f y).2
 |.bad=>False
def au.pure:au->Bool
 |.osl _|.optr _|.dG|.mp _=>false
 |.st t=>t.pure
 |.pr a b=>a.pure&&b.pure
 |_=>true
def eD:au->List bB->Option au
 |τ,[]=>some τ
 |.osl t,.idx _::p=>eD t p
 |.optr t,.deref::p=>eD t p
 |.mp t,.deref::p=>eD t p
 |.st t,.unst::p=>eD t p
 |.pr a _,.fst::p=>eD a p
 |.pr _ b,.snd::p=>eD b p
 |_,_=>none
def eO:au->Nat->Option (List bB×au)
 |.pr a _,0=>some ([.fst],a)
 |.pr _ b,n+1=>match eO b n with|some q=>some (.snd::q.1,q.2)|none=>none
 |_,_=>none
def d5:au->Nat->Nat
 |.pr _ _,0=>0
 |.pr a b,n+1=>a.size+d5 b n
 |_,_=>0
def wa:(τ:au)->τ.den->Nat->Option a6
 |.pr a _,x,0=>some ⟨a,x.1⟩
 |.pr _ b,x,n+1=>wa b x.2 n
 |_,_,_=>none
theorem Rk {P:Program}:∀{τ:au} {fs:List Field} {off:Nat} {zs:List Value} {n:Nat} {s:List bB} {τf:au},jL P τ fs off zs->eO τ n=some (s,τf)->∃f,fs[n]?=some f/\f.offset=off+d5 τ n/\eB P τf f.type
 |.pr a b,f::r,off,zs,0,s,τf,h,ag=>by simp only[eO,cS,gX] at ag;obtain⟨rfl,rfl⟩:=ag;exact⟨f,rfl,by rw[h.1];rfl,h.2.1⟩
 |.pr a b,f::r,off,zs,n+1,s,τf,h,ag=>by
  simp only[eO] at ag;split at ag
  ·rename_i q aj;simp only[cS,gX] at ag;obtain⟨rfl,rfl⟩:=ag;obtain⟨ij,J,R,ac⟩:=Rk (τ:=b) h.2.2.2.2 (s:=q.1) (τf:=q.2) aj;exact⟨ij,by simpa using J,by rw[R];simp only[d5];omega,ac⟩
  ·cases ag
 |.pr _ _,[],_,_,_,_,_,h,_=>h.elim
 |.int _,_,_,_,_,_,_,_,ag=>by cases ag
 |.bool,_,_,_,_,_,_,_,ag=>by cases ag
 |.str,_,_,_,_,_,_,_,ag=>by cases ag
 |.bM _ _,_,_,_,_,_,_,_,ag=>by cases ag
 |.osl _,_,_,_,_,_,_,_,ag=>by cases ag
 |.ptr _ _,_,_,_,_,_,_,_,ag=>by cases ag
 |.optr _,_,_,_,_,_,_,_,ag=>by cases ag
 |.st _,_,_,_,_,_,_,_,ag=>by cases ag
 |.nil,_,_,_,_,_,_,_,ag=>by cases ag
 |.dG,_,_,_,_,_,_,_,ag=>by cases ag
theorem Rn:∀{τ:au} {x:τ.den} {n:Nat} {t:a6},wa τ x n=some t->∃s,eO τ n=some (s,t.1)
 |.pr a b,x,0,t,h=>by simp only[wa,cS] at h;subst h;exact⟨_,rfl⟩
 |.pr a b,x,n+1,t,h=>by obtain⟨s,hs⟩:=Rn (τ:=b) h;exact⟨.snd::s,by simp[eO,hs]⟩
 |.int _,_,_,_,h=>by cases h
 |.bool,_,_,_,h=>by cases h
 |.str,_,_,_,h=>by cases h
 |.bM _ _,_,_,_,h=>by cases h
 |.osl _,_,_,_,h=>by cases h
 |.ptr _ _,_,_,_,h=>by cases h
 |.optr _,_,_,_,h=>by cases h
 |.st _,_,_,_,h=>by cases h
 |.nil,_,_,_,h=>by cases h
 |.dG,_,_,_,h=>by cases h
theorem DF:∀{τ:au} {n:Nat} {s:List bB} {tf:au},eO τ n=some (s,tf)->d5 τ n+tf.size<=τ.size
 |.pr a b,0,s,tf,h=>by simp only[eO,cS,gX] at h;obtain⟨_,rfl⟩:=h;simp[d5,au.size]
 |.pr a b,n+1,s,tf,h=>by
  simp only[eO] at h;split at h
  ·rename_i q aj;simp only[cS,gX] at h;obtain⟨_,rfl⟩:=h;have:=DF (τ:=b) (s:=q.1) (tf:=q.2) aj;simp only[d5,au.size];omega
  ·cases h
 |.int _,_,_,_,h=>by cases h
 |.bool,_,_,_,h=>by cases h
 |.str,_,_,_,h=>by cases h
 |.bM _ _,_,_,_,h=>by cases h
 |.osl _,_,_,_,h=>by cases h
 |.ptr _ _,_,_,_,h=>by cases h
 |.optr _,_,_,_,h=>by cases h
 |.st _,_,_,_,h=>by cases h
 |.nil,_,_,_,h=>by cases h
 |.dG,_,_,_,h=>by cases h
theorem Rm {M:dE->Nat->Prop} {w:World}:∀{τ:au} {x:τ.den} {n:Nat} {t:a6} {cs:List Value},br M w τ cs x []->wa τ x n=some t->br M w t.1 ((cs.drop (d5 τ n)).take t.1.size) t.2 []/\d5 τ n+t.1.size<=τ.size
 |.pr a b,x,0,t,cs,hr,h=>by simp only[wa,cS] at h;subst h;obtain⟨f1,cE,aH,J,R⟩:=hr;obtain⟨rfl,rfl⟩:f1=[]/\cE=[]:=(by simpa[eq_comm] using aH);exact⟨by simpa[d5] using J,by simp[d5,au.size]⟩
 |.pr a b,x,n+1,t,cs,hr,h=>by obtain⟨f1,cE,aH,J,R⟩:=hr;obtain⟨rfl,rfl⟩:f1=[]/\cE=[]:=(by simpa[eq_comm] using aH);obtain⟨ac,aL⟩:=Rm (τ:=b) R h;refine⟨?_,by simp only[d5,au.size];omega⟩;simp only[d5];rwa[tP] at ac
 |.int _,_,_,_,_,_,h=>by cases h
 |.bool,_,_,_,_,_,h=>by cases h
 |.str,_,_,_,_,_,h=>by cases h
 |.bM _ _,_,_,_,_,_,h=>by cases h
 |.osl _,_,_,_,_,_,h=>by cases h
 |.ptr _ _,_,_,_,_,_,h=>by cases h
 |.optr _,_,_,_,_,_,h=>by cases h
 |.st _,_,_,_,_,_,h=>by cases h
 |.nil,_,_,_,_,_,h=>by cases h
 |.dG,_,_,_,_,_,h=>by cases h
theorem bv.f6 {w:World} {τ τ':au} {l l':Loc} {cs cc:List Value}:bv w τ l cs [] τ' l' cc↔τ=τ'/\l=l'/\cs=cc:=by cases τ<;>exact Iff.rfl
theorem bv.append {w:World}:∀{p q:List bB} {τ oG gA:au} {l dp l2:Loc} {cs da cw:List Value},bv w τ l cs p oG dp da->bv w oG dp da q gA l2 cw->bv w τ l cs (p++q) gA l2 cw
 |[],q,τ,_,_,_,_,_,_,_,_,h,a7=>by obtain⟨rfl,rfl,rfl⟩:=bv.f6.1 h;exact a7
 |s::p,q,τ,_,_,_,_,_,_,_,_,h,a7=>by
  cases τ<;>cases s<;>simp only[bv] at h
  case osl.idx t i=>
   obtain⟨b,o,len,cap,ds,J,R,ac,aL,aY⟩:=h;exact⟨b,o,len,cap,ds,J,R,ac,aL,aY.append a7⟩
  case optr.deref t=>
   obtain⟨b,o,ds,J,R,ac,aL⟩:=h;exact⟨b,o,ds,J,R,ac,aL.append a7⟩
  case st.unst t=>exact bv.append (p:=p) (τ:=t) h a7
  case pr.fst t1 t2=>exact bv.append (p:=p) (τ:=t1) h a7
  case pr.snd t1 t2=>exact bv.append (p:=p) (τ:=t2) h a7
theorem bv.here {w:World} {τ:au} {l:Loc} {cs:List Value}:bv w τ l cs [] τ l cs:=by cases τ<;>exact⟨rfl,rfl,rfl⟩
theorem bv.ty {w:World}:∀{p:List bB} {τ τ':au} {l l':Loc} {cs cc:List Value},bv w τ l cs p τ' l' cc->eD τ p=some τ'
 |[],τ,_,_,_,_,_,h=>by obtain⟨rfl,_⟩:=bv.f6.1 h;cases τ<;>rfl
 |s::p,τ,_,_,_,_,_,h=>by
  cases τ<;>cases s<;>simp only[bv] at h
  case osl.idx t i=>obtain⟨b,o,len,cap,ds,J,R,ac,aL,aY⟩:=h;exact aY.ty
  case optr.deref t=>obtain⟨b,o,ds,J,R,ac,aL⟩:=h;exact aL.ty
  case st.unst t=>exact bv.ty (p:=p) (τ:=t) h
  case pr.fst t1 t2=>exact bv.ty (p:=p) (τ:=t1) h
  case pr.snd t1 t2=>exact bv.ty (p:=p) (τ:=t2) h
theorem bv.at {w:World}:∀{p:List bB} {τ τ':au} {l l':Loc} {cs cc:List Value},bv w τ l cs p τ' l' cc->cs.length=τ.size->(∀b o,l=some (b,o)->eI w b o cs)->cc.length=τ'.size/\∀b o,l'=some (b,o)->eI w b o cc
 |[],τ,_,_,_,_,_,h,ai,aC=>by obtain⟨rfl,rfl,rfl⟩:=bv.f6.1 h;exact⟨ai,aC⟩
 |s::p,τ,_,l,_,cs,_,h,ai,aC=>by
  cases τ<;>cases s<;>simp only[bv] at h
  case osl.idx t i=>
   obtain⟨b,o,len,cap,ds,J,R,ac,aL,aY⟩:=h;exact aY.at ac (fun c3 bR e=>by simp only[cS,gX] at e;obtain⟨rfl,rfl⟩:=e;exact aL)
  case optr.deref t=>
   obtain⟨b,o,ds,J,R,ac,aL⟩:=h;exact aL.at R (fun c3 bR e=>by simp only[cS,gX] at e;obtain⟨rfl,rfl⟩:=e;exact ac)
  case st.unst t=>exact bv.at (τ:=t) h ai aC
  case pr.fst a b=>
   exact bv.at (τ:=a) h (by simp only[au.size] at ai;simp;omega) (fun b o e=>(aC b o e).take)
  case pr.snd a b=>
   refine bv.at (τ:=b) h (by simp only[au.size] at ai;simp;omega) (fun c3 o e=>?_);cases l with
   |none=>simp at e
   |some q=>
    simp only[hC,cS,gX] at e;obtain⟨rfl,rfl⟩:=e;exact(aC _ _ rfl).drop
theorem bv.My {w:World}:∀{τ:au} {n:Nat} {s:List bB} {τf:au} {l:Loc} {cs:List Value},eO τ n=some (s,τf)->bv w τ l cs s τf (l.map fun q=>(q.1,q.2+d5 τ n)) ((cs.drop (d5 τ n)).take τf.size)
 |.pr a b,0,s,τf,l,cs,h=>by
  simp only[eO,cS,gX] at h;obtain⟨rfl,rfl⟩:=h;have:(l.map fun q=>(q.1,q.2+d5 (.pr a b) 0))=l:=(by cases l<;>simp[d5]);rw[this];simp only[bv,d5,qh]
  first|exact bv.here|exact⟨rfl,rfl,rfl⟩|trivial|simp
 |.pr a b,n+1,s,τf,l,cs,h=>by
  simp only[eO] at h;split at h
  ·rename_i q aj;simp only[cS,gX] at h;obtain⟨rfl,rfl⟩:=h;have:=bv.My (w:=w) (τ:=b) (s:=q.1) (τf:=q.2) (l:=l.map fun q=>(q.1,q.2+a.size)) (cs:=cs.drop a.size) aj;simp only[bv,d5];rw[tP] at this;cases l with
   |none=>exact this
   |some mm=>simp only[hC,CU] at this|-;exact this
  ·cases h
 |.int _,_,_,_,_,_,ag=>by cases ag
 |.bool,_,_,_,_,_,ag=>by cases ag
 |.str,_,_,_,_,_,ag=>by cases ag
 |.bM _ _,_,_,_,_,_,ag=>by cases ag
 |.osl _,_,_,_,_,_,ag=>by cases ag
 |.ptr _ _,_,_,_,_,_,ag=>by cases ag
 |.optr _,_,_,_,_,_,ag=>by cases ag
 |.st _,_,_,_,_,_,ag=>by cases ag
 |.nil,_,_,_,_,_,ag=>by cases ag
 |.dG,_,_,_,_,_,ag=>by cases ag
theorem dD.uniq:∀{p:List bB} {τ:au} {x:τ.den} {τ':au} {y y':τ'.den},dD τ x p τ' y->dD τ x p τ' y'->y=y'
 |[],τ,_,_,_,_,h,a7=>by obtain⟨rfl,h⟩:=dD.f6.1 h;obtain⟨_,a7⟩:=dD.f6.1 a7;exact h.symm.trans a7
 |s::p,τ,_,_,_,_,h,a7=>by
  cases τ<;>cases s<;>simp only[dD] at h a7
  case osl.idx=>
   obtain⟨e,aE,h⟩:=h;obtain⟨dI,we,a7⟩:=a7;rw[aE] at we;obtain rfl:=fH we;exact h.uniq a7
  case optr.deref=>exact dD.uniq (p:=p) h a7
  case st.unst=>exact dD.uniq (p:=p) h a7
  case pr.fst=>exact dD.uniq (p:=p) h a7
  case pr.snd=>exact dD.uniq (p:=p) h a7
def Yields (E:eV) (C:eb) (st:bj) (a:Act) (w:World) (I:Nat->Prop) (rt:Nat->List Value) (fp:Nat->List Nat) (o:Oper) (Q:ax->List (Nat×a6)->Prop):Prop:=
 ∃v w' I' rtn fpn av new,(execOp a.eval o).run E.P w=.ok (.value v) w'/\it w w'/\(∀b,I b->I' b)/\(∀b,I' b->I b\/(w.heap.size<=b/\b<w'.heap.size))/\CW C st w w' I' new rtn fpn/\cJ (bP I' C.B) w' (new++st.h) (en new rtn rt) (en new fpn fp) av v/\Q av new
section
variable {E:eV} {C:eb} {st:bj} {a:Act} {w:World} {I:Nat->Prop} {rt:Nat->List Value} {fp:Nat->List Nat} {o:Oper} {Q:ax->List (Nat×a6)->Prop}
theorem Yields.pure {v:Value} {av:ax} (hr:(execOp a.eval o).run E.P w=.ok (.value v) w) (hv:cJ (bP I C.B) w st.h rt fp av v) (aj:Q av []):Yields E C st a w I rt fp o Q:=
 ⟨v,w,I,rt,fp,av,[],hr,.refl w,fun _ h=>h,fun _ h=>.inl h,.nil,hv,aj⟩
theorem Yields.wp (aq:cx C st a.tmps w I rt fp) (h:Yields E C st a w I rt fp o Q) {next:Act->World->Prop} {X:Exit->Act->World->Prop} {d:Nat} (aP:o.dst=some d) (dc:C.ok d) (ag:∀av new b9 w',Q av new->b9.defers=a.defers->gD C ⟨(d,av)::st.g,new++st.h⟩ b9.tmps w'->next b9 w'):o.wp E.P a w next X:=by
 obtain⟨v,w',I',rtn,fpn,av,new,J,R,ac,aL,aY,bG,eF⟩:=h;unfold Oper.wp;rw[J];show next (a.put o.dst v) w'
 rw[aP];exact ag av new _ _ eF rfl ⟨I',_,_,(aq.ext R ac aL aY).put dc bG⟩
def ob (op:BinOp) (k:IntKind) (x:Int) (c0:IntKind) (y:Int):iw:=
 let z (p:Prop) (r:Int):iw:=if k=c0 then .part Int (fun z=>p/\r=z) (fun z=>(.val (.int k) z,[])) else .bad
 let b (r:Bool):iw:=if k=c0 then .eh (.val .bool r) [] else .bad
 match op with
 |.add=>z True (k.wrap (x+y))
 |.sub=>z True (k.wrap (x-y))
 |.mul=>z True (k.wrap (x*y))
 |.quo=>z (y≠0) (k.wrap (x.tdiv y))
 |.rem=>z (y≠0) (x.tmod y)
 |.and=>z True (k.wrap (BitVec.ofInt k.bits x&&&BitVec.ofInt k.bits y).toNat)
 |.or=>z True (k.wrap (BitVec.ofInt k.bits x|||BitVec.ofInt k.bits y).toNat)
 |.xor=>z True (k.wrap (BitVec.ofInt k.bits x^^^BitVec.ofInt k.bits y).toNat)
 |.andNot=>z True (k.wrap (BitVec.ofInt k.bits x&&&~~~BitVec.ofInt k.bits y).toNat)
 |.shl=>.part Int (fun z=>0<=y/\k.wrap (x*2^min y.toNat k.bits)=z) (fun z=>(.val (.int k) z,[]))
 |.shr=>.part Int (fun z=>0<=y/\x.fdiv (2^min y.toNat k.bits)=z) (fun z=>(.val (.int k) z,[]))
 |.eql=>b (x==y)
 |.neq=>b (x !=y)
 |.lss=>b (decide (x<y))
 |.leq=>b (decide (x<=y))
 |.gtr=>b (decide (x>y))
 |.geq=>b (decide (x>=y))
def P3 (op:BinOp) (x y:ax):iw:=
 match x,y with
 |.val (.int k) x,.val (.int c0) y=>ob op k x c0 y
 |.val .bool x,.val .bool y=>match op with
  |.eql=>.eh (.val .bool (x==y)) []
  |.neq=>.eh (.val .bool (!(x==y))) []
  |_=>.bad
 |_,_=>.bad
theorem akz {op:BinOp} {t u:TypeId} {x y:Operand} {k c0:IntKind} {m n:Int} (aJ:o.op=.binOp op t x y u) (ab:a.eval x=.int k m) (aB:a.eval y=.int c0 n) (h:(ob op k m c0 n).K Q):Yields E C st a w I rt fp o Q:=by
 have aG:∀w,(eqGuard op t x y (.int k m) (.int c0 n)).run E.P w=.ok () w:=fun w=>(by unfold eqGuard;cases op<;>simp);have shl:op=.shl->Yields E C st a w I rt fp o Q:=(by rintro rfl;simp only[ob] at h;obtain⟨z,⟨aV,rfl⟩,h⟩:=h;exact .pure (v:=.int k _) (by simp[execOp,aJ,ab,aB,aG,binOp,Op.shift,show¬n<0 by omega]) (.int k _) h);have shr:op=.shr->Yields E C st a w I rt fp o Q:=(by rintro rfl;simp only[ob] at h;obtain⟨z,⟨aV,rfl⟩,h⟩:=h;exact .pure (v:=.int k _) (by simp[execOp,aJ,ab,aB,aG,binOp,Op.shift,show¬n<0 by omega]) (.int k _) h);by_cases ae:k=c0
 case neg=>
  cases op<;>simp only[ob,ae,if_false] at h
  case shl=>exact shl rfl
  case shr=>exact shr rfl
  all_goals exact h.elim
 subst ae;cases op<;>simp only[ob,if_true] at h
 case shl=>exact shl rfl
 case shr=>exact shr rfl
 case quo|rem=>
  obtain⟨z,⟨aV,rfl⟩,h⟩:=h;exact .pure (v:=.int k _) (by simp[execOp,aJ,ab,aB,aG,binOp,Op.intDiv,aV]) (.int k _) h
 case add|sub|mul=>
  obtain⟨z,⟨_,rfl⟩,h⟩:=h;exact .pure (v:=.int k _) (by simp[execOp,aJ,ab,aB,aG,binOp,Op.intArith]) (.int k _) h
 case and|or|xor|andNot=>
  obtain⟨z,⟨_,rfl⟩,h⟩:=h;exact .pure (v:=.int k _) (by simp only[execOp,aJ,ab,aB,Sem.run_bind,aG,binOp,Op.intBits];simp) (.int k _) h
 all_goals exact .pure (v:=.bool _) (by simp[execOp,aJ,ab,aB,aG,binOp,Op.intCmp]) (.bool _) h
theorem run_equalIn_bool {P:Program} (w:World) (d:Nat) {t:TypeId} (p q:Bool) (h:P.underlying t=some .bool):(Op.equalIn (d+1) t (.bool p) (.bool q)).run P w=.ok (p==q) w:=by simp[Op.equalIn,run_underlying h]
theorem run_eql_bool {P:Program} (w:World) {t:TypeId} (p q:Bool) (h:P.underlying t=some .bool):(binOp .eql t (.bool p) (.bool q)).run P w=.ok (.bool (p==q)) w:=by simp only[binOp];simp[Op.equal,Op.maxDepth,run_equalIn_bool w 9999 p q h]
theorem run_neq_bool {P:Program} (w:World) {t:TypeId} (p q:Bool) (h:P.underlying t=some .bool):(binOp .neq t (.bool p) (.bool q)).run P w=.ok (.bool (!(p==q))) w:=by simp only[binOp];simp[Op.equal,Op.maxDepth,run_equalIn_bool w 9999 p q h]
theorem Xp (aq:cx C st a.tmps w I rt fp) {op:BinOp} {t u:TypeId} {x y:Operand} (aJ:o.op=.binOp op t x y u) (aa:∀p q:Bool,(op=.eql\/op=.neq)->(bu st.g x=.val .bool p/\bu st.g y=.val .bool q)->E.P.underlying t=some .bool) (h:(P3 op (bu st.g x) (bu st.g y)).K Q):Yields E C st a w I rt fp o Q:=by
 have ab:=aq.bu x;have aB:=aq.bu y;unfold P3 at h;split at h
 ·rename_i k m c0 n ex jw;rw[ex] at ab;rw[jw] at aB;obtain⟨v,hv⟩:∃v,v=a.eval x:=⟨_,rfl⟩;obtain⟨i4,aR⟩:∃v,v=a.eval y:=⟨_,rfl⟩;rw[<-hv] at ab;rw[<-aR] at aB;cases ab with|val b2=>cases aB with|val bo=>
  obtain⟨_,rfl⟩:=b2;obtain⟨_,rfl⟩:=bo;exact akz aJ hv.symm aR.symm h
 ·rename_i p q ex jw;have aR:=aa p q;have yI:bu st.g x=.val .bool p/\bu st.g y=.val .bool q:=⟨ex,jw⟩;rw[ex] at ab;rw[jw] at aB;obtain⟨v,hv⟩:∃v,v=a.eval x:=⟨_,rfl⟩;obtain⟨i4,nK⟩:∃v,v=a.eval y:=⟨_,rfl⟩;rw[<-hv] at ab;rw[<-nK] at aB;cases ab with|val b2=>cases aB with|val bo=>
  obtain⟨_,rfl⟩:=b2;obtain⟨_,rfl⟩:=bo;have kC:a.eval x=.bool p:=hv.symm;have qJ:a.eval y=.bool q:=nK.symm;have aG:∀w,(eqGuard op t x y (.bool p) (.bool q)).run E.P w=.ok () w:=fun w=>(by unfold eqGuard;cases op<;>simp);split at h
  ·have:=aR (.inl rfl) yI;exact .pure (v:=.bool _) (by simp only[execOp,aJ,kC,qJ,Sem.run_bind,aG,Result.andThen_ok,run_eql_bool _ _ _ this];rfl) (.bool _) h
  ·have:=aR (.inr rfl) yI;exact .pure (v:=.bool _) (by simp only[execOp,aJ,kC,qJ,Sem.run_bind,aG,Result.andThen_ok,run_neq_bool _ _ _ this];rfl) (.bool _) h
  ·exact h.elim
 ·exact h.elim
end
end
section
section
variable {E:eV} {C:eb} {st:bj} {a:Act} {w:World} {I:Nat->Prop} {rt:Nat->List Value} {fp:Nat->List Nat} {o:Oper} {Q:ax->List (Nat×a6)->Prop}
theorem cx.notM {b3:Array Value} (aq:cx C st b3 w I rt fp) {id:Nat} {t:a6} (ah:aD st.h id=some t):∀b∈fp id,∀m,¬bP I C.B m b:=fun b aa m ak=>by
 have:=(aq.tree id t ah).2.2 b aa;rcases qQ ak with h|h
 ·exact this.1 h
 ·exact this.2.1 h
theorem cx.mL {b3:Array Value} (aq:cx C st b3 w I rt fp) {id:Nat} {t:a6} (ah:aD st.h id=some t) {p:List bB} {τ:au} {y:τ.den} (aG:dD t.1 t.2 p τ y) {τ':au} {loc:Loc} {cs:List Value} (ag:bv w t.1 none (rt id) p τ' loc cs):∃_e:τ'=τ,∃f,br (bP I C.B) w τ cs y f/\tT w loc cs τ.size/\∀b∈f,b∈fp id:=by obtain⟨hr,eA,_⟩:=aq.tree id t ah;obtain⟨dN,cc,f,dT,bS,bt,cY,c7,_⟩:=Mz p (loc:=none) hr (fun _ _ h=>by cases h) eA (fun _ _ h=>by cases h) (aq.notM ah) aG;obtain⟨rfl,rfl,rfl⟩:=ag.ku bS;exact⟨rfl,f,bt,cY,fun b aa=>c7.mem_iff.2 (by simp[aa])⟩
theorem cx.aeh {b3:Array Value} (aq:cx C st b3 w I rt fp) {id:Nat} {t:a6} (ah:aD st.h id=some t) {p:List bB} {τ':au} {loc:Loc} {cs:List Value} (ag:bv w t.1 none (rt id) p τ' loc cs):cs.length=τ'.size/\∀b o,loc=some (b,o)->eI w b o cs:=ag.at (aq.tree id t ah).1.len (fun _ _ h=>by cases h)
theorem th {M:dE->Nat->Prop}:∀{p:List bB} {τ:au} {l:Loc} {cs:List Value} {x:τ.den} {f:List Nat} {t:au} {l':Loc} {cc:List Value},br M w τ cs x f->bv w τ l cs p (.optr t) l' cc->∃b o ds,cc=[.pointer (some ⟨b,o,none⟩)]/\ds.length=t.size/\eI w b o ds
 |[],τ,_,_,_,_,_,_,_,hr,ag=>by obtain⟨rfl,rfl,rfl⟩:=bv.f6.1 ag;obtain⟨b,o,f,ds,J,_,ac,aL,_⟩:=hr;exact⟨b,o,ds,J,ac,aL⟩
 |s::p,τ,_,cs,x,f,_,_,_,hr,ag=>by
  cases τ<;>cases s<;>simp only[bv] at ag
  case osl.idx t i=>
   obtain⟨b,o,len,cap,ds,rfl,R,ac,aL,aY⟩:=ag;obtain⟨ad,fW,e,hr⟩:=hr;simp only[hL,Value.slice.injEq,and_true] at e;obtain⟨rfl,rfl,rfl⟩:=e;rcases hr with⟨aV,_⟩|⟨c3,bR,dR,aV,_,aN,aM,bb,bH⟩
   ·cases aV
   cases aV;obtain⟨iT,cK,cG,c9⟩:=bH i x[i] (dR[i]'(by omega)) (by simp) (by simp)
   obtain rfl:=aL.eq cG (by omega);exact th (p:=p) c9 aY
  case optr.deref t=>
   obtain⟨b,o,ds,rfl,ac,aL,aY⟩:=ag;obtain⟨c3,bR,f,iT,e,_,Zi,G7,_,bG⟩:=hr;simp only[hL,Value.pointer.injEq,cS,Addr.mk.injEq,and_true] at e;obtain⟨rfl,rfl⟩:=e;obtain rfl:=aL.eq G7 (by omega);exact th (p:=p) bG aY
  case st.unst t=>exact th (p:=p) (τ:=t) hr ag
  case pr.fst t1 t2=>obtain⟨f1,cE,_,J,_⟩:=hr;exact th (p:=p) (τ:=t1) J ag
  case pr.snd t1 t2=>obtain⟨f1,cE,_,_,R⟩:=hr;exact th (p:=p) (τ:=t2) R ag
def gr (tt:List (TypeId×au)) (T:TypeId):Option au:=match aD tt T with|some (.bM _ t)=>some t|_=>none
def nN (tt:List (TypeId×au)) (T:TypeId):Option au:=match aD tt T with|some (.st t)=>some t|_=>none
theorem gr.ok {T:TypeId} {t:au} (h:gr E.tt T=some t):∃i S,E.P.info? T=some i/\E.P.underlying T=some (.slice S)/\eB E.P t S:=by
 unfold gr at h;split at h
 ·rename_i m u ai;cases h;obtain⟨i,S,J,_,_,_,aY,bG⟩:=E.ok T _ ai;exact⟨i,S,J,aY,bG⟩
 ·cases h
theorem nN.ok {T:TypeId} {t:au} (h:nN E.tt T=some t):∃fs zs,E.P.underlying T=some (.struct fs)/\jL E.P t fs.toList 0 zs:=by
 unfold nN at h;split at h
 ·rename_i u ai;cases h;obtain⟨_,i,fs,zs,J,_,_,_,aY,bG,_⟩:=E.ok T _ ai;exact⟨fs,zs.toList,aY,bG⟩
 ·cases h
def BF (tt:List (TypeId×au)) (h:List (Nat×a6)) (T:TypeId) (x:ax):iw:=
 match gr tt T with
 |none=>.bad
 |some _=>match x with
  |.val (.bM _ _) xs=>.eh (.val (.int .i64) (xs.length:Int)) []
  |.dh (.slice none 0 0)=>.eh (.val (.int .i64) (0:Int)) []
  |.ref id p=>match aD h id with
   |some ⟨τ,x⟩=>match eD τ p with
    |some (.osl t)=>.part (List t.den) (fun xs=>dD τ x p (.osl t) xs) (fun xs=>(.val (.int .i64) (xs.length:Int),[]))
    |_=>.bad
   |none=>.bad
  |.view _ _ lo hi=>.eh (.val (.int .i64) ((hi-lo:Nat):Int)) []
  |.app id p τ aW _=>match aD h id with
   |some ⟨V9,x⟩=>.part (List τ.den) (fun xs=>dD V9 x p (.osl τ) xs) (fun xs=>(.val (.int .i64) ((xs.length+aW.length:Nat):Int),[]))
   |none=>.bad
  |_=>.bad
theorem En {T:TypeId} {t:au} (bm:gr E.tt T=some t) {x:Operand} (aJ:o.op=.call {callee:=.builtin .len,args:=#[x],argTypes:=#[T]}) {ad:Option Addr} {n c:Nat} (ab:a.eval x=.slice ad n c):(execOp a.eval o).run E.P w=.ok (.value (.int .i64 n)) w:=by obtain⟨i,S,_,aY,_⟩:=gr.ok bm;simp[execOp,aJ,resolve,invoke,builtin,ab,Builtin.len_,run_underlying aY,goInt]
theorem arI (aq:cx C st a.tmps w I rt fp) {T:TypeId} {x:Operand} (aJ:o.op=.call {callee:=.builtin .len,args:=#[x],argTypes:=#[T]}) (h:(BF E.tt st.h T (bu st.g x)).K Q):Yields E C st a w I rt fp o Q:=by
 have ab:=aq.bu x;unfold BF at h;split at h
 ·exact h.elim
 rename_i t bm;generalize hv:a.eval x=v at ab;split at h
 ·rename_i m u xs ex;rw[ex] at ab;cases ab with|val r=>
  obtain⟨_,ad,cap,rfl,_⟩:=r;exact .pure (En bm aJ hv) (.int _ _) h
 ·rename_i ex;rw[ex] at ab;cases ab;exact .pure (En bm aJ hv) (.int _ _) h
 ·rename_i id p ex;rw[ex] at ab;split at h
  ·rename_i τ y ah;split at h
   ·rename_i u fZ;obtain⟨xs,aG,h⟩:=h;cases ab with|ref bC ag=>
    rw[ah] at bC;cases bC;obtain⟨rfl,f,hr,_⟩:=aq.mL ah aG ag;obtain⟨ad,cap,rfl,_⟩:=hr;exact .pure (En bm aJ hv) (.int _ _) h
   ·exact h.elim
  ·exact h.elim
 ·rename_i id p lo hi ex;rw[ex] at ab;cases ab with
  |oE=>exact .pure (En bm aJ hv) (.int _ _) h
  |view bC ag=>exact .pure (En bm aJ hv) (.int _ _) h
 ·rename_i id p τ aW own ex;rw[ex] at ab;split at h
  ·rename_i V9 y ah;obtain⟨xs,aG,h⟩:=h;cases ab with|app bC fX ag kz J ky R=>
   rw[ah] at bC;cases bC;obtain⟨ad,cap,e,_⟩:=R;simp only[hL,and_true] at e;have aj:=dD.uniq aG kz;subst aj;rw[e] at hv;have:=En (w:=w) bm aJ hv;rw[tS] at this;exact .pure this (.int _ _) h
  ·exact h.elim
 ·exact h.elim
theorem bv.aaS {t:au} {l:Loc} {b o len cap k:Nat} {ds:List Value} (J:k<len) (R:ds.length=t.size) (ac:eI w b (o+k*t.size) ds):bv w (.osl t) l [.slice (some ⟨b,o,none⟩) len cap] [.idx k] t (some (b,o+k*t.size)) ds:=⟨b,o,len,cap,ds,rfl,J,R,ac,bv.here⟩
theorem bv.QG {t:au} {l:Loc} {b o:Nat} {ds:List Value} (R:ds.length=t.size) (ac:eI w b o ds):bv w (.optr t) l [.pointer (some ⟨b,o,none⟩)] [.deref] t (some (b,o)) ds:=⟨b,o,ds,rfl,R,ac,bv.here⟩
def Bx (
 tt:List (TypeId×au)) (h:List (Nat×a6)) (T:TypeId) (x i:ax):iw:=
 match gr tt T with
 |none=>.bad
 |some u=>match i with
  |.val (.int _) i=>match x with
   |.val (.bM m t) xs=>bif bI u t then .part t.den (fun y=>bf xs i=some y) (fun y=>(.val (.ptr m t) (some y),[])) else .bad
   |.ref id p=>match aD h id with
    |some ⟨τ,x⟩=>match eD τ p with
     |some (.osl t)=>bif bI u t then .part (List t.den×Nat) (fun q=>dD τ x p (.osl t) q.1/\i=(q.2:Int)/\q.2<q.1.length) (fun q=>(.addr id (p++[.idx q.2]),[])) else .bad
     |_=>.bad
    |none=>.bad
   |.view id p lo hi=>match aD h id with
    |some ⟨τ,x⟩=>match eD τ p with
     |some (.osl t)=>bif bI u t then .part (List t.den×Nat) (fun q=>dD τ x p (.osl t) q.1/\i=(q.2:Int)/\q.2<hi-lo) (fun q=>(.addr id (p++[.idx (lo+q.2)]),[])) else .bad
     |_=>.bad
    |none=>.bad
   |_=>.bad
  |_=>.bad
theorem SV {T:TypeId} {u t:au} (bm:gr E.tt T=some u) (ai:bI u t=true) {x i:Operand} (aJ:o.op=.indexAddr T x i) {b off len cap k:Nat} {wA:IntKind} (ab:a.eval x=.slice (some ⟨b,off,none⟩) len cap) (hi:a.eval i=.int wA k) (ae:k<len):(execOp a.eval o).run E.P w=.ok (.value (.pointer (some ⟨b,off+k*t.size,none⟩))) w:=by obtain⟨j,S,_,aY,bG⟩:=gr.ok bm;have hs:=(bG.lay ai).sizeOf w;have:(0:Int)<=(k:Int)/\(k:Int)<(len:Int):=⟨by omega,by omega⟩;simp[execOp,aJ,ab,hi,Instr.indexAt,asIntOf,run_underlying aY,this,hs,Addr.add_lit];intro aV;omega
theorem aqP (aq:cx C st a.tmps w I rt fp) {T:TypeId} {x i:Operand} (aJ:o.op=.indexAddr T x i) (h:(Bx E.tt st.h T (bu st.g x) (bu st.g i)).K Q):Yields E C st a w I rt fp o Q:=by
 have ab:=aq.bu x;have hi:=aq.bu i;unfold Bx at h;split at h
 ·exact h.elim
 rename_i u bm;generalize hv:a.eval x=v at ab;generalize HC:a.eval i=azS at hi;split at h
 case h_2=>exact h.elim
 rename_i wA n hN;rw[hN] at hi;cases hi with|val r=>
 obtain⟨_,rfl⟩:=r;split at h
 ·rename_i m t xs ex;cases ai:bI u t with
  |false=>rw[ai] at h;exact h.elim
  |true=>
   rw[ai] at h;obtain⟨y,aB,h⟩:=h;rw[ex] at ab;cases ab with|val r=>
   obtain⟨_,ad,cap,rfl,aN,aM,bb⟩:=r;obtain⟨aA,aX,bY⟩:=Zb aB;rcases bb with rfl|⟨b,off,rfl,bF,bH⟩
   ·simp at aX
   obtain⟨ds,cK,cG,c9⟩:=bH _ _ bY;have SN:a.eval i=.int wA (n.toNat:Nat):=(by rw[HC];show Value.int wA n=_;rw[<-aA]);exact .pure (SV bm ai aJ hv SN aX) (.val (τ:=.ptr m t) (x:=some y) (cs:=[.pointer (some ⟨b,off+n.toNat*t.size,none⟩)]) ⟨rfl,b,_,ds,rfl,bF,cK,cG,c9⟩) h
 ·rename_i id p ex;split at h
  case h_2=>exact h.elim
  rename_i τ y ah;split at h
  case h_2=>exact h.elim
  rename_i t fZ;cases ai:bI u t with
  |false=>rw[ai] at h;exact h.elim
  |true=>
   rw[ai] at h;obtain⟨⟨xs,k⟩,⟨aG,rfl,ae⟩,h⟩:=h;simp only at aG ae h;rw[ex] at ab;cases ab with|ref bC ag=>
   rw[ah] at bC;cases bC;obtain⟨rfl,f,hr,_⟩:=aq.mL ah aG ag;obtain⟨ad,cap,rfl,hr⟩:=hr;rcases hr with⟨_,rfl,_⟩|⟨b,off,dR,rfl,_,aN,aM,bb,bH⟩
   ·simp at ae
   obtain⟨ds,cK,cG,c9⟩:=bH k xs[k] (dR[k]'(by omega)) (by simp) (by simp)
   exact .pure (SV bm ai aJ hv HC ae) (.addr ah (ag.append (bv.aaS ae cK cG))) h
 ·rename_i id p lo d0 ex;split at h
  case h_2=>exact h.elim
  rename_i τ y ah;split at h
  case h_2=>exact h.elim
  rename_i t fZ;cases ai:bI u t with
  |false=>rw[ai] at h;exact h.elim
  |true=>
   rw[ai] at h;obtain⟨⟨xs,k⟩,⟨aG,rfl,ae⟩,h⟩:=h;simp only at aG ae h;rw[ex] at ab;cases ab with|oE=>(exact absurd ae (by omega))|view bC ag dp l2 mZ=>
   rename_i b off len cap;rw[ah] at bC;cases bC;obtain⟨e,f,hr,_⟩:=aq.mL ah aG ag;cases e;obtain⟨ad,fW,ay,hr⟩:=hr;simp only[hL,Value.slice.injEq,and_true] at ay;obtain⟨rfl,rfl,rfl⟩:=ay;rcases hr with⟨aV,_⟩|⟨c3,T5,dR,aV,_,aN,aM,bb,bH⟩
   ·cases aV
   cases aV;have ux:lo+k<xs.length:=(by omega);obtain⟨ds,cK,cG,c9⟩:=bH (lo+k) xs[lo+k] (dR[lo+k]'(by omega)) (by simp) (by simp)
   have:=SV (w:=w) bm ai aJ hv HC ae;rw[if_neg (by omega),show off+lo*t.size+k*t.size=off+(lo+k)*t.size by rw[ie];omega] at this;exact .pure this (.addr ah (ag.append (bv.aaS ux cK cG))) h
 ·exact h.elim
theorem br.pure {M:dE->Nat->Prop} {w:World}:∀{τ:au} {cs:List Value} {x:τ.den} {f:List Nat},τ.pure=true->br M w τ cs x f->f=[]
 |.int _,_,_,_,_,h=>h.1
 |.bool,_,_,_,_,h=>h.1
 |.str,_,_,_,_,h=>h.1
 |.bM _ _,_,_,_,_,h=>h.1
 |.ptr _ _,_,_,_,_,h=>h.1
 |.nil,_,_,_,_,h=>h.1
 |.st t,_,_,_,aw,h=>br.pure (τ:=t) aw h
 |.pr a b,_,_,_,aw,h=>by simp only[au.pure,bW] at aw;obtain⟨f1,cE,rfl,J,R⟩:=h;rw[br.pure (τ:=a) aw.1 J,br.pure (τ:=b) aw.2 R];rfl
 |.osl _,_,_,_,aw,_=>by cases aw
 |.optr _,_,_,_,aw,_=>by cases aw
 |.ey _ _,_,x,_,_,h=>by
  cases x with
  |none=>exact h.1
  |some q=>obtain⟨b,bK,L,_,R,_⟩:=h;exact R
 |.dG,_,_,_,aw,_=>by cases aw
def B8 (τ:au) (x:τ.den) (id:Nat) (p:List bB) (t:au):iw:=
 bif t.pure then .part t.den (fun y=>dD τ x p t y) (fun y=>(.val t y,[])) else .eh (.ref id p) []
def BG (tt:List (TypeId×au)) (h:List (Nat×a6)) (T:TypeId) (x:ax):iw:=
 match aD tt T with
 |none=>.bad
 |some u=>match x with
  |.val (.ptr _ t) (some y)=>bif bI u t then .eh (.val t y) [] else .bad
  |.addr id p=>match aD h id with
   |some ⟨τ,x⟩=>match eD τ p with
    |some t=>bif bI u t then B8 τ x id p t else .bad
    |none=>.bad
   |none=>.bad
  |.ref id p=>match aD h id with
   |some ⟨τ,x⟩=>match eD τ p with
    |some (.optr t)=>bif bI u t then B8 τ x id (p++[.deref]) t else .bad
    |_=>.bad
   |none=>.bad
  |_=>.bad
theorem Tw {T:TypeId} {u t:au} (bm:aD E.tt T=some u) (ai:bI u t=true) {x:Operand} (aJ:o.op=.load T x) {b off:Nat} {cs:List Value} (ab:a.eval x=.pointer (some ⟨b,off,none⟩)) (aC:eI w b off cs) (hc:cs.length=t.size):(execOp a.eval o).run E.P w=.ok (.value (cQ t cs)) w:=by have:=aet ((E.ok T u bm).lay ai) aC hc;simp[execOp,aJ,ab,Instr.loadAt,Instr.sureAddr,this]
theorem UU (aq:cx C st a.tmps w I rt fp) {id:Nat} {τ:au} {x:τ.den} (ah:aD st.h id=some ⟨τ,x⟩) {p:List bB} {t:au} {loc:Loc} {cs:List Value} (ag:bv w τ none (rt id) p t loc cs) (hr:(execOp a.eval o).run E.P w=.ok (.value (cQ t cs)) w) (h:(B8 τ x id p t).K Q):Yields E C st a w I rt fp o Q:=by
 unfold B8 at h;cases aw:t.pure with
 |true=>
  rw[aw] at h;obtain⟨y,aG,h⟩:=h;obtain⟨_,f,pb,_⟩:=aq.mL ah aG ag;have:=pb.pure aw;subst this;exact .pure hr (.val pb) h
 |false=>
  rw[aw] at h;exact .pure hr (.ref ah ag) h
theorem arP (aq:cx C st a.tmps w I rt fp) {T:TypeId} {x:Operand} (aJ:o.op=.load T x) (h:(BG E.tt st.h T (bu st.g x)).K Q):Yields E C st a w I rt fp o Q:=by
 have ab:=aq.bu x;unfold BG at h;split at h
 ·exact h.elim
 rename_i u bm;generalize hv:a.eval x=v at ab;split at h
 ·rename_i m t y ex;cases ai:bI u t with
  |false=>rw[ai] at h;exact h.elim
  |true=>
   rw[ai] at h;rw[ex] at ab;cases ab with|val r=>
   obtain⟨_,b,off,ds,rfl,aN,aM,bb,bH⟩:=r;exact .pure (Tw bm ai aJ hv bb aM) (.val bH) h
 ·rename_i id p ex;split at h
  case h_2=>exact h.elim
  rename_i τ y ah;split at h
  case h_2=>exact h.elim
  rename_i t fZ;cases ai:bI u t with
  |false=>rw[ai] at h;exact h.elim
  |true=>
   rw[ai] at h;rw[ex] at ab;cases ab with|addr bC ag=>
   rw[ah] at bC;cases bC;have:=ag.ty;rw[fZ] at this;cases this;obtain⟨aN,aM⟩:=aq.aeh ah ag;exact UU aq ah ag (Tw bm ai aJ hv (aM _ _ rfl) aN) h
 ·rename_i id p ex;split at h
  case h_2=>exact h.elim
  rename_i τ y ah;split at h
  case h_2=>exact h.elim
  rename_i t fZ;cases ai:bI u t with
  |false=>rw[ai] at h;exact h.elim
  |true=>
   rw[ai] at h;rw[ex] at ab;cases ab with|ref bC ag=>
   rename_i τ' loc cs;rw[ah] at bC;cases bC;have:=ag.ty;rw[fZ] at this;cases this;obtain⟨b,off,ds,rfl,cK,cG⟩:=th (aq.tree id _ ah).1 ag;exact UU aq ah (ag.append (bv.QG cK cG)) (Tw bm ai aJ hv cG cK) h
 ·exact h.elim
def A4 (tt:List (TypeId×au)) (h:List (Nat×a6)) (T:TypeId) (x:ax) (n:Nat):iw:=
 match nN tt T with
 |none=>.bad
 |some u=>match x with
  |.val (.ptr m (.st t)) (some y)=>bif bI u t then match wa t y n with
    |some ⟨tf,Ff⟩=>.eh (.val (.ptr m tf) (some Ff)) []
    |none=>.bad
   else .bad
  |.ref id p=>match aD h id with
   |some ⟨τ,_⟩=>match eD τ p with
    |some (.optr (.st t))=>bif bI u t then match eO t n with
      |some (s,_)=>.eh (.addr id (p++(.deref::.unst::s))) []
      |none=>.bad
     else .bad
    |_=>.bad
   |none=>.bad
  |.addr id p=>match aD h id with
   |some ⟨τ,_⟩=>match eD τ p with
    |some (.st t)=>bif bI u t then match eO t n with
      |some (s,_)=>.eh (.addr id (p++(.unst::s))) []
      |none=>.bad
     else .bad
    |_=>.bad
   |none=>.bad
  |_=>.bad
theorem Rj {T:TypeId} {u t:au} (bm:nN E.tt T=some u) (ai:bI u t=true) {n:Nat} {s:List bB} {tf:au} (hs:eO t n=some (s,tf)) {x:Operand} (aJ:o.op=.fieldAddr T x n) {b off:Nat} (ab:a.eval x=.pointer (some ⟨b,off,none⟩)):(execOp a.eval o).run E.P w=.ok (.value (.pointer (some ⟨b,off+d5 t n,none⟩))) w:=by obtain⟨fs,zs,aY,bG⟩:=nN.ok bm;obtain⟨f,aH,jY,mb⟩:=Rk (jL.lay ai bG) hs;have a2:tf.size≠0:=(by have:=mb.pos;omega);have R8:fs[n]?=some f:=(by simpa using aH);simp[execOp,aJ,ab,Instr.fieldAt,run_underlying aY,R8,Instr.sureAddr,fieldPlace,mb.sizeOf,a2,Addr.add_lit,jY]
theorem anH (aq:cx C st a.tmps w I rt fp) {T:TypeId} {x:Operand} {n:Nat} (aJ:o.op=.fieldAddr T x n) (h:(A4 E.tt st.h T (bu st.g x) n).K Q):Yields E C st a w I rt fp o Q:=by
 have ab:=aq.bu x;unfold A4 at h;split at h
 ·exact h.elim
 rename_i u bm;generalize hv:a.eval x=v at ab;split at h
 ·rename_i m t y ex;cases ai:bI u t with
  |false=>rw[ai] at h;exact h.elim
  |true=>
   rw[ai] at h;simp only[cond_true] at h;split at h
   case h_2=>exact h.elim
   rename_i tf Ff aH;rw[ex] at ab;cases ab with|val r=>
   obtain⟨_,b,off,ds,rfl,aN,aM,bb,bH⟩:=r;obtain⟨s,hs⟩:=Rn aH;obtain⟨b2,bo⟩:=Rm (τ:=t) bH aH;have dp:=bH.len;simp only[au.size] at dp b2 bo;exact .pure (Rj bm ai hs aJ hv) (.val (τ:=.ptr m tf) (x:=some Ff) (cs:=[.pointer (some ⟨b,off+d5 t n,none⟩)]) ⟨rfl,b,_,_,rfl,aN,by simp;omega,bb.drop.take,b2⟩) h
 ·rename_i id p ex;split at h
  case h_2=>exact h.elim
  rename_i τ y ah;split at h
  case h_2=>exact h.elim
  rename_i t fZ;cases ai:bI u t with
  |false=>rw[ai] at h;exact h.elim
  |true=>
   rw[ai] at h;simp only[cond_true] at h;split at h
   case h_2=>exact h.elim
   rename_i s tf hs;rw[ex] at ab;cases ab with|ref bC ag=>
   rw[ah] at bC;cases bC;have:=ag.ty;rw[fZ] at this;cases this;obtain⟨b,off,ds,rfl,cK,cG⟩:=th (aq.tree id _ ah).1 ag;rename_i loc;have q:bv w (.optr (.st t)) loc [.pointer (some ⟨b,off,none⟩)] (.deref::.unst::s) tf (some (b,off+d5 t n)) ((ds.drop (d5 t n)).take tf.size):=⟨b,off,ds,rfl,cK,cG,bv.My (l:=some (b,off)) hs⟩;exact .pure (Rj bm ai hs aJ hv) (.addr ah (ag.append q)) h
 ·rename_i id p ex;split at h
  case h_2=>exact h.elim
  rename_i τ y ah;split at h
  case h_2=>exact h.elim
  rename_i t fZ;cases ai:bI u t with
  |false=>rw[ai] at h;exact h.elim
  |true=>
   rw[ai] at h;simp only[cond_true] at h;split at h
   case h_2=>exact h.elim
   rename_i s tf hs;rw[ex] at ab;cases ab with|addr bC ag=>
   rw[ah] at bC;cases bC;have:=ag.ty;rw[fZ] at this;cases this;rename_i b off cs;have q:bv w (.st t) (some (b,off)) cs (.unst::s) tf (some (b,off+d5 t n)) ((cs.drop (d5 t n)).take tf.size):=bv.My (l:=some (b,off)) hs;exact .pure (Rj bm ai hs aJ hv) (.addr ah (ag.append q)) h
 ·exact h.elim
def DE (
 tt:List (TypeId×au)) (h:List (Nat×a6)) (T:TypeId) (x:ax) (n:Nat):iw:=
 match nN tt T with
 |none=>.bad
 |some u=>match x with
  |.val (.st t) y=>bif bI u t then match wa t y n with
    |some ⟨tf,Ff⟩=>.eh (.val tf Ff) []
    |none=>.bad
   else .bad
  |.ref id p=>match aD h id with
   |some ⟨τ,x⟩=>match eD τ p with
    |some (.st t)=>bif bI u t then match eO t n with
      |some (s,tf)=>B8 τ x id (p++(.unst::s)) tf
      |none=>.bad
     else .bad
    |_=>.bad
   |none=>.bad
  |_=>.bad
theorem YY {T:TypeId} {u t:au} (bm:nN E.tt T=some u) (ai:bI u t=true) {n:Nat} {s:List bB} {tf:au} (hs:eO t n=some (s,tf)) {x:Operand} (aJ:o.op=.field T x n) {cs:List Value} (ab:a.eval x=cQ (.st t) cs) (hc:d5 t n+tf.size<=cs.length):(execOp a.eval o).run E.P w=.ok (.value (cQ tf ((cs.drop (d5 t n)).take tf.size))) w:=by
 obtain⟨fs,zs,aY,bG⟩:=nN.ok bm;obtain⟨f,aH,jY,mb⟩:=Rk (jL.lay ai bG) hs;have a2:=mb.pos;have R8:fs[n]?=some f:=(by simpa using aH);simp only[kN] at jY;have ww:a.eval x=.agg cs.toArray:=ab;have key:(part f.type cs.toArray f.offset).run E.P w=.ok (cQ tf ((cs.drop (d5 t n)).take tf.size)) w:=by
  simp only[part,Sem.run_bind,mb.isAgg,Result.andThen_ok,jY];cases aj:uK tf with
  |true=>
   rw[OI aj];simp only[if_true,Sem.run_bind,mb.sizeOf,Result.andThen_ok,Sem.run_pure];congr 2;apply Array.ext';rw[Array.toList_extract,List.extract_eq_take_drop,sn]
  |false=>
   have J:=Un mb aj;rw[OH aj,J];have ca:d5 t n<cs.length:=(by omega);have:(cs.drop (d5 t n)).take 1=[cs[d5 t n]]:=(by rw[PA ca];rfl);rw[this];simp[ca]
 simp[execOp,aJ,ww,Instr.field,run_underlying aY,R8,asAgg,key]
theorem anJ (aq:cx C st a.tmps w I rt fp) {T:TypeId} {x:Operand} {n:Nat} (aJ:o.op=.field T x n) (h:(DE E.tt st.h T (bu st.g x) n).K Q):Yields E C st a w I rt fp o Q:=by
 have ab:=aq.bu x;unfold DE at h;split at h
 ·exact h.elim
 rename_i u bm;generalize hv:a.eval x=v at ab;split at h
 ·rename_i t y ex;cases ai:bI u t with
  |false=>rw[ai] at h;exact h.elim
  |true=>
   rw[ai] at h;simp only[cond_true] at h;split at h
   case h_2=>exact h.elim
   rename_i tf Ff aH;rw[ex] at ab;cases ab with|val r=>
   obtain⟨s,hs⟩:=Rn aH;obtain⟨b2,bo⟩:=Rm (τ:=t) r aH;have dp:=r.len;simp only[au.size] at dp;exact .pure (YY bm ai hs aJ hv (by simp only at*;omega)) (.val b2) h
 ·rename_i id p ex;split at h
  case h_2=>exact h.elim
  rename_i τ y ah;split at h
  case h_2=>exact h.elim
  rename_i t fZ;cases ai:bI u t with
  |false=>rw[ai] at h;exact h.elim
  |true=>
   rw[ai] at h;simp only[cond_true] at h;split at h
   case h_2=>exact h.elim
   rename_i s tf hs;rw[ex] at ab;cases ab with|ref bC ag=>
   rename_i τ' loc cs;rw[ah] at bC;cases bC;have:=ag.ty;rw[fZ] at this;cases this;obtain⟨aN,aM⟩:=aq.aeh ah ag;have q:bv w (.st t) loc cs (.unst::s) tf (loc.map fun q=>(q.1,q.2+d5 t n)) ((cs.drop (d5 t n)).take tf.size):=bv.My hs;exact UU aq ah (ag.append q) (YY bm ai hs aJ hv (by rw[aN];exact DF hs)) h
 ·exact h.elim
def BS (h:List (Nat×a6)) (x:ax):iw:=
 match x with
 |.val (.ptr m t) x=>.part t.den (fun y=>x=some y) (fun y=>(.val (.ptr m t) (some y),[]))
 |.ref id p=>match aD h id with
  |some ⟨τ,_⟩=>match eD τ p with
   |some (.optr _)=>.eh (.ref id p) []
   |_=>.bad
  |none=>.bad
 |.addr id p=>.eh (.addr id p) []
 |.d1 f l=>.eh (.d1 f l) []
 |_=>.bad
theorem atp (aq:cx C st a.tmps w I rt fp) {x:Operand} (aJ:o.op=.nilCheck x) (h:(BS st.h (bu st.g x)).K Q):Yields E C st a w I rt fp o Q:=by
 have ab:=aq.bu x;unfold BS at h;generalize hv:a.eval x=v at ab;split at h
 ·rename_i m t y ex;obtain⟨y,rfl,h⟩:=h;rw[ex] at ab;cases ab with|val r=>
  obtain⟨_,b,off,ds,rfl,aN,aM,bb,bH⟩:=r;exact .pure (v:=.pointer (some ⟨b,off,none⟩)) (by simp[execOp,aJ,hv,cQ]) (.val (τ:=.ptr m t) (x:=some y) (cs:=[.pointer (some ⟨b,off,none⟩)]) ⟨rfl,b,off,ds,rfl,aN,aM,bb,bH⟩) h
 ·rename_i id p ex;split at h
  case h_2=>exact h.elim
  rename_i τ y ah;split at h
  case h_2=>exact h.elim
  rename_i t fZ;rw[ex] at ab;cases ab with|ref bC ag=>
  rw[ah] at bC;cases bC;have:=ag.ty;rw[fZ] at this;cases this;obtain⟨b,off,ds,rfl,cK,cG⟩:=th (aq.tree id _ ah).1 ag;exact .pure (v:=.pointer (some ⟨b,off,none⟩)) (by simp[execOp,aJ,hv,cQ]) (.ref (τ':=.optr t) ah ag) h
 ·rename_i id p ex;rw[ex] at ab;cases ab with|addr ah ag=>
  exact .pure (by simp[execOp,aJ,hv]) (.addr ah ag) h
 ·rename_i f l ex;rw[ex] at ab;cases ab with|d1 ai ay=>
  exact .pure (by simp[execOp,aJ,hv]) (.d1 ai ay) h
 ·exact h.elim
def x0 (x:Option ax) (d k:Nat):Prop:=
 match x with
 |none=>k=d
 |some (.val (.int _) i)=>i=(k:Int)
 |some _=>False
def Cm (tt:List (TypeId×au)) (h:List (Nat×a6)) (T:TypeId) (x:ax) (lo hi:Option ax):iw:=
 match gr tt T with
 |none=>.bad
 |some u=>match x with
  |.val (.bM m t) xs=>bif bI u t then
   .part aCv (fun q=>x0 lo 0 q.1/\x0 hi xs.length q.2/\q.1<=q.2/\q.2<=xs.length) (fun q=>(.val (.bM m t) ((xs.take q.2).drop q.1),[])) else .bad
  |.ref id p=>match aD h id with
   |some ⟨τ,x⟩=>match eD τ p with
    |some (.osl t)=>bif bI u t then
     .part (List t.den×Nat×Nat) (fun q=>dD τ x p (.osl t) q.1/\x0 lo 0 q.2.1/\x0 hi q.1.length q.2.2/\q.2.1<=q.2.2/\q.2.2<=q.1.length) (fun q=>(.view id p q.2.1 q.2.2,[])) else .bad
    |_=>.bad
   |none=>.bad
  |_=>.bad
def P5 (a:Act) (x:Option Operand) (d k:Nat):Prop:=
 match x with
 |none=>k=d
 |some y=>∃q,a.eval y=.int q k
theorem Vm {T:TypeId} {u t:au} (bm:gr E.tt T=some u) (ai:bI u t=true) {x:Operand} {lo hi:Option Operand} (aJ:o.op=.slice T x lo hi none) {ad:Option Addr} {len cap l h:Nat} (ab:a.eval x=.slice ad len cap) (gp:P5 a lo 0 l) (kA:P5 a hi len h) (J:l<=h) (R:h<=cap):(execOp a.eval o).run E.P w=.ok (.value (.slice (if cap=l then ad else ad.map (·.add (l*t.size))) (h-l) (cap-l))) w:=by
 obtain⟨j,S,_,aY,bG⟩:=gr.ok bm;have hs:=(bG.lay ai).sizeOf w;have aA:(0:Int)<=(h:Int)/\(h:Int)<=(cap:Int):=⟨by omega,by omega⟩;have aX:(0:Int)<=(l:Int)/\(l:Int)<=(h:Int):=⟨by omega,by omega⟩;have bY:(Instr.sliceBounds true len cap (lo.map a.eval) (hi.map a.eval) none).run E.P w=.ok (l,h,cap) w:=by
  cases lo with
  |none=>
   obtain rfl:l=0:=gp;cases hi with
   |none=>obtain rfl:h=len:=kA;simp[Instr.sliceBounds]
   |some y=>obtain⟨k,ae⟩:=kA;simp[Instr.sliceBounds,Instr.sliceBound,ae,asIntOf,aA];intro aV;omega
  |some z=>
   obtain⟨c0,k9⟩:=gp;cases hi with
   |none=>obtain rfl:h=len:=kA;simp[Instr.sliceBounds,Instr.sliceBound,k9,asIntOf,aX];intro aV;omega
   |some y=>
    obtain⟨k,ae⟩:=kA;have pn:¬cap<h:=(by omega);have mj:¬h<l:=(by omega);simp[Instr.sliceBounds,Instr.sliceBound,ae,k9,asIntOf,J,R]
 simp[execOp,aJ,ab,Instr.sliceAt,Instr.slice,run_underlying aY,bY,hs]
theorem Db (aq:cx C st a.tmps w I rt fp) {x:Option Operand} {d k:Nat} (h:x0 (x.map (bu st.g)) d k):P5 a x d k:=by
 cases x with
 |none=>exact h
 |some y=>
  have:=aq.bu y;simp only[hC,x0] at h;split at h
  ·rename_i e;cases e
  ·rename_i q i e;simp only[cS] at e;rw[e] at this;subst h;generalize hv:a.eval y=v at this;cases this with|val r=>obtain⟨_,rfl⟩:=r;exact⟨q,hv⟩
  ·exact h.elim
theorem ayB (aq:cx C st a.tmps w I rt fp) {T:TypeId} {x:Operand} {lo hi:Option Operand} (aJ:o.op=.slice T x lo hi none) (h:(Cm E.tt st.h T (bu st.g x) (lo.map (bu st.g)) (hi.map (bu st.g))).K Q):Yields E C st a w I rt fp o Q:=by
 have ab:=aq.bu x;unfold Cm at h;split at h
 ·exact h.elim
 rename_i u bm;generalize hv:a.eval x=v at ab;split at h
 ·rename_i m t xs ex;cases ai:bI u t with
  |false=>rw[ai] at h;exact h.elim
  |true=>
   rw[ai] at h;obtain⟨⟨l,k⟩,⟨dg,dF,hE,kb⟩,h⟩:=h;simp only at dg dF hE kb h;rw[ex] at ab;cases ab with|val r=>
   obtain⟨_,ad,cap,rfl,aN,aM,bb⟩:=r;have eP:=Vm (w:=w) bm ai aJ hv (Db aq dg) (Db aq dF) hE (by omega);have d2:((xs.take k).drop l).length=k-l:=(by simp;omega);refine .pure eP (.val (τ:=.bM m t) (x:=(xs.take k).drop l) (cs:=[_]) ⟨rfl,_,cap-l,by rw[d2],by omega,?_,?_⟩) h
   ·intro aV;by_cases hc:cap=l
    ·omega
    ·rw[if_neg hc] at aV;cases ad with
     |none=>have:=aM rfl;omega
     |some _=>cases aV
   ·by_cases qB:k=l
    ·left;apply qi;omega
    ·right;rcases bb with rfl|⟨b,off,rfl,bF,bH⟩
     ·simp at kb;omega
     ·refine⟨b,off+l*t.size,by rw[if_neg (by omega)];simp[Addr.add_lit],bF,fun i y hi=>?_⟩;have d0:xs[l+i]?=some y:=by
       rw[n6,zU] at hi;split at hi
       ·exact hi
       ·cases hi
      obtain⟨ds,cK,cG,c9⟩:=bH _ _ d0;refine⟨ds,cK,?_,c9⟩;rwa[show off+l*t.size+i*t.size=off+(l+i)*t.size by rw[ie];omega]
 ·rename_i id p ex;split at h
  case h_2=>exact h.elim
  rename_i τ y ah;split at h
  case h_2=>exact h.elim
  rename_i t fZ;cases ai:bI u t with
  |false=>rw[ai] at h;exact h.elim
  |true=>
   rw[ai] at h;obtain⟨⟨xs,l,k⟩,⟨aG,dg,dF,hE,kb⟩,h⟩:=h;simp only at aG dg dF hE kb h;rw[ex] at ab;cases ab with|ref bC ag=>
   rw[ah] at bC;cases bC;obtain⟨rfl,f,hr,_⟩:=aq.mL ah aG ag;obtain⟨ad,cap,rfl,hr⟩:=hr;rcases hr with⟨rfl,rfl,rfl,_⟩|⟨b,off,dR,rfl,_,aN,aM,bb,bH⟩
   ·have wk:k=0:=(by simpa using kb);subst wk;have apz:l=0:=(by omega);subst apz;exact .pure (Vm (w:=w) bm ai aJ hv (Db aq dg) (Db aq dF) (bU _) (bU _)) (.oE id p) h
   have eP:=Vm (w:=w) bm ai aJ hv (Db aq dg) (Db aq dF) hE (by omega);have:(if cap=l then some (⟨b,off,none⟩:Addr) else(some (⟨b,off,none⟩:Addr)).map (·.add (l*t.size)))=some ⟨b,if cap=l then off else off+l*t.size,none⟩:=(by split<;>simp[Addr.add_lit]);rw[this] at eP;exact .pure eP (.view ah ag hE kb aM) h
 ·exact h.elim
end
end
section
def jT:(τ:au)->List Value->Option τ.den
 |.int k,cs=>match cs with
  |[.int c0 n]=>if k=c0 then some n else none
  |_=>none
 |.bool,cs=>match cs with
  |[.bool b]=>some b
  |_=>none
 |.str,cs=>match cs with
  |[.string s]=>some s
  |_=>none
 |.bM _ _,cs=>match cs with
  |[.slice none 0 0]=>some []
  |_=>none
 |.osl _,cs=>match cs with
  |[.slice none 0 0]=>some []
  |_=>none
 |.ptr _ _,cs=>match cs with
  |[.pointer none]=>some none
  |_=>none
 |.st t,cs=>jT t cs
 |.pr a b,cs=>match jT a (cs.take a.size),jT b (cs.drop a.size) with
  |some x,some y=>some (x,y)
  |_,_=>none
 |.nil,cs=>match cs with
  |[]=>some ()
  |_=>none
 |.optr _,_=>none
 |.dG,_=>none
 |.mp _,_=>none
 |.ey _ _,_=>none
theorem ud {M:dE->Nat->Prop} {w:World}:∀{τ:au} {cs:List Value} {x:τ.den},jT τ cs=some x->br M w τ cs x []
 |.int k,cs,x,h=>by
  simp only[jT] at h;split at h
  ·split at h
   ·rename_i ae;cases h;subst ae;exact⟨rfl,rfl⟩
   ·cases h
  ·cases h
 |.bool,cs,x,h=>by simp only[jT] at h;split at h<;>cases h;exact⟨rfl,rfl⟩
 |.str,cs,x,h=>by simp only[jT] at h;split at h<;>cases h;exact⟨rfl,rfl⟩
 |.bM _ _,cs,x,h=>by simp only[jT] at h;split at h<;>cases h;exact⟨rfl,none,0,rfl,bU _,fun _=>rfl,.inl rfl⟩
 |.osl _,cs,x,h=>by simp only[jT] at h;split at h<;>cases h;exact⟨none,0,rfl,.inl ⟨rfl,rfl,rfl,rfl⟩⟩
 |.ptr _ _,cs,x,h=>by simp only[jT] at h;split at h<;>cases h;exact⟨rfl,rfl⟩
 |.st t,cs,x,h=>ud (τ:=t) (by simp only[jT] at h;exact h)
 |.pr a b,cs,x,h=>by
  simp only[jT] at h;split at h
  ·rename_i x y ab aB;cases h;exact⟨[],[],rfl,ud (τ:=a) ab,ud (τ:=b) aB⟩
  ·cases h
 |.nil,cs,x,h=>by simp only[jT] at h;split at h<;>cases h;exact⟨rfl,rfl⟩
 |.optr _,cs,x,h=>by simp only[jT] at h;cases h
 |.dG,cs,x,h=>by simp only[jT] at h;cases h
 |.mp _,cs,x,h=>by simp only[jT] at h;cases h
 |.ey _ _,cs,x,h=>by simp only[jT] at h;cases h
theorem YZ (off:Nat):∀(l:List Value) (k:Nat) (cs:Array Value),let r:=(l.zipIdx k).foldl (fun cs (q:Value×Nat)=>cs.setIfInBounds (off+q.2) q.1) cs
 r.size=cs.size/\(∀j,j<off+k\/off+k+l.length<=j->r[j]?=cs[j]?)/\(off+k+l.length<=cs.size->∀j v,l[j]?=some v->r[off+k+j]?=some v)
 |[],k,cs=>⟨rfl,fun _ _=>rfl,fun _ j v h=>by simp at h⟩
 |x::l,k,cs=>by
  obtain⟨J,R,ac⟩:=YZ off l (k+1) (cs.setIfInBounds (off+k) x);simp only[List.zipIdx_cons,List.foldl_cons];refine⟨by rw[J];simp,fun j ao=>?_,fun hs j v hv=>?_⟩
  ·simp only[kJ] at ao;rw[R j (by omega),Pv (by omega)]
  ·simp only[kJ] at hs;cases j with
   |zero=>
    simp only[lX,cS] at hv;subst hv;rw[ql,R _ (by omega)];have:off+k<cs.size:=(by omega);simp[this]
   |succ j=>
    simp only[vr] at hv;have:=ac (by simp;omega) j v hv;rwa[show off+(k+1)+j=off+k+(j+1) by omega] at this
theorem G1 (place:Nat->Option aCv):∀(parts:List (Nat×Value)) (cells:Array Value),(∀q∈parts,∃off s,place q.1=some (off,s)/\q.2.cells.size=s/\off+s<=cells.size)->(parts.Pairwise fun q r=>∀o s bR s',place q.1=some (o,s)->place r.1=some (bR,s')->o+s<=bR\/bR+s'<=o)->∃r,Instr.fill place cells parts=some r/\r.size=cells.size/\(∀j,(∀q∈parts,∀o s,place q.1=some (o,s)->j<o\/o+s<=j)->r[j]?=cells[j]?)/\(∀q∈parts,∀o s,place q.1=some (o,s)->∀j v,q.2.cells[j]?=some v->r[o+j]?=some v)
 |[],cells,_,_=>⟨cells,rfl,rfl,fun _ _=>rfl,fun q aj=>by cases aj⟩
 |(i,v)::parts,cells,J,R=>by
  obtain⟨off,s,fy,eu,p8⟩:=J (i,v) (by simp);simp only at fy eu;rw[sm] at R;have a2:v.cells.zipIdx.foldl (fun cs (q:Value×Nat)=>cs.setIfInBounds (off+q.2) q.1) cells=(v.cells.toList.zipIdx 0).foldl (fun cs (q:Value×Nat)=>cs.setIfInBounds (off+q.2) q.1) cells:=(by rw[<-Array.foldl_toList,Array.toList_zipIdx]);obtain⟨f1,cE,g6⟩:=YZ off v.cells.toList 0 cells;rw[<-a2] at f1 cE g6;simp only[Array.length_toList] at cE g6;generalize hc:v.cells.zipIdx.foldl (fun cs (q:Value×Nat)=>cs.setIfInBounds (off+q.2) q.1) cells=XL at f1 cE g6;obtain⟨r,b2,bo,a5,bw⟩:=G1 place parts XL (fun q aj=>by
   obtain⟨bR,s',bS,bt,cY⟩:=J q (gC _ aj);exact⟨bR,s',bS,bt,by rw[f1];exact cY⟩) R.2
  refine⟨r,?_,by rw[bo,f1],fun j ao=>?_,fun q aj bR s' aw j u aR=>?_⟩
  ·have aa:(decide (v.cells.size≠s)||decide (off+v.cells.size>cells.size))=false:=(by simp;omega);simp only[Instr.fill,fy,aa];rw[show(v.cells.zipIdx.foldl (fun cs x=>match x with|(c,j)=>cs.setIfInBounds (off+j) c) cells)=XL from hc];simpa using b2
  ·rw[a5 j (fun q aj=>ao q (gC _ aj)),cE j (by have:=ao (i,v) (by simp) off s fy;omega)]
  ·rcases d4.1 aj with rfl|aj
   ·simp only at aw aR;rw[fy] at aw;cases aw;have lH:j<v.cells.size:=(q7.1 aR).1;rw[a5 (off+j) (fun q aj bR s' St=>by
     have:=R.1 q aj off s bR s' fy St;omega)]
    exact g6 (by omega) j u (by simpa using aR)
   ·exact bw q aj bR s' aw j u aR
section
variable {E:eV} {C:eb} {st:bj} {a:Act} {w:World} {I:Nat->Prop} {rt:Nat->List Value} {fp:Nat->List Nat} {o:Oper} {Q:ax->List (Nat×a6)->Prop}
theorem eI.alloc {w:World} {cells:Array Value} {T:TypeId} {o:Nat} {cs:List Value} (h:∀j v,cs[j]?=some v->cells[o+j]?=some v):eI (w.alloc (.cells cells T)) w.heap.size o cs:=fun j v ao=>by rw[World.cell?_alloc_new];exact h j v ao
theorem kq.alloc {w:World} {cells:Array Value} {T:TypeId} {lo hi:Nat} (h:hi<=cells.size):kq (w.alloc (.cells cells T)) w.heap.size lo hi:=fun j _ R=>by rw[World.cell?_alloc_new,World.frozen?_alloc_new];exact⟨by simp;omega,rfl⟩
theorem Yields.new {d:Nat} {t:a6} {v:Value} {cs:List Value} {f:List Nat} {cells:Array Value} {T:TypeId} (ag:aD st.h d=none) (aq:cx C st a.tmps w I rt fp) (hr:(execOp a.eval o).run E.P w=.ok (.value v) (w.alloc (.cells cells T))) (hv:v=cQ t.1 cs) (pb:br (bP I C.B) (w.alloc (.cells cells T)) t.1 cs t.2 f) (aH:∀b∈f,b=w.heap.size) (eA:f.Nodup) (aj:Q (.ref d []) [(d,t)]):Yields E C st a w I rt fp o Q:=by
 refine⟨v,_,I,fun _=>cs,fun _=>f,.ref d [],[(d,t)],hr,.alloc w _,fun _ h=>h,fun _ h=>.inl h,.one ag pb eA (fun b aa=>?_),?_,aj⟩
 ·rw[aH b aa];exact⟨bU _,by simp,fun h=>by have:=aq.ib _ (.inl h);omega⟩
 ·rw[hv];have ai:aD ([(d,t)]++st.h) d=some t:=(by rw[J9,dq,if_pos rfl]);refine .ref (t:=t) (τ':=t.1) (loc:=none) ai ?_;have:en [(d,t)] (fun _=>cs) rt d=cs:=(by simp[en,dq]);rw[this];exact bv.here
def BL (tt:List (TypeId×au)) (an:List (Nat×au)) (h:List (Nat×a6)) (d:Nat) (T:TypeId) (l c:ax):iw:=
 match gr tt T,aD an d,aD h d with
 |some u,some (.osl t),none=>match oF t,l,c with
  |some z,.val (.int _) l,.val (.int _) c=>bif bI u t&&Nat.ble t.size 2000 then
   .part aCv (fun q=>l=(q.1:Int)/\c=(q.2:Int)/\q.1<=q.2/\q.2<=gS) (fun q=>(.ref d [],[(d,⟨.osl t,List.replicate q.1 z⟩)])) else .bad
  |_,_,_=>.bad
 |_,_,_=>.bad
theorem asw (z:Array Value) (n i j:Nat) (v:Value) (_hz:0<z.size) (hv:z[j]?=some v) (hi:i<n):(madeCells z (n*z.size))[i*z.size+j]?=some v:=by have ao:j<z.size:=(q7.1 hv).1;have J:(i+1)*z.size<=n*z.size:=jQ _ hi;rw[ie,lx] at J;have R:(i*z.size+j) %z.size=j:=(by rw[Nat.add_comm,Nat.add_mul_mod_self_right,Nat.mod_eq_of_lt ao]);simp only[madeCells,Array.getElem?_map,Array.getElem?_range];rw[if_pos (by omega)];simp only[hC,R];rw[<-hv,getElem!_pos z j ao,Fk ao]
theorem asz (aq:cx C st a.tmps w I rt fp) {an:List (Nat×au)} {d:Nat} {T:TypeId} {l c:Operand} (aJ:o.op=.makeSlice T l c) (h:(BL E.tt an st.h d T (bu st.g l) (bu st.g c)).K Q):Yields E C st a w I rt fp o Q:=by
 have ai:=aq.bu l;have hc:=aq.bu c;unfold BL at h;split at h
 case h_2=>exact h.elim
 rename_i u t bm oo aP;split at h
 case h_2=>exact h.elim
 rename_i z ari n aq8 m a2 amB QZ;cases aa:(bI u t&&Nat.ble t.size 2000) with
 |false=>rw[aa] at h;exact h.elim
 |true=>
  rw[aa] at h;simp only[bW] at aa;obtain⟨⟨Ix,iW⟩,⟨rfl,rfl,J,R⟩,h⟩:=h;simp only at J R h;have el:=fQ aa.2;rw[amB] at ai;rw[QZ] at hc;generalize pX:a.eval l=aBP at ai;generalize aqw:a.eval c=aBO at hc;cases ai with|val b2=>cases hc with|val bo=>
  obtain⟨_,rfl⟩:=b2;obtain⟨_,rfl⟩:=bo;obtain⟨j,S,_,aY,bG⟩:=gr.ok bm;have jd:=bG.lay aa.1;obtain⟨i,iN,aN,aM,bb,bH⟩:=CH jd a2;obtain⟨lf,_,dv,_⟩:=jd.info;have ek:=dv.info;rw[aN] at ek;cases ek;have Bv:iN.cells.size=t.size:=(by have:=(bH (bP I C.B) w).len;simpa using this);have Hc:(i.bytes:Int)*(iW:Int)<=281474976710656:=(by have:i.bytes*iW<=48000*gS:=l1 (by have:=dv.bytes;omega) R;have ac:((i.bytes*iW:Nat):Int)<=281474976710656:=(by unfold gS at this;omega);rwa[oL] at ac);have eP:=run_make (P:=E.P) w T S i iN aY aN aM ari aq8 (Ix:Int) (iW:Int) (by omega) (by omega) Hc (by unfold gS at R;omega);simp only[d7,dv.size] at eP;rw[<-Bv] at eP;refine .new (d:=d) (cells:=madeCells iN.cells (iW*iN.cells.size)) (T:=S) (cs:=[.slice (some ⟨w.heap.size,0,none⟩) Ix iW]) (f:=[w.heap.size]) aP aq ?_ rfl ?_ (by simp) (by simp) h
  ·simp[execOp,aJ,pX,aqw,cQ,eP]
  ·refine⟨some ⟨w.heap.size,0,none⟩,iW,by simp,.inr ⟨w.heap.size,0,List.replicate Ix [],rfl,by simp,by simp,by simpa using J,kq.alloc (by rw[size_madeCells,Bv];omega),fun k x g ab aG=>?_⟩⟩;have ae:k<Ix:=(by have:=(fu.1 ab).1;simpa using this);obtain rfl:z=x:=(by rw[qj,if_pos ae] at ab;exact fH ab);obtain rfl:[]=g:=(by rw[qj,if_pos ae] at aG;exact fH aG);refine⟨iN.cells.toList,by simpa using Bv,eI.alloc (fun j v ao=>?_),bH _ _⟩;rw[kN,<-Bv];exact asw _ _ _ _ _ (by rw[Bv];exact jd.pos) (by simpa using ao) (by omega)
def C1 (tt:List (TypeId×au)) (an:List (Nat×au)) (h:List (Nat×a6)) (d:Nat) (T:TypeId):iw:=
 match aD tt T,aD an d,aD h d with
 |some u,some t,none=>match oF t with
  |some z=>bif bI u t then .eh (.ref d []) [(d,⟨.optr t,z⟩)] else .bad
  |none=>.bad
 |_,_,_=>.bad
theorem Yields.box {d:Nat} {τ:au} {x:τ.den} {cs:List Value} {T:TypeId} (ag:aD st.h d=none) (aq:cx C st a.tmps w I rt fp) (_hT:eB E.P τ T) (hr:(execOp a.eval o).run E.P w=.ok (.value (.pointer (some ⟨w.heap.size,0,none⟩))) (w.alloc (.cells cs.toArray T))) (pb:∀w',(∀m b,bP I C.B m b->df w w' b)->br (bP I C.B) w' τ cs x []) (aj:Q (.ref d []) [(d,⟨.optr τ,x⟩)]):Yields E C st a w I rt fp o Q:=by have bF:∀m b,bP I C.B m b->df w (w.alloc (.cells cs.toArray T)) b:=fun m b aa=>.of_heap ((it.alloc w _).heap b (aq.ib b (qQ aa)));have ow:=pb _ bF;have d2:=ow.len;refine .new (d:=d) (t:=⟨.optr τ,x⟩) (cs:=[.pointer (some ⟨w.heap.size,0,none⟩)]) (f:=[w.heap.size]) ag aq hr rfl ⟨w.heap.size,0,[],cs,rfl,rfl,d2,eI.alloc (fun j v ao=>by simpa using ao),kq.alloc (by simp[d2]),ow⟩ (by simp) (by simp) aj
theorem aj7 (aq:cx C st a.tmps w I rt fp) {an:List (Nat×au)} {d:Nat} {T:TypeId} (aJ:o.op=.alloc T) (h:(C1 E.tt an st.h d T).K Q):Yields E C st a w I rt fp o Q:=by
 unfold C1 at h;split at h
 case h_2=>exact h.elim
 rename_i u t bm oo aP;split at h
 case h_2=>exact h.elim
 rename_i z a2;cases aa:bI u t with
 |false=>rw[aa] at h;exact h.elim
 |true=>
  rw[aa] at h;have aH:=(E.ok T u bm).lay aa;obtain⟨i,iN,aN,aM,bb,bH⟩:=CH aH a2;refine .box (cs:=iN.cells.toList) aP aq aH ?_ (fun w' _=>bH _ _) h;simp[execOp,aJ,Instr.alloc,zeroValue,typeInfo,aN,aM,newVar,newRow]
def FN (tt:List (TypeId×au)) (h:List (Nat×a6)) (d:Nat) (T:TypeId) (x:ax):iw:=
 match aD tt T,aD h d with
 |some u,none=>match x with
  |.val τ x=>bif bI u τ then .eh (.ref d []) [(d,⟨.optr τ,x⟩)] else .bad
  |_=>.bad
 |_,_=>.bad
theorem akO (aq:cx C st a.tmps w I rt fp) {d:Nat} {T:TypeId} {x:Operand} (aJ:o.op=.box T x) (h:(FN E.tt st.h d T (bu st.g x)).K Q):Yields E C st a w I rt fp o Q:=by
 have ab:=aq.bu x;unfold FN at h;split at h
 case h_2=>exact h.elim
 rename_i u bm aP;split at h
 case h_2=>exact h.elim
 rename_i τ y ex;cases aa:bI u τ with
 |false=>rw[aa] at h;exact h.elim
 |true=>
  rw[aa] at h;rw[ex] at ab;generalize hv:a.eval x=v at ab;cases ab with|val r=>
  rename_i cs;have aH:=(E.ok T u bm).lay aa;refine .box (cs:=cs) aP aq aH ?_ (fun w' bF=>r.mono (fun m b aa=>⟨aa,bF m b aa⟩) (by simp)) h;simp[execOp,aJ,hv,Instr.box,newVar,newRow,tr aH r.len r.one]
def coe (t:au) (x:ax):Option t.den:=
 match x with
 |.val τ x=>if h:τ=t then some (h▸x) else none
 |.dh v=>jT t v.cells.toList
 |_=>none
def FQ (t:au):List ax->Option (List t.den)
 |[]=>some []
 |x::r=>match coe t x,FQ t r with
  |some y,some l=>some (y::l)
  |_,_=>none
theorem Qj {M:dE->Nat->Prop} {h:List (Nat×a6)} {t:au} {T:TypeId} (bm:eB E.P t T) {x:ax} {v:Value} (ab:cJ M w h rt fp x v) {y:t.den} (hc:coe t x=some y):br M w t v.cells.toList y []:=by
 unfold coe at hc;split at hc
 ·rename_i τ z;split at hc
  ·rename_i e;subst e;cases hc;cases ab with|val r=>
   rw[tr bm r.len r.one];exact r
  ·cases hc
 ·cases ab;exact ud hc
 ·cases hc
def Cj:List (Nat×Operand)->Nat->Bool
 |[],_=>true
 |q::r,k=>Nat.beq q.1 k&&Cj r (k+1)
def Dc (tt:List (TypeId×au)) (an:List (Nat×au)) (h:List (Nat×a6)) (g:Operand->ax) (d:Nat) (T:TypeId) (n:Nat) (parts:List (Nat×Operand)):iw:=
 match gr tt T,aD h d with
 |some u,none=>
  let t:=match aD an d with|some (.osl t)=>t|_=>u
  bif bI u t&&Nat.ble t.size 2000&&Nat.ble n 1000&&Cj parts 0&&Nat.beq parts.length n then
   match FQ t (parts.map fun q=>g q.2) with
   |some xs=>.eh (.ref d []) [(d,⟨.osl t,xs⟩)]
   |none=>.bad
  else .bad
 |_,_=>.bad
theorem X0 {t:au}:∀{l:List ax} {xs:List t.den},FQ t l=some xs->xs.length=l.length/\∀(i:Nat) (x:t.den),xs[i]?=some x->∃y:ax,l[i]?=some y/\coe t y=some x
 |[],xs,h=>by cases h;exact⟨rfl,fun i x h=>by simp at h⟩
 |y::l,xs,h=>by
  simp only[FQ] at h;split at h
  ·rename_i z r a2 hr;cases h;obtain⟨J,R⟩:=X0 hr;refine⟨by simp[J],fun i x hi=>?_⟩;cases i with
   |zero=>simp only[lX,cS] at hi;subst hi;exact⟨y,rfl,a2⟩
   |succ i=>simpa using R i x (by simpa using hi)
  ·cases h
theorem xd:∀{l:List (Nat×Operand)} {k:Nat},Cj l k=true->∀(i:Nat) (q:Nat×Operand),l[i]?=some q->q.1=k+i
 |[],_,_,i,q,h=>by simp at h
 |x::l,k,h,i,q,hi=>by
  simp only[Cj,bW] at h;cases i with
  |zero=>simp only[lX,cS] at hi;subst hi;exact fi h.1
  |succ i=>have:=xd h.2 i q (by simpa using hi);omega
theorem akS (aq:cx C st a.tmps w I rt fp) {an:List (Nat×au)} {d:Nat} {T:TypeId} {n:Nat} {parts:Array (Nat×Operand)} (aJ:o.op=.buildSlice T n parts) (h:(Dc E.tt an st.h (bu st.g) d T n parts.toList).K Q):Yields E C st a w I rt fp o Q:=by
 unfold Dc at h;split at h
 case h_2=>exact h.elim
 rename_i u bm aP;generalize ah:(match aD an d with|some (.osl t)=>t|_=>u)=t at h;simp only at h;cases aa:(bI u t&&Nat.ble t.size 2000&&Nat.ble n 1000&&Cj parts.toList 0&&Nat.beq parts.toList.length n) with
 |false=>rw[aa] at h;exact h.elim
 |true=>
  rw[aa] at h;simp only[bW] at aa;obtain⟨⟨⟨⟨dg,dF⟩,hE⟩,kb⟩,C4⟩:=aa;have dF:=fQ dF;have hE:=fQ hE;have C4:parts.toList.length=n:=fi C4;simp only[cond_true] at h;split at h
  case h_2=>exact h.elim
  rename_i xs Nr;obtain⟨j,S,_,aY,bG⟩:=gr.ok bm;have jd:=bG.lay dg;obtain⟨i,alT,dv,_⟩:=jd.info;have mS:=jd.pos;obtain⟨da,cw⟩:=X0 Nr;simp only[i6] at da;have HD:xs.length=n:=(by omega);have d2:n*t.size<=16777216:=(by have:n*t.size<=1000*2000:=l1 hE dF;omega);have nD:∀(k:Nat) (q:Nat×Operand),parts.toList[k]?=some q->∃x:t.den,xs[k]?=some x/\br (bP I C.B) w t (a.eval q.2).cells.toList x []:=(by intro k q ae;have qB:k<xs.length:=(by have:=(fu.1 ae).1;omega);obtain⟨y,aA,aX⟩:=cw k xs[k] (by simp);rw[gB,ae] at aA;simp only[hC,cS] at aA;subst aA;exact⟨xs[k],by simp,Qj jd (aq.bu q.2) aX⟩);obtain⟨HL,Sf,Sg⟩:∃JY:Array Value,(n*t.size=0->JY=#[])/\(n*t.size≠0->∃q6,(zeroValue S).run E.P w=.ok q6 w/\JY=q6.cells):=by
   by_cases aV:n*t.size=0
   ·exact⟨#[],fun _=>rfl,fun h=>absurd aV h⟩
   ·obtain⟨q6,_,SR⟩:=eB.RX jd;exact⟨q6.cells,fun h=>absurd h aV,fun _=>⟨q6,by simp[zeroValue,typeInfo,dv.info,SR i dv.info],rfl⟩⟩
  obtain⟨r,b2,bo,a5,bw⟩:=G1 (fun i=>some (i*t.size,t.size)) (parts.toList.map fun q=>(q.1,a.eval q.2)) ((Array.range (n*t.size)).map (HL[· %HL.size]!)) (by
   intro q aj;obtain⟨p,aw,rfl⟩:=dz.1 aj;obtain⟨k,ae,rfl⟩:=jO.1 aw;have k9:parts.toList[k]?=some parts.toList[k]:=(by simp);obtain⟨x,_,ab⟩:=nD k _ k9;have e:=xd kb k _ k9;have:(k+1)*t.size<=n*t.size:=jQ _ (by omega);rw[ie,lx] at this;refine⟨_,_,rfl,by have:=ab.len;simpa using this,?_⟩;simp only[Array.size_map,Array.size_range];rw[e,kN];exact this) (by
   rw[i7];intro k l ae ai qB hu fA kZ hx aA aX;simp only[List.getElem_map,cS,gX] at aA aX;simp only[i6] at ae ai;have f1:=xd kb k parts.toList[k] (by simp);have cE:=xd kb l parts.toList[l] (by simp);obtain⟨rfl,rfl⟩:=aA;obtain⟨rfl,rfl⟩:=aX;left;rw[f1,cE];have:(0+k+1)*t.size<=(0+l)*t.size:=jQ _ (by omega);rw[ie,lx] at this;exact this)
  have SC:r.size=n*t.size:=(by rw[bo];simp);refine .new (d:=d) (t:=⟨.osl t,xs⟩) (cells:=r) (T:=S) (cs:=[.slice (some ⟨w.heap.size,0,none⟩) n n]) (f:=[w.heap.size]) aP aq ?_ rfl ?_ (by simp) (by simp) h
  ·have el:=jd.sizeOf w;have fX:¬(16777216<n*t.size):=(by omega);have rJ:(Array.map (fun x=>(x.fst,a.eval x.snd)) parts).toList=parts.toList.map fun q=>(q.1,a.eval q.2):=(by simp);simp only[execOp,aJ,Instr.buildSlice,Sem.run_bind,run_underlying aY,Result.andThen_ok,el];rw[if_neg (by omega)];by_cases aV:n*t.size=0
   ·rw[if_pos aV];obtain rfl:=Sf aV;rw[rJ];simp only[Sem.run_bind,Sem.run_pure,Result.andThen_ok,b2,newRow,newObj];rfl
   ·rw[if_neg aV];obtain⟨q6,HF,rfl⟩:=Sg aV;rw[rJ];simp only[Sem.run_bind,Sem.run_pure,Result.andThen_ok,HF,b2,newRow,newObj];rfl
  ·refine⟨some ⟨w.heap.size,0,none⟩,n,by rw[HD],.inr ⟨w.heap.size,0,List.replicate n [],rfl,by simp,by simp[HD],(by show xs.length<=n;omega),kq.alloc (by rw[SC];omega),fun k x g ab aG=>?_⟩⟩;have ae:k<n:=(by have:k<xs.length:=(fu.1 ab).1;omega);obtain rfl:[]=g:=(by rw[qj,if_pos ae] at aG;exact fH aG);have k9:parts.toList[k]?=some (parts.toList[k]'(by omega)):=by simp
   obtain⟨hS,ww,pb⟩:=nD k _ k9;rw[ab] at ww;obtain rfl:=fH ww;refine⟨_,pb.len,eI.alloc (fun j v ao=>?_),pb.mono (fun m b aa=>⟨aa,.of_heap ((it.alloc w _).heap b (aq.ib b (qQ aa)))⟩) (by simp)⟩;have:=bw (parts.toList[k].1,a.eval parts.toList[k].2) (dz.2 ⟨parts.toList[k],dy _,rfl⟩) _ _ rfl j v (by simpa using ao);have e:=xd kb k _ k9;rw[e,kN] at this;simpa using this
end
end
section
def oz (l:List (Nat×Operand)) (n:Nat):Option Operand:=aD l n
def uP (
 g:Operand->ax) (parts:List (Nat×Operand)):au->Nat->Option a6
 |.pr a b,n=>
  match(match oz parts n with
   |none=>match oF a with
    |some z=>some (⟨a,z⟩:a6)
    |none=>none
   |some x=>match g x with
    |.val τ y=>bif bI a τ then some ⟨τ,y⟩ else none
    |.dh v=>match jT a v.cells.toList with
     |some y=>some ⟨a,y⟩
     |none=>none
    |_=>none),uP g parts b (n+1) with
  |some x,some y=>some ⟨.pr x.1 y.1,(x.2,y.2)⟩
  |_,_=>none
 |.nil,_=>some ⟨.nil,()⟩
 |_,_=>none
def ph:List (Nat×Operand)->Nat->Bool
 |[],_=>true
 |q::r,k=>Nat.ble k q.1&&ph r (q.1+1)
def f4:au->Nat
 |.pr _ b=>f4 b+1
 |_=>0
theorem SW:∀{l:List (Nat×Operand)} {k:Nat},ph l k=true->∀q∈l,k<=q.1
 |[],_,_,q,h=>by cases h
 |x::l,k,h,q,aj=>by
  simp only[ph,bW] at h;rcases d4.1 aj with rfl|aj
  ·exact fQ h.1
  ·have:=SW h.2 q aj;have:=fQ h.1;omega
theorem SY:∀{l:List (Nat×Operand)} {k:Nat},ph l k=true->l.Pairwise fun q r=>q.1<r.1
 |[],_,_=>List.Pairwise.nil
 |x::l,k,h=>by simp only[ph,bW] at h;exact List.Pairwise.cons (fun q aj=>by have:=SW h.2 q aj;omega) (SY h.2)
theorem If {α:Type}:∀{l:List (Nat×α)} {k:Nat} {v:α},aD l k=some v->(k,v)∈l
 |[],_,_,h=>by cases h
 |(k0,v0)::r,k,v,h=>by
  rw[dq] at h;split at h
  ·rename_i e;subst e;cases h;simp
  ·exact gC _ (If h)
theorem Tv {α:Type}:∀{l:List (Nat×α)} {k:Nat},aD l k=none->∀q∈l,q.1≠k
 |[],_,_,q,aj=>by cases aj
 |(k0,v0)::r,k,h,q,aj=>by
  rw[dq] at h;split at h
  ·cases h
  ·rename_i e;rcases d4.1 aj with rfl|aj
   ·exact e
   ·exact Tv h q aj
theorem wU {P:Program}:∀{u:au} {fs:List Field} {off:Nat} {zs:List Value},jL P u fs off zs->∀n,n<f4 u->∃s t,eO u n=some (s,t)
 |.pr a b,f::r,off,zs,h,0,_=>⟨_,_,rfl⟩
 |.pr a b,f::r,off,zs,h,n+1,ag=>by obtain⟨s,t,hs⟩:=wU (u:=b) h.2.2.2.2 n (by simp only[f4] at ag;omega);exact⟨.snd::s,t,by simp[eO,hs]⟩
 |.pr _ _,[],_,_,h,_,_=>h.elim
 |.int _,_,_,_,_,_,ag=>by simp[f4] at ag
 |.bool,_,_,_,_,_,ag=>by simp[f4] at ag
 |.str,_,_,_,_,_,ag=>by simp[f4] at ag
 |.bM _ _,_,_,_,_,_,ag=>by simp[f4] at ag
 |.osl _,_,_,_,_,_,ag=>by simp[f4] at ag
 |.ptr _ _,_,_,_,_,_,ag=>by simp[f4] at ag
 |.optr _,_,_,_,_,_,ag=>by simp[f4] at ag
 |.st _,_,_,_,_,_,ag=>by simp[f4] at ag
 |.nil,_,_,_,_,_,ag=>by simp[f4] at ag
 |.dG,_,_,_,_,_,ag=>by simp[f4] at ag
theorem A5:∀{u:au} {n m:Nat} {s s':List bB} {t t':au},eO u n=some (s,t)->eO u m=some (s',t')->n<m->d5 u n+t.size<=d5 u m
 |.pr a b,0,m+1,s,s',t,t',h,a7,_=>by simp only[eO,cS,gX] at h;obtain⟨_,rfl⟩:=h;simp[d5]
 |.pr a b,n+1,m+1,s,s',t,t',h,a7,ai=>by
  simp only[eO] at h a7;cases aj:eO b n with
  |none=>rw[aj] at h;cases h
  |some q=>
   cases fN:eO b m with
   |none=>rw[fN] at a7;cases a7
   |some f7=>
    rw[aj] at h;rw[fN] at a7;simp only[cS,gX] at h a7;obtain⟨_,rfl⟩:=h;obtain⟨_,rfl⟩:=a7;have:=A5 (u:=b) (s:=q.1) (t:=q.2) (s':=f7.1) (t':=f7.2) aj fN (by omega);simp only[d5];omega
 |.int _,_,_,_,_,_,_,h,_,_=>by cases h
 |.bool,_,_,_,_,_,_,h,_,_=>by cases h
 |.str,_,_,_,_,_,_,h,_,_=>by cases h
 |.bM _ _,_,_,_,_,_,_,h,_,_=>by cases h
 |.osl _,_,_,_,_,_,_,h,_,_=>by cases h
 |.ptr _ _,_,_,_,_,_,_,h,_,_=>by cases h
 |.optr _,_,_,_,_,_,_,h,_,_=>by cases h
 |.st _,_,_,_,_,_,_,h,_,_=>by cases h
 |.nil,_,_,_,_,_,_,h,_,_=>by cases h
 |.dG,_,_,_,_,_,_,h,_,_=>by cases h
theorem Rl:∀{u:au} {n:Nat} {s:List bB} {t:au},eO u n=some (s,t)->n<f4 u
 |.pr a b,0,_,_,_=>by simp[f4]
 |.pr a b,n+1,s,t,h=>by
  simp only[eO] at h;split at h
  ·rename_i q aj;have:=Rl (u:=b) (s:=q.1) (t:=q.2) aj;simp only[f4];omega
  ·cases h
 |.int _,_,_,_,h=>by cases h
 |.bool,_,_,_,h=>by cases h
 |.str,_,_,_,h=>by cases h
 |.bM _ _,_,_,_,h=>by cases h
 |.osl _,_,_,_,h=>by cases h
 |.ptr _ _,_,_,_,h=>by cases h
 |.optr _,_,_,_,h=>by cases h
 |.st _,_,_,_,h=>by cases h
 |.nil,_,_,_,h=>by cases h
 |.dG,_,_,_,h=>by cases h
theorem SX:∀{l:List (Nat×Operand)} {k:Nat} {p:Nat×Operand},ph l k=true->p∈l->oz l p.1=some p.2
 |[],_,_,_,h=>by cases h
 |x::l,k,p,h,aw=>by
  simp only[ph,bW] at h;obtain⟨Cu,kp⟩:=x;unfold oz;rw[dq];rcases d4.1 aw with rfl|aw
  ·rw[if_pos rfl]
  ·have:=SW h.2 p aw;simp only at this;rw[if_neg (by omega)];exact SX h.2 aw
section
variable {E:eV} {C:eb} {st:bj} {a:Act} {w:World} {I:Nat->Prop} {rt:Nat->List Value} {fp:Nat->List Nat} {o:Oper} {Q:ax->List (Nat×a6)->Prop}
def FM (tt:List (TypeId×au)) (g:Operand->ax) (T:TypeId) (parts:List (Nat×Operand)):iw:=
 match nN tt T with
 |none=>.bad
 |some u=>bif ph parts 0&&parts.all (fun q=>Nat.blt q.1 (f4 u)) then match uP g parts u 0 with
   |some t=>.eh (.val (.st t.1) t.2) []
   |none=>.bad
  else .bad
theorem abV {P:Program} {M:dE->Nat->Prop} {h:List (Nat×a6)} {g:Operand->ax} {iB:Operand->Value} (aG:∀x,cJ M w h rt fp (g x) (iB x)) {parts:List (Nat×Operand)} {cells:List Value}:∀{u:au} {n:Nat} {fs:List Field} {off:Nat} {zs:List Value} {t:a6},jL P u fs off zs->uP g parts u n=some t->cells.length=off+u.size->(∀m s τ,eO u m=some (s,τ)->(∀x,oz parts (n+m)=some x->(iB x).cells.size=τ.size/\(cells.drop (off+d5 u m)).take τ.size=(iB x).cells.toList)/\(oz parts (n+m)=none->(cells.drop (off+d5 u m)).take τ.size=(zs.drop (d5 u m)).take τ.size))->br M w t.1 (cells.drop off) t.2 []/\t.1.size=u.size
 |.pr a b,n,f::r,off,zs,t,dn,ak,ai,hc=>by
  simp only[uP] at ak;split at ak
  case h_2=>cases ak
  rename_i x y ab aB;cases ak;obtain⟨J,R,ac,⟨i,z,aN,aM,bb⟩,aY⟩:=dn;have o7:=hc 0 _ a rfl;simp only[ql,d5,qh] at o7;have dY:br M w x.1 ((cells.drop off).take a.size) x.2 []/\x.1.size=a.size:=by
   split at ab
   ·rename_i aw;split at ab
    ·rename_i h8 a2;cases ab;obtain⟨lf,iN,b2,bo,_,bw⟩:=CH R a2;rw[aN] at b2;cases b2;rw[aM] at bo;cases bo;rw[o7.2 aw,bb];exact⟨bw M w,rfl⟩
    ·cases ab
   ·rename_i p aw;have k8:=aG p;obtain⟨bk,bD⟩:=o7.1 p aw;split at ab
    ·rename_i τ y' e;cases aa:bI a τ with
     |false=>rw[aa] at ab;cases ab
     |true=>
      rw[aa] at ab;cases ab;rw[e] at k8;rw[bD];generalize hv:iB p=v at k8;cases k8 with|val ll=>
      rw[tr (R.lay aa) ll.len ll.one];exact⟨ll,(bI.size aa).symm⟩
    ·rename_i v e;split at ab
     ·rename_i y' uG;cases ab;rw[e] at k8;rw[bD];generalize hv:iB p=ew at k8;cases k8;exact⟨ud uG,rfl⟩
     ·cases ab
    ·cases ab
  have dZ:=abV aG (parts:=parts) (cells:=cells) (u:=b) (n:=n+1) (off:=off+a.size) (zs:=zs.drop a.size) aY aB (by rw[ai];simp only[au.size];omega) (by
   intro m s τ hs;have:=hc (m+1) (.snd::s) τ (by simp[eO,hs]);simp only[d5] at this;rw[show n+(m+1)=n+1+m by omega,show off+(a.size+d5 b m)=off+a.size+d5 b m by omega] at this;rw[tP];exact this)
  refine⟨⟨[],[],rfl,?_,?_⟩,by simp only[au.size];omega⟩
  ·rw[dY.2];exact dY.1
  ·rw[dY.2,tP];exact dZ.1
 |.nil,n,[],off,zs,t,dn,ak,ai,hc=>by cases ak;exact⟨⟨rfl,by rw[List.drop_eq_nil_iff];simp only[au.size] at ai;omega⟩,rfl⟩
 |.pr _ _,_,[],_,_,_,h,_,_,_=>h.elim
 |.nil,_,_::_,_,_,_,h,_,_,_=>h.elim
 |.int _,_,_,_,_,_,h,_,_,_=>by cases h
 |.bool,_,_,_,_,_,h,_,_,_=>by cases h
 |.str,_,_,_,_,_,h,_,_,_=>by cases h
 |.bM _ _,_,_,_,_,_,h,_,_,_=>by cases h
 |.osl _,_,_,_,_,_,h,_,_,_=>by cases h
 |.ptr _ _,_,_,_,_,_,h,_,_,_=>by cases h
 |.optr _,_,_,_,_,_,h,_,_,_=>by cases h
 |.st _,_,_,_,_,_,h,_,_,_=>by cases h
 |.dG,_,_,_,_,_,h,_,_,_=>by cases h
theorem abW {P:Program} {M:dE->Nat->Prop} {h:List (Nat×a6)} {g:Operand->ax} {iB:Operand->Value} (aG:∀x,cJ M w h rt fp (g x) (iB x)) {parts:List (Nat×Operand)}:∀{u:au} {n:Nat} {fs:List Field} {off:Nat} {zs:List Value} {t:a6},jL P u fs off zs->uP g parts u n=some t->∀m s τ,eO u m=some (s,τ)->∀x,oz parts (n+m)=some x->(iB x).cells.size=τ.size
 |.pr a b,n,f::r,off,zs,t,dn,ak,m,s,τ,hs,x,aw=>by
  simp only[uP] at ak;split at ak
  case h_2=>cases ak
  rename_i ko fP ab aB;obtain⟨J,R,ac,⟨i,z,aN,aM,bb⟩,aY⟩:=dn;cases m with
  |zero=>
   simp only[eO,cS,gX] at hs;obtain⟨_,rfl⟩:=hs;rw[ql] at aw;rw[aw] at ab;have k8:=aG x;simp only at ab;split at ab
   ·rename_i τ y' e;cases aa:bI a τ with
    |false=>rw[aa] at ab;cases ab
    |true=>
     rw[e] at k8;generalize hv:iB x=v at k8;cases k8 with|val ll=>
     rw[tr (R.lay aa) ll.len ll.one];have:=ll.len;have:=bI.size aa;simp;omega
   ·rename_i v e;split at ab
    ·rename_i y' uG;rw[e] at k8;generalize hv:iB x=ew at k8;cases k8;have:=(ud (M:=M) (w:=w) uG).len;simpa using this
    ·cases ab
   ·cases ab
  |succ m=>
   simp only[eO] at hs;split at hs
   ·rename_i q aj;simp only[cS,gX] at hs;obtain⟨_,rfl⟩:=hs;exact abW aG (u:=b) (n:=n+1) aY aB m q.1 q.2 aj x (by rwa[show n+1+m=n+(m+1) by omega])
   ·cases hs
 |.pr _ _,_,[],_,_,_,h,_,_,_,_,_,_,_=>h.elim
 |.nil,_,_,_,_,_,_,_,_,_,_,hs,_,_=>by cases hs
 |.int _,_,_,_,_,_,h,_,_,_,_,_,_,_=>by cases h
 |.bool,_,_,_,_,_,h,_,_,_,_,_,_,_=>by cases h
 |.str,_,_,_,_,_,h,_,_,_,_,_,_,_=>by cases h
 |.bM _ _,_,_,_,_,_,h,_,_,_,_,_,_,_=>by cases h
 |.osl _,_,_,_,_,_,h,_,_,_,_,_,_,_=>by cases h
 |.ptr _ _,_,_,_,_,_,h,_,_,_,_,_,_,_=>by cases h
 |.optr _,_,_,_,_,_,h,_,_,_,_,_,_,_=>by cases h
 |.st _,_,_,_,_,_,h,_,_,_,_,_,_,_=>by cases h
 |.dG,_,_,_,_,_,h,_,_,_,_,_,_,_=>by cases h
theorem run_places {P:Program} (w:World):∀(u:au) (fs:List Field) (off:Nat) (zs:List Value),jL P u fs off zs->(fs.mapM fun f=>do Pure.pure (f.offset,<-sizeOf f.type):Sem (List aCv)).run P w=.ok ((List.range (f4 u)).map fun n=>(off+d5 u n,match eO u n with|some q=>q.2.size|none=>0)) w
 |.pr a b,f::r,off,zs,h=>by have aZ:=run_places w b r (off+a.size) (zs.drop a.size) h.2.2.2.2;simp only[List.mapM_cons,Sem.run_bind,h.2.1.sizeOf,Result.andThen_ok,Sem.run_pure,aZ];simp only[f4,List.range_succ_eq_map,ff,xK,h.1,d5,ql,eO];congr 2;apply kK;intro n _;simp only[Function.comp,d5,eO];rw[CU];cases eO b n<;>rfl
 |.nil,[],_,_,_=>rfl
 |.pr _ _,[],_,_,h=>h.elim
 |.nil,_::_,_,_,h=>h.elim
 |.int _,_,_,_,h=>by cases h
 |.bool,_,_,_,h=>by cases h
 |.str,_,_,_,h=>by cases h
 |.bM _ _,_,_,_,h=>by cases h
 |.osl _,_,_,_,h=>by cases h
 |.ptr _ _,_,_,_,h=>by cases h
 |.optr _,_,_,_,h=>by cases h
 |.st _,_,_,_,h=>by cases h
 |.dG,_,_,_,h=>by cases h
theorem akF (aq:cx C st a.tmps w I rt fp) {T:TypeId} {parts:Array (Nat×Operand)} (aJ:o.op=.build T parts) (h:(FM E.tt (bu st.g) T parts.toList).K Q):Yields E C st a w I rt fp o Q:=by
 unfold FM at h;split at h
 ·exact h.elim
 rename_i u bm;cases aa:(ph parts.toList 0&&parts.toList.all (fun q=>Nat.blt q.1 (f4 u))) with
 |false=>rw[aa] at h;exact h.elim
 |true=>
  rw[aa] at h;simp only[bW,fM] at aa;obtain⟨dg,dF⟩:=aa;simp only[cond_true] at h;split at h
  case h_2=>exact h.elim
  rename_i t ah;obtain⟨i,fs,zs,J,R,aL,aY,bG,eF⟩:∃i fs zs,E.P.info? T=some i/\i.size=u.size/\i.zero=some (.agg zs)/\E.P.underlying T=some (.struct fs)/\jL E.P u fs.toList 0 zs.toList/\zs.size=u.size:=by
   unfold nN at bm;split at bm
   ·rename_i i4 ai;cases bm;obtain⟨_,i,fs,zs,aN,aM,_,bH,dv,p9,B3⟩:=E.ok T _ ai;exact⟨i,fs,zs,aN,aM,bH,dv,p9,B3⟩
   ·cases bm
  have el:=abW (fun x=>aq.bu x) bG ah;have nJ:=run_places (P:=E.P) w u fs.toList 0 zs.toList bG;simp only[kN] at nJ el;generalize Sy:((List.range (f4 u)).map fun n=>(d5 u n,match eO u n with|some q=>q.2.size|none=>0))=B0 at nJ;have sZ:∀n s τ,eO u n=some (s,τ)->n<f4 u->B0.toArray[n]?=some (d5 u n,τ.size):=(by intro n s τ hs ag;rw[<-Sy];simp[ag,hs]);obtain⟨r,b2,bo,a5,bw⟩:=G1 (fun i=>B0.toArray[i]?) (parts.toList.map fun q=>(q.1,a.eval q.2)) zs (by
   intro q aj;obtain⟨p,aw,rfl⟩:=dz.1 aj;have ca:p.1<f4 u:=fQ (dF p aw);obtain⟨s,τ,hs⟩:=wU bG p.1 ca;refine⟨_,_,sZ _ _ _ hs ca,el _ _ _ hs p.2 ?_,by rw[eF];exact DF hs⟩;exact SX dg aw) (by
   rw[CS];refine(SY dg).imp_of_mem ?_;intro q f7 aj fN ca hu fA kZ hx aA aX;have dp:q.1<f4 u:=fQ (dF q aj);have l2:f7.1<f4 u:=fQ (dF f7 fN);obtain⟨Vd,ta,aC⟩:=wU bG q.1 dp;obtain⟨ayo,tb,aa⟩:=wU bG f7.1 l2;rw[sZ _ _ _ aC dp] at aA;rw[sZ _ _ _ aa l2] at aX;cases aA;cases aX;exact .inl (A5 aC aa ca))
  have rK:r.toList.length=u.size:=(by simp[bo,eF]);obtain⟨bS,bt⟩:=abV (w:=w) (fun x=>aq.bu x) (parts:=parts.toList) (cells:=r.toList) (u:=u) (n:=0) (off:=0) bG ah (by omega) (by
   intro m s τ hs;have ak:m<f4 u:=Rl hs;simp only[kN];have fb:=DF hs;refine⟨fun x ab=>?_,fun ab=>?_⟩
   ·have kk:=If ab;have a2:=el m s τ hs x ab;refine⟨a2,?_⟩;apply jN;intro j;rcases ct j τ.size with ao|ao
    ·obtain⟨v,hv⟩:∃v,(a.eval x).cells[j]?=some v:=⟨_,Fk (by omega)⟩;have:=bw (m,a.eval x) (dz.2 ⟨(m,x),kk,rfl⟩) _ _ (sZ _ _ _ hs ak) j v hv;rw[pH ao,n6];simp only[CI];rw[this,hv]
    ·rw[gW (by simp;omega),gW (by simp;omega)]
   ·apply jN;intro j;rcases ct j τ.size with ao|ao
    ·rw[pH ao,pH ao,n6,n6];simp only[CI];refine a5 _ ?_;intro q aj hu fA aA;obtain⟨p,aw,rfl⟩:=dz.1 aj;have cX:=Tv ab p aw;have dp:p.1<f4 u:=fQ (dF p aw);obtain⟨Vd,ta,aC⟩:=wU bG p.1 dp;rw[sZ _ _ _ aC dp] at aA;cases aA;rcases Nat.lt_or_gt_of_ne cX with ca|Hk
     ·have:=A5 aC hs ca;omega
     ·have:=A5 hs aC Hk;omega
    ·rw[gW (by simp;omega),gW (by simp;omega)])
  rw[qh] at bS;refine .pure (v:=.agg r) ?_ (.val (τ:=.st t.1) (cs:=r.toList) bS) h;have rJ:(Array.map (fun x=>(x.fst,a.eval x.snd)) parts).toList=parts.toList.map fun q=>(q.1,a.eval q.2):=(by simp);have Sx:(fs.mapM fun f=>do Pure.pure (f.offset,<-sizeOf f.type):Sem (Array aCv)).run E.P w=.ok B0.toArray w:=(by rw[Array.mapM_eq_mapM_toList,Sem.run_map,nJ];rfl);have a2:(zeroValue T).run E.P w=.ok (.agg zs) w:=(by simp[zeroValue,typeInfo,J,aL]);simp only[execOp,aJ,Instr.build,Sem.run_bind,a2,run_underlying aY,Result.andThen_ok,Sx,rJ,Value.cells,b2];rfl
end
end
section
def e9 {α:Type}:List (Int×α)->Int->Option α
 |[],_=>none
 |(a,v)::r,k=>if a=k then some v else e9 r k
def jH {α:Type}:List (Int×α)->Int->α->List (Int×α)
 |[],k,v=>[(k,v)]
 |(a,u)::r,k,v=>if k<a then(k,v)::(a,u)::r else if k=a then(k,v)::r else(a,u)::jH r k v
def kl {α:Type} (l:List (Int×α)) (k:Int):List (Int×α):=l.filter fun q=>decide (q.1≠k)
def lM {α:Type} (m:Option (List (Int×α)×Nat)) (k:Int):Option α:=m.bind fun q=>e9 q.1 k
def Es {α:Type} (m:Option (List (Int×α)×Nat)):Int:=match m with|some q=>(q.1.length:Int)|none=>0
section
variable {α:Type}
theorem NY:∀{l:List (Int×α)} {k:Int} {v:α},e9 l k=some v->(k,v)∈l
 |[],_,_,h=>by cases h
 |(a,u)::r,k,v,h=>by
  simp only[e9] at h;split at h
  ·rename_i e;cases h;subst e;exact nk ..
  ·exact gC _ (NY h)
theorem abF:∀{l:List (Int×α)} {k:Int},e9 l k=none->∀v,(k,v)∉l
 |[],_,_,_=>by simp
 |(a,u)::r,k,h,v=>by
  simp only[e9] at h;split at h
  ·cases h
  ·rename_i e;intro ak;rcases d4.1 ak with J|J
   ·cases J;exact e rfl
   ·exact abF h v J
theorem aeN {l:List (Int×α)} (h:l.Pairwise (fun a b=>a.1<b.1)):(l.map (·.1)).Nodup:=by rw[List.Nodup,CS];exact h.imp (fun h e=>by omega)
theorem ase {l:List (Int×α)} (h:(l.map (·.1)).Nodup) {k:Int} {v:α}:e9 l k=some v↔(k,v)∈l:=by
 constructor
 ·exact NY
 ·intro ak
  induction l with
  |nil=>cases ak
  |cons q r aZ=>
   obtain⟨a,u⟩:=q;simp only[ff,mB] at h;simp only[e9];rcases d4.1 ak with J|J
   ·cases J;rw[if_pos rfl]
   ·rw[if_neg,aZ h.2 J];rintro rfl;exact h.1 (dz.2 ⟨_,J,rfl⟩)
theorem abG:∀{l:List (Int×α)} {k:Int} {v:α} {q:Int×α},q∈jH l k v->q=(k,v)\/q∈l
 |[],k,v,q,h=>by simpa[jH] using h
 |(a,u)::r,k,v,q,h=>by
  simp only[jH] at h;split at h
  ·rcases d4.1 h with h|h
   ·exact .inl h
   ·exact .inr h
  ·split at h
   ·rcases d4.1 h with h|h
    ·exact .inl h
    ·exact .inr (gC _ h)
   ·rcases d4.1 h with h|h
    ·exact .inr (h▸nk ..)
    ·exact(abG h).imp id (gC _)
theorem TE:∀{l:List (Int×α)} {k:Int} {v:α},l.Pairwise (fun a b=>a.1<b.1)->(jH l k v).Pairwise (fun a b=>a.1<b.1)
 |[],k,v,_=>by simp[jH]
 |(a,u)::r,k,v,h=>by
  rw[sm] at h;simp only[jH];split
  ·rename_i ae;rw[sm,sm];refine⟨fun q aj=>?_,h.1,h.2⟩;rcases d4.1 aj with rfl|aj
   ·exact ae
   ·have:=h.1 q aj;simp only at this|-;omega
  ·rename_i ae;split
   ·rename_i e;subst e;rw[sm];exact⟨h.1,h.2⟩
   ·rename_i e;rw[sm];refine⟨fun q aj=>?_,TE h.2⟩;rcases abG aj with rfl|aj
    ·simp only;omega
    ·exact h.1 q aj
theorem asb {l:List (Int×α)} {k:Int} (h:l.Pairwise (fun a b=>a.1<b.1)):(kl l k).Pairwise (fun a b=>a.1<b.1):=h.filter _
theorem TD:∀{l:List (Int×α)} {k:Int} {v:α},l.Pairwise (fun a b=>a.1<b.1)->(jH l k v).Perm ((k,v)::kl l k)
 |[],k,v,_=>by simp[jH,kl]
 |(a,u)::r,k,v,h=>by
  rw[sm] at h;simp only[jH];split
  ·rename_i ae;have:kl ((a,u)::r) k=(a,u)::r:=by
    unfold kl;rw[rc];intro q aj;rcases d4.1 aj with rfl|aj
    ·simp;omega
    ·have:=h.1 q aj;simp only at this;simp;omega
   rw[this]
  ·rename_i ae;split
   ·rename_i e;subst e;have:kl ((k,u)::r) k=r:=by
     unfold kl;rw[nj,if_neg (by simp),rc];intro q aj;have:=h.1 q aj;simp only at this;simp;omega
    rw[this]
   ·rename_i e;have:kl ((a,u)::r) k=(a,u)::kl r k:=by
     unfold kl;rw[nj,if_pos (by simp;omega)]
    rw[this];exact((TD h.2).cons _).trans (.swap _ _ _)
end
section
variable {P:Program} {w:World} {b:Nat} {bK:Array MapEntry} {c:Nat}
theorem qO:j0 w b=some (bK,c)↔w.heap[b]?=some (.map bK c):=by
 unfold j0;constructor
 ·intro h;split at h
  ·rename_i es' c' ay;cases h;exact ay
  ·cases h
 ·intro h;rw[h]
theorem u1 {es':Array MapEntry} {c':Nat} (h:w.heap[b]?=some (.map bK c)):(setObj b (.map es' c')).run P w=.ok () {w with heap:=w.heap.setIfInBounds b (.map es' c')}:=by simp[setObj,Sem.run,h]
theorem run_getObj_map (h:w.heap[b]?=some (.map bK c)):(getObj b).run P w=.ok (.map bK c) w:=by simp[getObj,Sem.run,h]
theorem YV {kd:IntKind} (k:Int):∀(bK:List MapEntry) (uM:List Int) (n:Nat),bK.map (·.key)=uM.map (Value.int .i64)->k∉uM->Instr.findNow (.int kd) (.int .i64 k) bK n=some none
 |[],_,_,_,_=>rfl
 |e::bK,[],_,h,_=>by cases h
 |e::bK,a::uM,n,h,ae=>by simp only[ff,hL] at h;have cX:(k==a)=false:=(by simp;rintro rfl;exact ae (by simp));simp only[Instr.findNow,h.1,Instr.sameNow,if_true,cX];exact YV k bK uM (n+1) h.2 (fun ay=>ae (gC _ ay))
theorem YW {kd:IntKind} (k:Int):∀(bK:List MapEntry) (uM:List Int) (n:Nat),bK.map (·.key)=uM.map (Value.int .i64)->k∈uM->∃i e,uM[i]?=some k/\bK[i]?=some e/\Instr.findNow (.int kd) (.int .i64 k) bK n=some (some (n+i,e.val))
 |[],[],_,_,h=>by cases h
 |[],_::_,_,h,_=>by cases h
 |e::bK,[],_,h,_=>by cases h
 |e::bK,a::uM,n,h,ae=>by
  simp only[ff,hL] at h;by_cases ek:k=a
  ·subst ek;refine⟨0,e,rfl,rfl,?_⟩;simp only[Instr.findNow,h.1,Instr.sameNow,if_true,beq_self_eq_true];rfl
  ·have cX:(k==a)=false:=(by simpa using ek);obtain⟨i,dI,J,R,ac⟩:=YW k bK uM (n+1) h.2 ((d4.1 ae).resolve_left ek);refine⟨i+1,dI,by simpa using J,by simpa using R,?_⟩;simp only[Instr.findNow,h.1,Instr.sameNow,if_true,cX];rw[ac];simp only[cS,gX,and_true];omega
structure hl (M:dE->Nat->Prop) (w:World) (t:au) (b:Nat) (l:List (Int×t.den)) (c:Nat) (bK:Array MapEntry) (L:List (Int×Nat×t.den)):Prop where
 td:lZ L l c
 h:w.heap[b]?=some (.map bK c)
 n:bK.size=L.length
 e:∀(i:Nat) (q:Int×Nat×t.den),L[i]?=some q->∃ds:List Value,ds.length=t.size/\bK[i]?=some (MapEntry.mk (.int .i64 q.1) (cQ t ds) q.2.1)/\br M w t ds q.2.2 []
variable {M:dE->Nat->Prop} {t:au} {l:List (Int×t.den)} {L:List (Int×Nat×t.den)}
theorem hl.keys (h:hl M w t b l c bK L):bK.toList.map (·.key)=(L.map (·.1)).map (Value.int .i64):=by
 apply jN;intro i;simp only[gB,CI];rcases ct i L.length with hi|hi
 ·obtain⟨ds,_,R,_⟩:=h.e i L[i] (cr hi);rw[R,cr hi];rfl
 ·rw[gW hi,Array.getElem?_eq_none (by rw[h.n];exact hi)];rfl
theorem lZ.keys {α:Type} {L:List (Int×Nat×α)} {l:List (Int×α)} {c:Nat} (h:lZ L l c):(L.map (·.1)).Perm (l.map (·.1)):=by have:=h.2.1.map (·.1);rwa[xK] at this
theorem lZ.EC {α:Type} {L:List (Int×Nat×α)} {l:List (Int×α)} {c:Nat} (h:lZ L l c):(L.map (·.1)).Nodup:=h.keys.nodup_iff.2 (aeN h.1)
theorem lZ.mem {α:Type} {L:List (Int×Nat×α)} {l:List (Int×α)} {c:Nat} (h:lZ L l c) {q:Int×Nat×α} (aj:q∈L):e9 l q.1=some q.2.2:=
 (ase (aeN h.1)).2 (h.2.1.mem_iff.1 (dz.2 ⟨q,aj,rfl⟩))
theorem lZ.len {α:Type} {L:List (Int×Nat×α)} {l:List (Int×α)} {c:Nat} (h:lZ L l c):L.length=l.length:=by have:=h.2.1.length_eq;simpa using this
theorem U6 {P:Program} {w:World} {K:TypeId} {kd:IntKind} (cA:P.underlying K=some (.int kd)) {k:Int} {bK:List MapEntry} {r:Option (Nat×Value)} (h:Instr.findNow (.int kd) (.int .i64 k) bK 0=some r):(Instr.findKey K (.int .i64 k) bK).run P w=.ok r w:=by simp only[Instr.findKey,Sem.run_bind,run_underlying cA,Result.andThen_ok,h];rfl
theorem r0 {P:Program} {w:World} {K:TypeId} {kd:IntKind} (cA:P.underlying K=some (.int kd)) (e:Bool) (n:Nat) (k:Int):(Instr.checkKey e (n+1) K (.int .i64 k)).run P w=.ok () w:=by simp[Instr.checkKey,Sem.run_bind,run_underlying cA]
theorem hl.find (h:hl M w t b l c bK L) {K:TypeId} {kd:IntKind} (cA:P.underlying K=some (.int kd)) (k:Int):(e9 l k=none/\(∀q∈L,q.1≠k)/\∀w',(Instr.findKey K (.int .i64 k) bK.toList).run P w'=.ok none w')\/∃i s y ds,e9 l k=some y/\L[i]?=some (k,s,y)/\ds.length=t.size/\bK[i]?=some ⟨.int .i64 k,cQ t ds,s⟩/\br M w t ds y []/\∀w',(Instr.findKey K (.int .i64 k) bK.toList).run P w'=.ok (some (i,cQ t ds)) w':=by
 by_cases ae:k∈L.map (·.1)
 ·obtain⟨i,e,J,R,ac⟩:=YW (kd:=kd) k bK.toList _ 0 h.keys ae;rw[gB] at J;obtain⟨⟨c0,s,y⟩,aL,rfl⟩:=e1.1 J;obtain⟨ds,cK,cG,c9⟩:=h.e i _ aL;rw[CI,cG] at R;cases R;refine .inr ⟨i,s,y,ds,h.td.mem (oP aL),aL,cK,cG,c9,fun w'=>U6 cA ?_⟩;rw[ac,kN]
 ·refine .inl ⟨?_,fun q aj e=>ae (dz.2 ⟨q,aj,e⟩),fun w'=>U6 cA (YV k _ _ 0 h.keys ae)⟩;cases aG:e9 l k with
  |none=>rfl
  |some y=>exact absurd (h.td.keys.mem_iff.2 (dz.2 ⟨_,NY aG,rfl⟩)) ae
theorem hl.empty (M:dE->Nat->Prop) (t:au) (h:w.heap[b]?=some (.map #[] 0)):hl M w t b [] 0 #[] []:=
 ⟨⟨.nil,.refl _,.nil,by simp⟩,h,rfl,by simp⟩
def BR {α:Type} (L:List (Int×Nat×α)) (k:Int) (y:α) (c:Nat):List (Int×Nat×α)×Nat:=
 if k∈L.map (·.1) then(L.map fun q=>if q.1=k then(k,q.2.1,y) else q,c) else(L++[(k,c,y)],c+1)
theorem adq {α:Type} {k:Int} {y:α}:∀{A:List (Int×α)},(A.map (·.1)).Nodup->k∈A.map (·.1)->(A.map fun q=>if q.1=k then(k,y) else q).Perm ((k,y)::kl A k)
 |[],_,h=>by cases h
 |(a,u)::A,h,ae=>by
  simp only[ff,mB] at h;simp only[ff];by_cases e:a=k
  ·subst e;rw[if_pos rfl];have J:(A.map fun q=>if q.1=a then(a,y) else q)=A:=by
    conv=>rhs;rw[<-List.map_id A]
    refine kK fun q aj=>?_;rw[if_neg];rfl;rintro rfl;exact h.1 (dz.2 ⟨q,aj,rfl⟩)
   have R:kl ((a,u)::A) a=A:=(by unfold kl;rw[nj,if_neg (by simp),rc];intro q aj;simp only[decide_eq_true_eq];rintro rfl;exact h.1 (dz.2 ⟨q,aj,rfl⟩));rw[J,R]
  ·rw[if_neg e];have R:kl ((a,u)::A) k=(a,u)::kl A k:=by
    unfold kl;rw[nj,if_pos (by simpa using e)]
   rw[R];refine((adq h.2 ?_).cons _).trans (.swap _ _ _);simp only[ff,d4] at ae;exact ae.resolve_left (fun dI=>e dI.symm)
theorem lZ.put {α:Type} {L:List (Int×Nat×α)} {l:List (Int×α)} {c:Nat} (h:lZ L l c) (k:Int) (y:α):lZ (BR L k y c).1 (jH l k y) (bif (e9 l k).isSome then c else c+1)/\(BR L k y c).2=(bif (e9 l k).isSome then c else c+1):=by
 have aG:(e9 l k).isSome=decide (k∈L.map (·.1)):=by
  by_cases ae:k∈L.map (·.1)
  ·obtain⟨q,aj,rfl⟩:=dz.1 ae;rw[h.mem aj,decide_eq_true ae];rfl
  ·rw[decide_eq_false ae];cases aG:e9 l k with
   |none=>rfl
   |some v=>exact absurd (h.keys.mem_iff.2 (dz.2 ⟨_,NY aG,rfl⟩)) ae
 rw[aG];unfold BR;have ao2:((L.map fun q=>(q.1,q.2.2)).filter fun q=>decide (q.1≠k)).Perm (kl l k):=h.2.1.filter _;by_cases ae:k∈L.map (·.1)
 ·rw[if_pos ae,decide_eq_true ae];refine⟨⟨TE h.1,?_,?_,?_⟩,rfl⟩
  ·have aA:((L.map fun q=>if q.1=k then(k,q.2.1,y) else q).map fun q=>(q.1,q.2.2))=(L.map fun q=>(q.1,q.2.2)).map fun q=>if q.1=k then(k,y) else q:=by
    simp only[xK];refine kK fun q _=>?_;simp only[Function.comp];by_cases e:q.1=k
    ·rw[if_pos e,if_pos e]
    ·rw[if_neg e,if_neg e]
   show((L.map fun q=>if q.1=k then(k,q.2.1,y) else q).map fun q=>(q.1,q.2.2)).Perm _;rw[aA];refine(adq ?_ ?_).trans ((ao2.cons _).trans (TD h.1).symm)
   ·rw[xK];exact h.EC
   ·rw[xK];exact ae
  ·have aA:((L.map fun q=>if q.1=k then(k,q.2.1,y) else q).map fun q=>q.2.1)=L.map fun q=>q.2.1:=by
    rw[xK];refine kK fun q _=>?_;simp only[Function.comp];split<;>rfl
   show((L.map fun q=>if q.1=k then(k,q.2.1,y) else q).map fun q=>q.2.1).Nodup;rw[aA];exact h.2.2.1
  ·intro q aj;obtain⟨mm,fY,rfl⟩:=dz.1 aj;have:=h.2.2.2 mm fY;show _<c;split<;>exact this
 ·rw[if_neg ae,decide_eq_false ae];refine⟨⟨TE h.1,?_,?_,?_⟩,rfl⟩
  ·have aX:kl l k=l:=by
    unfold kl;rw[rc];intro q aj;simp only[decide_eq_true_eq];rintro rfl;exact ae (h.keys.mem_iff.2 (dz.2 ⟨q,aj,rfl⟩))
   have:=TD (k:=k) (v:=y) h.1;rw[aX] at this;refine List.Perm.trans ?_ this.symm;show((L++[(k,c,y)]).map fun q=>(q.1,q.2.2)).Perm _;rw[jm];exact List.perm_append_comm.trans ((h.2.1).cons _)
  ·show((L++[(k,c,y)]).map fun q=>q.2.1).Nodup;rw[jm,kL];refine⟨h.2.2.1,by simp,fun a aC b aa e=>?_⟩;obtain⟨q,aj,rfl⟩:=dz.1 aC;have:=h.2.2.2 q aj;simp at aa;omega
  ·intro q aj;rcases fg.1 aj with aj|aj
   ·have:=h.2.2.2 q aj;show _<c+1;omega
   ·simp at aj;subst aj;exact Nat.lt_succ_self _
theorem YR {α:Type} {k:Int}:∀{A:List α} (f:α->Int) {i:Nat} {a:α},(A.map f).Nodup->A[i]?=some a->f a=k->A.eraseIdx i=A.filter fun q=>decide (f q≠k)
 |[],f,i,a,_,h,_=>by simp at h
 |x::A,f,0,a,ag,h,e=>by simp only[lX,cS] at h;subst h;simp only[ff,mB] at ag;rw[List.eraseIdx_cons_zero,nj,if_neg (by simpa using e),rc.2];intro q aj;simp only[decide_eq_true_eq];intro aX;exact ag.1 (dz.2 ⟨q,aj,aX.trans e.symm⟩)
 |x::A,f,i+1,a,ag,h,e=>by simp only[vr] at h;simp only[ff,mB] at ag;rw[List.eraseIdx_cons_succ,nj,if_pos,YR f ag.2 h e];simp only[decide_eq_true_eq];intro aX;exact ag.1 (dz.2 ⟨a,oP h,e.trans aX.symm⟩)
theorem lZ.del {α:Type} {L:List (Int×Nat×α)} {l:List (Int×α)} {c:Nat} (h:lZ L l c) (k:Int):lZ (L.filter fun q=>decide (q.1≠k)) (kl l k) c:=by
 refine⟨asb h.1,?_,?_,fun q aj=>h.2.2.2 q (iv.1 aj).1⟩
 ·have:=h.2.1.filter (fun q=>decide (q.1≠k));rw[List.filter_map] at this;exact this
 ·exact h.2.2.1.sublist (List.filter_sublist.map _)
theorem br.ab1 (h:hl M w t b l c bK L):br M w (.mp t) [.map (some b)] (some (l,c)) [b]:=⟨b,bK,L,rfl,rfl,h.td,qO.2 h.h,h.n,h.e⟩
theorem br.ab0 {cs:List Value} {f:List Nat} (h:br M w (.mp t) cs (some (l,c)) f):∃b bK L,cs=[.map (some b)]/\f=[b]/\hl M w t b l c bK L:=by obtain⟨b,bK,L,J,R,ac,aL,aY,bG⟩:=h;exact⟨b,bK,L,J,R,ac,qO.1 aL,aY,bG⟩
theorem br.azU {m:dE} {cs:List Value} {f:List Nat} (h:br M w (.ey m t) cs (some (l,c)) f):∃b bK L,cs=[.map (some b)]/\f=[]/\M m b/\hl M w t b l c bK L:=by obtain⟨b,bK,L,J,R,ac,aa,aL,aY,bG⟩:=h;exact⟨b,bK,L,J,R,aa,ac,qO.1 aL,aY,bG⟩
def gy (w:World) (b:Nat) (bK:Array MapEntry) (c:Nat):World:={w with heap:=w.heap.setIfInBounds b (.map bK c)}
theorem q0 {es':Array MapEntry} {c':Nat} (h:w.heap[b]?=some (.map bK c)):(gy w b es' c').heap[b]?=some (.map es' c'):=by have:=(q7.1 h).1;simp[gy,this]
theorem Jo {es':Array MapEntry} {c' k:Nat} (ae:k≠b):(gy w b es' c').heap[k]?=w.heap[k]?:=by simp only[gy];rw[Pv (fun e=>ae e.symm)]
theorem aeD {es':Array MapEntry} {c':Nat}:(gy w b es' c').heap.size=w.heap.size:=by simp[gy]
theorem ayv {es':Array MapEntry} {c':Nat} (h:w.heap[b]?=some (.map bK c)) (a:Addr):(gy w b es' c').cell? a=w.cell? a:=by
 by_cases e:a.block=b
 ·unfold World.cell?;rw[e,q0 h,h]
 ·exact World.cell?_of_block (Jo e)
theorem ayw {es':Array MapEntry} {c':Nat} (h:w.heap[b]?=some (.map bK c)) (a:Addr):(gy w b es' c').frozen? a=w.frozen? a:=by
 by_cases e:a.block=b
 ·unfold World.frozen?;rw[e,q0 h,h]
 ·exact World.frozen?_of_block (Jo e)
theorem OU {es':Array MapEntry} {c' k:Nat} (ae:k≠b):df w (gy w b es' c') k:=.of_heap (Jo ae)
theorem hl.update (h:hl M w t b l c bK L) {T K D:TypeId} {kd:IntKind} (bm:P.underlying T=some (.map K D)) (cA:P.underlying K=some (.int kd)) (k:Int) {y:t.den} {ds:List Value} (aP:ds.length=t.size) (aB:br M w t ds y []):∃es' iu,(Instr.mapUpdate T (.map (some b)) (.int .i64 k) (cQ t ds)).run P w=.ok () (gy w b es' (bif (e9 l k).isSome then c else c+1))/\(∀{eJ:dE->Nat->Prop},(∀m k,M m k->eJ m k/\k≠b)->hl eJ (gy w b es' (bif (e9 l k).isSome then c else c+1)) t b (jH l k y) (bif (e9 l k).isSome then c else c+1) es' iu)/\my w (gy w b es' (bif (e9 l k).isSome then c else c+1)) b:=by
 have yB:∀{eJ:dE->Nat->Prop} {es':Array MapEntry} {c':Nat},(∀m k,M m k->eJ m k/\k≠b)->∀{ds:List Value} {y:t.den},br M w t ds y []->br eJ (gy w b es' c') t ds y []:=
  fun bF _ _ hr=>hr.mono (fun m k ae=>⟨(bF m k ae).1,OU (bF m k ae).2⟩) (by simp)
 obtain⟨yA,MW⟩:=h.td.put k y;rcases h.find (P:=P) cA k with⟨J,R,ac⟩|⟨i,s,fP,ye,J,R,ac,aL,aY,bG⟩
 ·rw[J] at yA|-;have ae:k∉L.map (·.1):=fun ay=>(by obtain⟨q,aj,e⟩:=dz.1 ay;exact R q aj e);simp only[Option.isSome_none,cond_false] at yA|-;have aA:(BR L k y c).1=L++[(k,c,y)]:=(by unfold BR;rw[if_neg ae]);rw[aA] at yA;refine⟨bK.push ⟨.int .i64 k,cQ t ds,c⟩,L++[(k,c,y)],?_,fun bF=>⟨yA,q0 h.h,by simp[h.n],fun j q ao=>?_⟩,?_⟩
  ·simp only[Instr.mapUpdate,Sem.run_bind,run_underlying bm,Result.andThen_ok,run_getObj_map h.h,r0 cA,ac];exact u1 h.h
  ·rcases ct j L.length with ai|ai
   ·rw[sk ai] at ao;obtain⟨iT,cK,cG,c9⟩:=h.e j q ao;exact⟨iT,cK,by rw[Fl,if_neg (by rw[h.n];omega)];exact cG,yB bF c9⟩
   ·rw[tR ai] at ao;have M6:j-L.length=0:=by
     have:=(fu.1 ao).1;simp at this;omega
    rw[M6] at ao;simp only[lX,cS] at ao;subst ao;exact⟨ds,aP,by rw[Fl,if_pos (by rw[h.n];omega)],yB bF aB⟩
  ·intro GV ks ak;rw[qO.2 h.h] at ak;cases ak;refine⟨_,_,qO.2 (q0 h.h),Nat.le_succ _,fun j e aE aa=>?_⟩;rw[Fl] at aE;split at aE
   ·cases aE;exact absurd aa (Nat.lt_irrefl _)
   ·exact⟨j,e,aE,rfl,rfl⟩
 ·rw[J] at yA|-;have ae:k∈L.map (·.1):=dz.2 ⟨_,oP R,rfl⟩;simp only[Kd,cond_true] at yA|-;have aA:(BR L k y c).1=L.map fun q=>if q.1=k then(k,q.2.1,y) else q:=by unfold BR;rw[if_pos ae]
  rw[aA] at yA;have aqu:∀(j:Nat) (q:Int×Nat×t.den),L[j]?=some q->q.1=k->j=i:=fun j q ao e=>(by have eA:=h.td.EC;have lH:j<(L.map (·.1)).length:=(by have:=(fu.1 ao).1;simpa using this);have:=List.getElem?_inj lH eA (i:=j) (j:=i);apply this.1;rw[gB,gB,ao,R];simp[e]);refine⟨bK.modify i fun e=>{e with key:=.int .i64 k,val:=cQ t ds},L.map fun q=>if q.1=k then(k,q.2.1,y) else q,?_,fun bF=>⟨yA,q0 h.h,by simp[h.n],fun j q ao=>?_⟩,?_⟩
  ·have DW:(Instr.keyThatStays (((bK[i]?).map (·.key)).getD (.int .i64 k)) (.int .i64 k)).run P w=.ok (.int .i64 k) w:=by
    rw[aL];simp[Instr.keyThatStays,Instr.sameBits]
   simp only[Instr.mapUpdate,Sem.run_bind,run_underlying bm,Result.andThen_ok,run_getObj_map h.h,r0 cA,bG,DW];exact u1 h.h
  ·rw[gB] at ao;obtain⟨mm,fY,rfl⟩:=e1.1 ao;by_cases e:mm.1=k
   ·obtain rfl:=aqu j mm fY e;rw[R] at fY;cases fY;simp only[if_true];exact⟨ds,aP,by rw[xA,if_pos rfl,aL];rfl,yB bF aB⟩
   ·rw[if_neg e];obtain⟨iT,cK,cG,c9⟩:=h.e j mm fY;refine⟨iT,cK,?_,yB bF c9⟩;rw[xA,if_neg,cG];rintro rfl;rw[R] at fY;cases fY;exact e rfl
  ·intro GV ks ak;rw[qO.2 h.h] at ak;cases ak;refine⟨_,_,qO.2 (q0 h.h),bU _,fun j e aE aa=>?_⟩;rw[xA] at aE;split at aE
   ·rename_i ek;subst ek;rw[aL] at aE;simp only[hC,cS] at aE;subst aE;exact⟨i,_,aL,rfl,rfl⟩
   ·exact⟨j,e,aE,rfl,rfl⟩
theorem hl.delete (h:hl M w t b l c bK L) {T K D:TypeId} {kd:IntKind} (bm:P.underlying T=some (.map K D)) (cA:P.underlying K=some (.int kd)) (k:Int) (ty:TypeId) (tZ:TypeId):∃es' iu,(Builtin.delete_ #[T,tZ] ty #[.map (some b),.int .i64 k]).run P w=.ok (.tuple #[]) (gy w b es' c)/\(∀{eJ:dE->Nat->Prop},(∀m k,M m k->eJ m k/\k≠b)->hl eJ (gy w b es' c) t b (kl l k) c es' iu)/\my w (gy w b es' c) b:=by
 have yB:∀{eJ:dE->Nat->Prop} {es':Array MapEntry} {c':Nat},(∀m k,M m k->eJ m k/\k≠b)->∀{ds:List Value} {y:t.den},br M w t ds y []->br eJ (gy w b es' c') t ds y []:=
  fun bF _ _ hr=>hr.mono (fun m k ae=>⟨(bF m k ae).1,OU (bF m k ae).2⟩) (by simp)
 rcases h.find (P:=P) cA k with⟨J,R,ac⟩|⟨i,s,fP,ye,J,R,ac,aL,aY,bG⟩
 ·have aA:kl l k=l:=by
   unfold kl;rw[rc];intro q aj;simp only[decide_eq_true_eq];rintro rfl;exact abF J q.2 aj
  refine⟨bK,L,?_,fun bF=>⟨by rw[aA];exact h.td,q0 h.h,h.n,fun j q ao=>?_⟩,?_⟩
  ·simp only[Builtin.delete_,Sem.run_bind,run_underlying bm,Result.andThen_ok,run_getObj_map h.h,r0 cA,ac,List.getElem?_toArray,lX,vr];rw[u1 h.h];rfl
  ·obtain⟨iT,cK,cG,c9⟩:=h.e j q ao;exact⟨iT,cK,cG,yB bF c9⟩
  ·intro GV ks ak;rw[qO.2 h.h] at ak;cases ak;exact⟨_,_,qO.2 (q0 h.h),bU _,fun j e aE _=>⟨j,e,aE,rfl,rfl⟩⟩
 ·have aX:L.eraseIdx i=L.filter fun q=>decide (q.1≠k):=YR (·.1) h.td.EC R rfl;refine⟨bK.eraseIdxIfInBounds i,L.eraseIdx i,?_,fun bF=>⟨by rw[aX];exact h.td.del k,q0 h.h,?_,fun j q ao=>?_⟩,?_⟩
  ·simp only[Builtin.delete_,Sem.run_bind,run_underlying bm,Result.andThen_ok,run_getObj_map h.h,r0 cA,bG,List.getElem?_toArray,lX,vr];rw[u1 h.h];rfl
  ·have hi:i<bK.size:=(q7.1 aL).1;have kj:i<L.length:=(fu.1 R).1;rw[Array.eraseIdxIfInBounds,dif_pos hi,Array.size_eraseIdx,List.length_eraseIdx,if_pos kj,h.n]
  ·have hi:i<bK.size:=(q7.1 aL).1;rw[List.getElem?_eraseIdx] at ao;rw[Array.eraseIdxIfInBounds,dif_pos hi];split at ao
   ·rename_i ca;obtain⟨iT,cK,cG,c9⟩:=h.e j q ao;exact⟨iT,cK,by rw[Array.getElem?_eraseIdx,if_pos ca];exact cG,yB bF c9⟩
   ·rename_i ca;obtain⟨iT,cK,cG,c9⟩:=h.e (j+1) q ao;exact⟨iT,cK,by rw[Array.getElem?_eraseIdx,if_neg ca];exact cG,yB bF c9⟩
  ·intro GV ks ak;rw[qO.2 h.h] at ak;cases ak;refine⟨_,_,qO.2 (q0 h.h),bU _,fun j e aE _=>?_⟩;have hi:i<bK.size:=(q7.1 aL).1;rw[Array.eraseIdxIfInBounds,dif_pos hi,Array.getElem?_eraseIdx] at aE;split at aE
   ·exact⟨j,e,aE,rfl,rfl⟩
   ·exact⟨j+1,e,aE,rfl,rfl⟩
end
end
section
section
variable {E:eV} {C:eb} {st:bj} {a:Act} {w:World} {I:Nat->Prop} {rt:Nat->List Value} {fp:Nat->List Nat} {o:Oper} {Q:ax->List (Nat×a6)->Prop}
def mY (tt:List (TypeId×au)) (T:TypeId):Option au:=match aD tt T with|some (.mp t)=>some t|some (.ey _ t)=>some t|_=>none
theorem mY.ok {T:TypeId} {t:au} (h:mY E.tt T=some t):∃K S,E.P.underlying T=some (.map K S)/\E.P.underlying K=some (.int .i64)/\eB E.P t S:=by
 unfold mY at h;split at h
 ·rename_i u ai;cases h;obtain⟨i,K,S,_,_,_,_,aY,bG,eF⟩:=E.ok T _ ai;exact⟨K,S,aY,bG,eF⟩
 ·rename_i m u ai;cases h;obtain⟨i,K,S,_,_,_,_,aY,bG,eF⟩:=E.ok T _ ai;exact⟨K,S,aY,bG,eF⟩
 ·cases h
def Ex (tt:List (TypeId×au)) (an:List (Nat×au)) (h:List (Nat×a6)) (d:Nat) (T:TypeId):iw:=
 match mY tt T,aD an d,aD h d with
 |some u,some (.mp t),none=>bif bI u t then .eh (.ref d []) [(d,⟨.mp t,some ([],0)⟩)] else .bad
 |_,_,_=>.bad
theorem asU (aq:cx C st a.tmps w I rt fp) {an:List (Nat×au)} {d:Nat} {T:TypeId} (aJ:o.op=.makeMap T none) (h:(Ex E.tt an st.h d T).K Q):Yields E C st a w I rt fp o Q:=by
 unfold Ex at h;split at h
 case h_2=>exact h.elim
 rename_i u t bm oo aP;cases aa:bI u t with
 |false=>rw[aa] at h;exact h.elim
 |true=>
 rw[aa] at h;have ay:(w.alloc (.map #[] 0)).heap[w.heap.size]?=some (.map #[] 0):=(by show(w.heap.push _)[w.heap.size]?=_;rw[Fl,if_pos rfl]);refine⟨.map (some w.heap.size),w.alloc (.map #[] 0),I,fun _=>[.map (some w.heap.size)],fun _=>[w.heap.size],.ref d [],[(d,⟨.mp t,some ([],0)⟩)],?_,.alloc w _,fun _ h=>h,fun _ h=>.inl h,.one aP (br.ab1 (hl.empty _ _ ay)) (by simp) (fun b aa=>?_),?_,h⟩
 ·simp[execOp,aJ,Instr.makeMap,newObj,Sem.run]
 ·simp only[fh] at aa;subst aa;exact⟨bU _,by simp,fun h=>by have:=aq.ib _ (.inl h);omega⟩
 ·have ai:aD ([(d,(⟨.mp t,some ([],0)⟩:a6))]++st.h) d=some ⟨.mp t,some ([],0)⟩:=(by rw[J9,dq,if_pos rfl]);refine .ref (t:=⟨.mp t,some ([],0)⟩) (τ':=.mp t) (loc:=none) (cs:=[.map (some w.heap.size)]) ai ?_;have:en [(d,(⟨.mp t,some ([],0)⟩:a6))] (fun _=>[Value.map (some w.heap.size)]) rt d=[.map (some w.heap.size)]:=(by simp[en,dq]);rw[this];exact bv.here
def NU (t:au) (m:Option (List (Int×t.den)×Nat)) (z:t.den) (k:Int):Bool->ax
 |true=>.ei [.val t ((lM m k).getD z),.val .bool (lM m k).isSome]
 |false=>.val t ((lM m k).getD z)
def BH (tt:List (TypeId×au)) (h:List (Nat×a6)) (T:TypeId) (x k:ax) (ok:Bool):iw:=
 match mY tt T,k with
 |some u,.val (.int .i64) k=>match x with
  |.val (.ey m t) gv=>match oF t with
   |some z=>bif bI u t then .eh (NU t gv z k ok) [] else .bad
   |none=>.bad
  |.ref id p=>match aD h id with
   |some cg=>match eD cg.1 p with
    |some (.mp t)=>match oF t with
     |some z=>bif bI u t then .part (Option (List (Int×t.den)×Nat)) (fun gv=>dD cg.1 cg.2 p (.mp t) gv) (fun gv=>(NU t gv z k ok,[])) else .bad
     |none=>.bad
    |_=>.bad
   |none=>.bad
  |_=>.bad
 |_,_=>.bad
theorem abA {T K S:TypeId} {t:au} (bm:E.P.underlying T=some (.map K S)) (cA:E.P.underlying K=some (.int .i64)) (bE:eB E.P t S) {x k:Operand} {ok:Bool} (aJ:o.op=.lookup T x k ok) {n:Int} (ae:a.eval k=.int .i64 n) {z:t.den} (a2:oF t=some z) {m:Option (List (Int×t.den)×Nat)} (ab:(m=none/\a.eval x=.map none)\/∃b l c bK L,m=some (l,c)/\a.eval x=.map (some b)/\hl (bP I C.B) w t b l c bK L):∃v,(execOp a.eval o).run E.P w=.ok (.value v) w/\∀h:List (Nat×a6),cJ (bP I C.B) w h rt fp (NU t m z n ok) v:=by
 obtain⟨i,iN,aN,aM,bb,bH⟩:=CH bE a2;have Ea:(zeroValue S).run E.P w=.ok iN w:=(by simp[zeroValue,typeInfo,aN,aM]);have key:∃cs,br (bP I C.B) w t cs ((lM m n).getD z) []/\(Instr.lookup T (a.eval x) (.int .i64 n) ok).run E.P w=.ok (if ok then .tuple #[cQ t cs,.bool (lM m n).isSome] else cQ t cs) w:=by
  rcases ab with⟨rfl,ab⟩|⟨b,l,c,bK,L,rfl,ab,bF⟩
  ·refine⟨iN.cells.toList,by simpa[lM] using bH _ _,?_⟩;rw[ab];have aH:(Instr.findKey K (.int .i64 n) []).run E.P w=.ok none w:=U6 cA rfl;simp only[Instr.lookup,Sem.run_bind,run_underlying bm,Result.andThen_ok,Sem.run_pure,r0 cA,aH,Ea];rw[<-bb];cases ok<;>rfl
  ·rw[ab];rcases bF.find (P:=E.P) cA n with⟨J,_,ac⟩|⟨lf,s,y,ds,J,_,aL,aY,bG,eF⟩
   ·refine⟨iN.cells.toList,by simpa[lM,J] using bH _ _,?_⟩;simp only[Instr.lookup,Sem.run_bind,run_underlying bm,Result.andThen_ok,Sem.run_pure,run_getObj_map bF.h,r0 cA,ac,Ea];rw[<-bb];simp only[lM,bq,J,Option.isSome_none]
   ·refine⟨ds,by simpa[lM,J] using bG,?_⟩;simp only[Instr.lookup,Sem.run_bind,run_underlying bm,Result.andThen_ok,Sem.run_pure,run_getObj_map bF.h,r0 cA,eF];simp only[lM,bq,J,Kd]
 obtain⟨cs,hr,eP⟩:=key;refine⟨_,by simp only[execOp,aJ,ae,Sem.run_bind,eP];rfl,fun h=>?_⟩;cases ok with
 |false=>exact .val hr
 |true=>
  refine .ei (by simp) (fun i av v J R=>?_)
  match i with
  |0=>simp at J R;subst J;subst R;exact .val hr
  |1=>simp at J R;subst J;subst R;exact .bool _
  |n+2=>simp at J
theorem br.TP {M:dE->Nat->Prop} {t:au} {cs:List Value} {m:Option (List (Int×t.den)×Nat)} {f:List Nat} (h:br M w (.mp t) cs m f):(m=none/\cs=[.map none]/\f=[])\/∃b l c bK L,m=some (l,c)/\cs=[.map (some b)]/\f=[b]/\hl M w t b l c bK L:=by
 cases m with
 |none=>exact .inl ⟨rfl,h.2,h.1⟩
 |some q=>
  obtain⟨l,c⟩:=q;obtain⟨b,bK,L,J,R,ac⟩:=h.ab0;exact .inr ⟨b,l,c,bK,L,rfl,J,R,ac⟩
theorem br.afw {M:dE->Nat->Prop} {t:au} {asG:dE} {cs:List Value} {m:Option (List (Int×t.den)×Nat)} {f:List Nat} (h:br M w (.ey asG t) cs m f):(m=none/\cs=[.map none])\/∃b l c bK L,m=some (l,c)/\cs=[.map (some b)]/\hl M w t b l c bK L:=by
 cases m with
 |none=>exact .inl ⟨rfl,h.2⟩
 |some q=>
  obtain⟨l,c⟩:=q;obtain⟨b,bK,L,J,_,_,ac⟩:=h.azU;exact .inr ⟨b,l,c,bK,L,rfl,J,ac⟩
theorem arS (aq:cx C st a.tmps w I rt fp) {T:TypeId} {x k:Operand} {ok:Bool} (aJ:o.op=.lookup T x k ok) (h:(BH E.tt st.h T (bu st.g x) (bu st.g k) ok).K Q):Yields E C st a w I rt fp o Q:=by
 have ab:=aq.bu x;have ae:=aq.bu k;unfold BH at h;split at h
 case h_2=>exact h.elim
 rename_i u n bm ui;obtain⟨K,S,t1,t2,t3⟩:=mY.ok bm;rw[ui] at ae;generalize yx:a.eval k=Tj at ae;cases ae with|val Cd=>
 obtain⟨_,rfl⟩:=Cd;split at h
 ·rename_i m t gv ex;split at h
  case h_2=>exact h.elim
  rename_i z a2;cases aa:bI u t with
  |false=>rw[aa] at h;exact h.elim
  |true=>
  rw[aa] at h;rw[ex] at ab;generalize iV:a.eval x=Fb at ab;cases ab with|val r=>
  obtain⟨v,b2,bo⟩:=abA (rt:=rt) (fp:=fp) (I:=I) (C:=C) (E:=E) (w:=w) (a:=a) (m:=gv) t1 t2 (t3.lay aa) aJ yx a2 (by
   rcases r.afw with⟨aA,aX⟩|⟨b,l,c,bK,L,aA,aX,bY⟩
   ·exact .inl ⟨aA,by rw[iV,aX];rfl⟩
   ·exact .inr ⟨b,l,c,bK,L,aA,by rw[iV,aX];rfl,bY⟩)
  exact .pure b2 (bo _) h
 ·rename_i id p ex;split at h
  case h_2=>exact h.elim
  rename_i cg ah;split at h
  case h_2=>exact h.elim
  rename_i t fZ;split at h
  case h_2=>exact h.elim
  rename_i z a2;cases aa:bI u t with
  |false=>rw[aa] at h;exact h.elim
  |true=>
  rw[aa] at h;obtain⟨gv,aG,h⟩:=h;rw[ex] at ab;generalize iV:a.eval x=Fb at ab;cases ab with|ref bC ag=>
  rw[ah] at bC;cases bC;obtain⟨rfl,f,hr,_⟩:=aq.mL ah aG ag;obtain⟨v,b2,bo⟩:=abA (rt:=rt) (fp:=fp) (I:=I) (C:=C) (E:=E) (w:=w) (a:=a) (m:=gv) t1 t2 (t3.lay aa) aJ yx a2 (by
   rcases hr.TP with⟨aA,aX,_⟩|⟨b,l,c,bK,L,aA,aX,_,bY⟩
   ·exact .inl ⟨aA,by rw[iV,aX];rfl⟩
   ·exact .inr ⟨b,l,c,bK,L,aA,by rw[iV,aX];rfl,bY⟩)
  exact .pure b2 (bo _) h
 ·exact h.elim
def BO (tt:List (TypeId×au)) (h:List (Nat×a6)) (T:TypeId) (x:ax):iw:=
 match mY tt T with
 |none=>.bad
 |some _=>match x with
  |.val (.ey _ t) gv=>.eh (.val (.int .i64) (Es (α:=t.den) gv)) []
  |.ref id p=>match aD h id with
   |some cg=>match eD cg.1 p with
    |some (.mp t)=>.part (Option (List (Int×t.den)×Nat)) (fun gv=>dD cg.1 cg.2 p (.mp t) gv) (fun gv=>(.val (.int .i64) (Es gv),[]))
    |_=>.bad
   |none=>.bad
  |_=>.bad
theorem abX {T K S:TypeId} {t:au} (bm:E.P.underlying T=some (.map K S)) {x:Operand} (aJ:o.op=.call {callee:=.builtin .len,args:=#[x],argTypes:=#[T]}) {m:Option (List (Int×t.den)×Nat)} (ab:(m=none/\a.eval x=.map none)\/∃b l c bK L,m=some (l,c)/\a.eval x=.map (some b)/\hl (bP I C.B) w t b l c bK L):(execOp a.eval o).run E.P w=.ok (.value (.int .i64 (Es m))) w:=by
 rcases ab with⟨rfl,ab⟩|⟨b,l,c,bK,L,rfl,ab,bF⟩
 ·simp[execOp,aJ,resolve,invoke,builtin,ab,Builtin.len_,run_underlying bm,goInt,Es]
 ·have J:bK.size=l.length:=(by rw[bF.n,bF.td.len]);simp only[execOp,aJ,resolve,invoke,builtin,Sem.run_bind,Sem.run_pure,Result.andThen_ok,FA,ff,xL,ab,Builtin.len_,List.getElem?_toArray,lX,run_underlying bm,run_getObj_map bF.h,goInt,Es,J]
theorem asW (aq:cx C st a.tmps w I rt fp) {T:TypeId} {x:Operand} (aJ:o.op=.call {callee:=.builtin .len,args:=#[x],argTypes:=#[T]}) (h:(BO E.tt st.h T (bu st.g x)).K Q):Yields E C st a w I rt fp o Q:=by
 have ab:=aq.bu x;unfold BO at h;split at h
 ·exact h.elim
 rename_i u bm;obtain⟨K,S,t1,t2,t3⟩:=mY.ok bm;generalize iV:a.eval x=Fb at ab;split at h
 ·rename_i m t gv ex;rw[ex] at ab;cases ab with|val r=>
  refine .pure (abX (I:=I) (C:=C) (m:=gv) t1 aJ ?_) (.int _ _) h;rcases r.afw with⟨aA,aX⟩|⟨b,l,c,bK,L,aA,aX,bY⟩
  ·exact .inl ⟨aA,by rw[iV,aX];rfl⟩
  ·exact .inr ⟨b,l,c,bK,L,aA,by rw[iV,aX];rfl,bY⟩
 ·rename_i id p ex;split at h
  case h_2=>exact h.elim
  rename_i cg ah;split at h
  case h_2=>exact h.elim
  rename_i t fZ;obtain⟨gv,aG,h⟩:=h;rw[ex] at ab;cases ab with|ref bC ag=>
  rw[ah] at bC;cases bC;obtain⟨rfl,f,hr,_⟩:=aq.mL ah aG ag;refine .pure (abX (I:=I) (C:=C) (m:=gv) t1 aJ ?_) (.int _ _) h;rcases hr.TP with⟨aA,aX,_⟩|⟨b,l,c,bK,L,aA,aX,_,bY⟩
  ·exact .inl ⟨aA,by rw[iV,aX];rfl⟩
  ·exact .inr ⟨b,l,c,bK,L,aA,by rw[iV,aX];rfl,bY⟩
 ·exact h.elim
end
end
section
section
variable {E:eV} {C:eb} {st:bj} {a:Act} {w:World} {I:Nat->Prop} {rt:Nat->List Value} {fp:Nat->List Nat} {o:Oper} {Q:ax->List (Nat×a6)->Prop}
def Oq (c x y:ax):iw:=
 match c with
 |.val .bool c=>.part Bool (fun b=>c=b) (fun b=>(match b with|true=>x|false=>y,[]))
 |_=>.bad
theorem awf (aq:cx C st a.tmps w I rt fp) {c x y:Operand} (aJ:o.op=.pick c x y) (h:(Oq (bu st.g c) (bu st.g x) (bu st.g y)).K Q):Yields E C st a w I rt fp o Q:=by
 have hc:=aq.bu c;unfold Oq at h;split at h
 case h_2=>exact h.elim
 rename_i b QZ;obtain⟨b,rfl,h⟩:=h;rw[QZ] at hc;generalize hv:a.eval c=v at hc;cases hc with|val r=>
 obtain⟨_,rfl⟩:=r;cases b
 ·exact .pure (v:=a.eval y) (by simp[execOp,aJ,hv,cQ,asBool]) (aq.bu y) h
 ·exact .pure (v:=a.eval x) (by simp[execOp,aJ,hv,cQ,asBool]) (aq.bu x) h
def VH (op:UnOp) (x:ax):iw:=
 match op,x with
 |.neg,.val (.int k) x=>.part Int (fun z=>k.wrap (0-x)=z) (fun z=>(.val (.int k) z,[]))
 |.xor,.val (.int k) x=>.part Int (fun z=>k.wrap (BitVec.ofInt k.bits (if k.signed then-1 else k.max)^^^BitVec.ofInt k.bits x).toNat=z) (fun z=>(.val (.int k) z,[]))
 |.not,.val .bool b=>.eh (.val .bool (!b)) []
 |_,_=>.bad
theorem azx (aq:cx C st a.tmps w I rt fp) {op:UnOp} {T:TypeId} {x:Operand} (aJ:o.op=.unOp op T x) (h:(VH op (bu st.g x)).K Q):Yields E C st a w I rt fp o Q:=by
 have ab:=aq.bu x;unfold VH at h;generalize hv:a.eval x=v at ab;split at h
 ·rename_i k n ex;obtain⟨z,rfl,h⟩:=h;rw[ex] at ab;cases ab with|val r=>
  obtain⟨_,rfl⟩:=r;exact .pure (v:=.int k _) (by simp only[execOp,aJ,hv,cQ,Op.unary,Op.intArith];rfl) (.int k _) h
 ·rename_i k n ex;obtain⟨z,rfl,h⟩:=h;rw[ex] at ab;cases ab with|val r=>
  obtain⟨_,rfl⟩:=r;exact .pure (v:=.int k _) (by simp only[execOp,aJ,hv,cQ,Op.unary,Op.intBits];rfl) (.int k _) h
 ·rename_i b ex;rw[ex] at ab;cases ab with|val r=>
  obtain⟨_,rfl⟩:=r;exact .pure (v:=.bool _) (by simp only[execOp,aJ,hv,cQ,Op.unary];rfl) (.bool _) h
 ·exact h.elim
def KK (tt:List (TypeId×au)) (s d:TypeId) (x:ax):iw:=
 match aD tt s,aD tt d,x with
 |some (.int _),some (.int k),.val (.int _) x=>.part Int (fun z=>k.wrap x=z) (fun z=>(.val (.int k) z,[]))
 |_,_,_=>.bad
theorem alE (aq:cx C st a.tmps w I rt fp) {s d:TypeId} {x:Operand} (aJ:o.op=.convert s d x) (h:(KK E.tt s d (bu st.g x)).K Q):Yields E C st a w I rt fp o Q:=by
 have ab:=aq.bu x;unfold KK at h;split at h
 case h_2=>exact h.elim
 rename_i bk bD cm n J R ex;obtain⟨z,rfl,h⟩:=h;generalize hv:a.eval x=v at ab;rw[ex] at ab;cases ab with|val r=>
 obtain⟨_,rfl⟩:=r;obtain⟨_,_,_,_,_,m5⟩:=E.ok s _ J;obtain⟨_,_,_,_,_,eS⟩:=E.ok d _ R;exact .pure (v:=.int bD _) (by simp[execOp,aJ,hv,cQ,convert,run_underlying m5,run_underlying eS,Conv.intToInt]) (.int bD _) h
def vb (s:ByteArray) (n:Int):Option Int:=if 0<=n then(s[n.toNat]?).map fun b=>(b.toNat:Int) else none
def NS:ByteArray:=⟨#[0,1,2,2,3,3,3,3,4,4,4,4,4,4,4,4,5,5,5,5,5,5,5,5,5,5,5,5,5,5,5,5,6,6,6,6,6,6,6,6,6,6,6,6,6,6,6,6,6,6,6,6,6,6,6,6,6,6,6,6,6,6,6,6,7,7,7,7,7,7,7,7,7,7,7,7,7,7,7,7,7,7,7,7,7,7,7,7,7,7,7,7,7,7,7,7,7,7,7,7,7,7,7,7,7,7,7,7,7,7,7,7,7,7,7,7,7,7,7,7,7,7,7,7,7,7,7,7,8,8,8,8,8,8,8,8,8,8,8,8,8,8,8,8,8,8,8,8,8,8,8,8,8,8,8,8,8,8,8,8,8,8,8,8,8,8,8,8,8,8,8,8,8,8,8,8,8,8,8,8,8,8,8,8,8,8,8,8,8,8,8,8,8,8,8,8,8,8,8,8,8,8,8,8,8,8,8,8,8,8,8,8,8,8,8,8,8,8,8,8,8,8,8,8,8,8,8,8,8,8,8,8,8,8,8,8,8,8,8,8,8,8,8,8,8,8,8,8,8,8,8,8,8,8,8,8]⟩
def O0 (tt:List (TypeId×au)) (T:TypeId) (x i:ax):iw:=
 match aD tt T,x,i with
 |some .str,.dh (.string s),.val (.int _) n=>.part Int (fun b=>vb s n=some b) (fun b=>(.val (.int .u8) b,[]))
 |some .str,.val .str s,.val (.int _) n=>.part Int (fun b=>vb s n=some b) (fun b=>(.val (.int .u8) b,[]))
 |_,_,_=>.bad
theorem ayU (aq:cx C st a.tmps w I rt fp) {T:TypeId} {x i:Operand} (aJ:o.op=.index T x i) (h:(O0 E.tt T (bu st.g x) (bu st.g i)).K Q):Yields E C st a w I rt fp o Q:=by
 have ab:=aq.bu x;have hi:=aq.bu i;have gm:∀(s:ByteArray) (k:IntKind) (n b:Int),aD E.tt T=some .str->a.eval x=.string s->a.eval i=.int k n->vb s n=some b->Q (.val (.int .u8) b) []->Yields E C st a w I rt fp o Q:=by
  intro s k n b bm ex hN aa aj;obtain⟨_,_,_,_,_,u⟩:=E.ok T _ bm;refine .pure (v:=.int .u8 b) ?_ (.int .u8 b) aj;unfold vb at aa;split at aa
  case isFalse=>cases aa
  rename_i aV;obtain⟨c,hc,rfl⟩:=e1.1 aa;simp[execOp,aJ,Instr.index,ex,hN,asIntOf,run_underlying u,aV,hc]
 unfold O0 at h;split at h
 ·rename_i s k n bm ex hN;obtain⟨b,aa,aj⟩:=h;rw[ex] at ab;rw[hN] at hi;generalize hv:a.eval x=v at ab;generalize aR:a.eval i=u at hi;cases ab;cases hi with|val r=>
  obtain⟨_,rfl⟩:=r;exact gm s k n b bm hv aR aa aj
 ·rename_i s k n bm ex hN;obtain⟨b,aa,aj⟩:=h;rw[ex] at ab;rw[hN] at hi;generalize hv:a.eval x=v at ab;generalize aR:a.eval i=u at hi;cases ab with|val b2=>
  obtain⟨_,rfl⟩:=b2;cases hi with|val r=>
  obtain⟨_,rfl⟩:=r;exact gm s k n b bm hv aR aa aj
 ·exact h.elim
def Ms (x:ax) (n:Nat):iw:=
 match x with
 |.ei l=>match l[n]? with
  |some av=>.eh av []
  |none=>.bad
 |_=>.bad
theorem anp (aq:cx C st a.tmps w I rt fp) {x:Operand} {n:Nat} (aJ:o.op=.extract x n) (h:(Ms (bu st.g x) n).K Q):Yields E C st a w I rt fp o Q:=by
 have ab:=aq.bu x;unfold Ms at h;generalize hv:a.eval x=v at ab;split at h
 case h_2=>exact h.elim
 rename_i l ex;split at h
 case h_2=>exact h.elim
 rename_i av ai;rw[ex] at ab;cases ab with|ei yy ay=>
 rename_i vs;have ag:n<vs.size:=(by have:=(fu.1 ai).1;omega);have:vs[n]?=some vs[n]:=Fk ag;exact .pure (v:=vs[n]) (by simp[execOp,aJ,hv,Instr.extract,this]) (ay n av _ ai this) h
def Ey (mx:Bool) (x:ax):List ax->iw
 |[]=>.eh x []
 |y::r=>match x,y with
  |.val (.int k) x,.val (.int c0) y=>if k=c0 then(match mx with|true=>Ey mx (.val (.int k) (if y>x then y else x)) r|false=>Ey mx (.val (.int k) (if y<x then y else x)) r) else .bad
  |_,_=>.bad
theorem N4 (aq:cx C st a.tmps w I rt fp) (mx:Bool):∀(r:List Operand) (x:ax) (v:Value),cJ (bP I C.B) w st.h rt fp x v->(Ey mx x (r.map (bu st.g))).K Q->∃ew av,((r.map a.eval).foldlM (match mx with|true=>Builtin.max2|false=>Builtin.min2) v).run E.P w=.ok ew w/\cJ (bP I C.B) w st.h rt fp av ew/\Q av []
 |[],x,v,ab,h=>⟨v,x,rfl,ab,h⟩
 |y::r,x,v,ab,h=>by
  have aB:=aq.bu y;simp only[ff,Ey] at h;generalize hv:a.eval y=u at aB;split at h
  case h_2=>exact h.elim
  rename_i k m c0 n jw;split at h
  case isFalse=>exact h.elim
  rename_i ae;subst ae;rw[jw] at aB;cases ab with|val b2=>cases aB with|val bo=>
  obtain⟨_,rfl⟩:=b2;obtain⟨_,rfl⟩:=bo;cases mx
  ·obtain⟨ew,av,aN,aM,bb⟩:=N4 aq false r _ _ (.int k _) h;refine⟨ew,av,?_,aM,bb⟩;simp only[ff,List.foldlM_cons,hv,Sem.run_bind];exact aN
  ·obtain⟨ew,av,aN,aM,bb⟩:=N4 aq true r _ _ (.int k _) h;refine⟨ew,av,?_,aM,bb⟩;simp only[ff,List.foldlM_cons,hv,Sem.run_bind];exact aN
def S0:ax->Bool
 |.val _ _|.dh _|.d1 _ _=>true
 |_=>false
def gR (tt:List (TypeId×au)) (an:List (Nat×au)) (h:List (Nat×a6)) (g:Operand->ax) (d:Nat) (op:Op):iw:=
 match op with
 |.move x=>.eh (g x) []
 |.assign x=>bif S0 (g x) then .eh (g x) [] else .bad
 |.pick c x y=>Oq (g c) (g x) (g y)
 |.alloc T=>C1 tt an h d T
 |.box T x=>FN tt h d T (g x)
 |.build T ps=>FM tt g T ps.toList
 |.buildSlice T n ps=>Dc tt an h g d T n ps.toList
 |.load T x=>BG tt h T (g x)
 |.nilCheck x=>BS h (g x)
 |.binOp op T x y _=>match g x,g y with
  |.val .bool p,.val .bool q=>match aD tt T with
   |some .bool=>P3 op (.val .bool p) (.val .bool q)
   |_=>.bad
  |.val (.int k) m,.val (.int c0) n=>ob op k m c0 n
  |_,_=>.bad
 |.unOp op _ x=>VH op (g x)
 |.convert s d x=>KK tt s d (g x)
 |.makeSlice T l c=>BL tt an h d T (g l) (g c)
 |.slice T x lo hi none=>Cm tt h T (g x) (lo.map g) (hi.map g)
 |.fieldAddr T x n=>A4 tt h T (g x) n
 |.field T x n=>DE tt h T (g x) n
 |.indexAddr T x i=>Bx tt h T (g x) (g i)
 |.index T x i=>O0 tt T (g x) (g i)
 |.extract x n=>Ms (g x) n
 |.call c=>match c.callee,c.args.toList,c.argTypes.toList with
  |.builtin .len,[x],[T]=>match gr tt T with
   |some _=>BF tt h T (g x)
   |none=>BO tt h T (g x)
  |.builtin .max,x::r,_=>Ey true (g x) (r.map g)
  |.builtin .min,x::r,_=>Ey false (g x) (r.map g)
  |_,_,_=>.bad
 |.makeMap T none=>Ex tt an h d T
 |.lookup T x k ok=>BH tt h T (g x) (g k) ok
 |.makeFunc (.func f) fs cs=>bif fs.isEmpty then .eh (.d1 f (cs.toList.map g)) [] else .bad
 |_=>.bad
theorem amY (aq:cx C st a.tmps w I rt fp) {an:List (Nat×au)} {d:Nat} (h:(gR E.tt an st.h (bu st.g) d o.op).K Q):Yields E C st a w I rt fp o Q:=by
 unfold gR at h;split at h
 ·rename_i x aJ;exact .pure (v:=a.eval x) (by simp[execOp,aJ]) (aq.bu x) h
 ·rename_i x aJ;cases aa:S0 (bu st.g x) with
  |false=>rw[aa] at h;exact h.elim
  |true=>rw[aa] at h;exact .pure (v:=a.eval x) (by simp[execOp,aJ]) (aq.bu x) h
 ·rename_i aJ;exact awf aq aJ h
 ·rename_i aJ;exact aj7 aq aJ h
 ·rename_i aJ;exact akO aq aJ h
 ·rename_i aJ;exact akF aq aJ h
 ·rename_i aJ;exact akS aq aJ h
 ·rename_i aJ;exact arP aq aJ h
 ·rename_i aJ;exact atp aq aJ h
 ·rename_i op T x y u aJ;split at h
  ·rename_i p q ex jw;split at h
   ·rename_i bm;refine Xp aq aJ (fun _ _ _ _=>?_) (by rw[ex,jw];exact h);exact(E.ok T _ bm).choose_spec.2.2.2.2
   ·exact h.elim
  ·rename_i ex jw;refine Xp aq aJ (fun p q _ ay=>?_) (by rw[ex,jw];exact h);rw[ex] at ay;cases ay.1
  ·exact h.elim
 ·rename_i aJ;exact azx aq aJ h
 ·rename_i aJ;exact alE aq aJ h
 ·rename_i aJ;exact asz aq aJ h
 ·rename_i aJ;exact ayB aq aJ h
 ·rename_i aJ;exact anH aq aJ h
 ·rename_i aJ;exact anJ aq aJ h
 ·rename_i aJ;exact aqP aq aJ h
 ·rename_i aJ;exact ayU aq aJ h
 ·rename_i aJ;exact anp aq aJ h
 ·rename_i c aJ;obtain⟨callee,args,argTypes⟩:=c;simp only at h;split at h
  ·rename_i x T aA aX;have vX:args=#[x]:=(by cases args;simp_all);have GO:argTypes=#[T]:=(by cases argTypes;simp_all);subst vX;subst GO;split at h
   ·exact arI aq aJ h
   ·exact asW aq aJ h
  ·rename_i x r aA;have vX:args=(x::r).toArray:=(by cases args;simp_all);obtain⟨ew,av,aN,aM,bb⟩:=N4 (E:=E) aq true r _ _ (aq.bu x) h;refine .pure (v:=ew) ?_ aM bb;simp only[execOp,aJ,resolve,invoke,builtin,Sem.run_bind,Sem.run_pure,Result.andThen_ok,vX,Builtin.max_];simp only[FA,ff,aN];rfl
  ·rename_i x r aA;have vX:args=(x::r).toArray:=(by cases args;simp_all);obtain⟨ew,av,aN,aM,bb⟩:=N4 (E:=E) aq false r _ _ (aq.bu x) h;refine .pure (v:=ew) ?_ aM bb;simp only[execOp,aJ,resolve,invoke,builtin,Sem.run_bind,Sem.run_pure,Result.andThen_ok,vX,Builtin.min_];simp only[FA,ff,aN];rfl
  ·exact h.elim
 ·rename_i aJ;exact asU aq aJ h
 ·rename_i aJ;exact arS aq aJ h
 ·rename_i f fs cs aJ;cases aE:fs.isEmpty with
  |false=>rw[aE] at h;exact h.elim
  |true=>
   rw[aE] at h;obtain rfl:fs=#[]:=(by simpa using aE);refine .pure (v:=.func (.func f) #[] (cs.map a.eval)) (by simp[execOp,aJ,Instr.makeFunc]) (.d1 (by simp) (fun i x v J R=>?_)) h;rw[gB] at J;rw[Array.getElem?_map] at R;obtain⟨y,aB,rfl⟩:=e1.1 J;obtain⟨z,a2,rfl⟩:=e1.1 R;obtain rfl:y=z:=(by simpa[a2] using aB.symm);exact aq.bu y
 ·exact h.elim
end
end
def dS (i:Nat) (S:List Nat):Bool:=S.any fun j=>Nat.beq j i
theorem fd {i:Nat} {S:List Nat}:dS i S=true↔i∈S:=by
 simp only[dS,tO];constructor
 ·rintro⟨j,ao,h⟩;rw[<-fi h];exact ao
 ·exact fun h=>⟨i,h,xN i⟩
def ax.eG (S:List Nat) (a:ax):Bool:=a.ids.any fun i=>dS i S
def Cl:List bB->Option (List bB)
 |.unst::p=>(Cl p).map fun r=>.unst::r
 |.fst::_=>some [.snd]
 |.snd::_=>some [.fst]
 |_=>none
def xg:List bB->List bB->Option (List bB)
 |p,[]=>Cl p
 |.idx _::p,.idx _::q=>xg p q
 |.deref::p,.deref::q=>xg p q
 |.unst::p,.unst::q=>xg p q
 |.fst::p,.fst::q=>xg p q
 |.snd::p,.snd::q=>xg p q
 |_,_=>none
def Tf (p q:List bB):Bool:=hd p q||(xg p q).isSome
theorem aeK:∀{p r:List bB},Cl p=some r->hd p r=true
 |.unst::p,r,h=>by obtain⟨r',J,rfl⟩:=e1.1 h;exact aeK (p:=p) J
 |.fst::_,_,h=>by cases h;rfl
 |.snd::_,_,h=>by cases h;rfl
 |[],_,h=>by cases h
 |.idx _::_,_,h=>by cases h
 |.deref::_,_,h=>by cases h
theorem aeJ:∀{q p r:List bB},xg p q=some r->hd p (q++r)=true
 |[],p,r,h=>by have a7:Cl p=some r:=(by cases p<;>exact h);exact aeK a7
 |s::q,p,r,h=>by
  cases p with
  |nil=>cases s<;>cases h
  |cons s' p=>cases s<;>cases s'<;>first|(cases h;done)|exact aeJ (q:=q) (p:=p) h
theorem aeL:∀{p r:List bB} {τ n4:au},eD τ p=some n4->Cl p=some r->∃(gA:au) (k:Nat),∀(w:World) (l:Loc) (cs:List Value),∃cw,bv w τ l cs r gA (l.map fun q=>(q.1,q.2+k)) cw
 |.unst::p,r,τ,n4,ah,h=>by
  obtain⟨r',J,rfl⟩:=e1.1 h;cases τ with
  |st t=>exact aeL (p:=p) (τ:=t) ah J
  |_=>cases ah
 |.fst::p,r,τ,n4,ah,h=>by
  cases h;cases τ with
  |pr a b=>exact⟨b,a.size,fun w l cs=>⟨_,bv.here⟩⟩
  |_=>cases ah
 |.snd::p,r,τ,n4,ah,h=>by
  cases h;cases τ with
  |pr a b=>
   refine⟨a,0,fun w l cs=>⟨cs.take a.size,?_⟩⟩;have:(l.map fun q=>(q.1,q.2+0))=l:=(by cases l<;>rfl);rw[this];exact bv.here
  |_=>cases ah
 |[],_,_,_,_,h=>by cases h
 |.idx _::_,_,_,_,_,h=>by cases h
 |.deref::_,_,_,_,_,h=>by cases h
theorem E3 {w:World}:∀{q p r:List bB} {τ n4:au} {l:Loc} {cs:List Value} {gV:au} {hF:Loc} {gQ:List Value},eD τ p=some n4->xg p q=some r->bv w τ l cs q gV hF gQ->∃w1,eD gV w1=some n4/\Cl w1=some r
 |[],p,r,τ,n4,l,cs,gV,hF,gQ,ah,h,ag=>by obtain⟨rfl,_,_⟩:=bv.f6.1 ag;have a7:Cl p=some r:=(by cases p<;>exact h);exact⟨p,ah,a7⟩
 |s::q,p,r,τ,n4,l,cs,gV,hF,gQ,ah,h,ag=>by
  cases p with
  |nil=>cases s<;>cases h
  |cons s' p=>
   cases τ<;>cases s<;>simp only[bv] at ag<;>cases s'<;>first|(cases h;done)|skip
   case osl.idx.idx=>obtain⟨_,_,_,_,_,_,_,_,_,ag⟩:=ag;exact E3 (q:=q) (p:=p) ah h ag
   case optr.deref.deref=>obtain⟨_,_,_,_,_,_,ag⟩:=ag;exact E3 (q:=q) (p:=p) ah h ag
   case st.unst.unst=>exact E3 (q:=q) (p:=p) ah h ag
   case pr.fst.fst=>exact E3 (q:=q) (p:=p) ah h ag
   case pr.snd.snd=>exact E3 (q:=q) (p:=p) ah h ag
theorem bv.split {w:World}:∀{q r:List bB} {τ gA:au} {l l2:Loc} {cs cw:List Value},bv w τ l cs (q++r) gA l2 cw->∃oG dp da,bv w τ l cs q oG dp da/\bv w oG dp da r gA l2 cw
 |[],r,τ,gA,l,l2,cs,cw,h=>⟨τ,l,cs,bv.here,h⟩
 |s::q,r,τ,gA,l,l2,cs,cw,h=>by
  rw[mA] at h;cases τ<;>cases s<;>simp only[bv] at h
  case osl.idx=>
   obtain⟨b,o,len,cap,ds,aA,aX,bY,e7,h⟩:=h;obtain⟨oG,dp,da,J,R⟩:=bv.split (q:=q) h;exact⟨oG,dp,da,⟨b,o,len,cap,ds,aA,aX,bY,e7,J⟩,R⟩
  case optr.deref=>
   obtain⟨b,o,ds,aA,aX,bY,h⟩:=h;obtain⟨oG,dp,da,J,R⟩:=bv.split (q:=q) h;exact⟨oG,dp,da,⟨b,o,ds,aA,aX,bY,J⟩,R⟩
  case st.unst=>exact bv.split (q:=q) h
  case pr.fst=>exact bv.split (q:=q) h
  case pr.snd=>exact bv.split (q:=q) h
theorem bv.upper {w w':World} {τ n4:au} {cs:List Value} {p q r:List bB} (ah:eD τ p=some n4) (hs:xg p q=some r) {gV:au} {b o:Nat} {gQ:List Value} (ag:bv w τ none cs q gV (some (b,o)) gQ) (ae:∀(q:List bB) (gV:au) (hF:Loc) (gQ:List Value),hd p q=true->bv w τ none cs q gV hF gQ->bv w' τ none cs q gV hF gQ):∃alH,bv w' τ none cs q gV (some (b,o)) alH:=by
 obtain⟨w1,J,R⟩:=E3 ah hs ag;obtain⟨gA,k,gI⟩:=aeL J R;obtain⟨cw,ac⟩:=gI w (some (b,o)) gQ;obtain⟨oG,dp,da,aL,aY⟩:=bv.split (ae _ _ _ _ (aeJ hs) (ag.append ac));have aA:=aL.ty;rw[ag.ty] at aA;obtain rfl:=fH aA;obtain⟨ju,bG⟩:=gI w' dp da;obtain⟨_,aX,_⟩:=aY.ku bG;cases dp with
 |none=>cases aX
 |some x=>
  obtain⟨c3,bR⟩:=x;simp only[hC,cS,gX] at aX;obtain⟨bY,e7⟩:=aX;obtain rfl:b=c3:=bY;obtain rfl:o=bR:=(by omega);exact⟨da,aL⟩
def nM (keep:List (Nat×List bB)):ax->Bool
 |.ref id []=>keep.any fun e=>Nat.beq e.1 id
 |.ref id q=>keep.any fun e=>Nat.beq e.1 id&&hd e.2 q
 |.addr id q=>keep.any fun e=>Nat.beq e.1 id&&Tf e.2 q
 |.view id q _ _=>keep.any fun e=>Nat.beq e.1 id&&hd e.2 q
 |_=>false
def kD (S:List Nat) (keep:List (Nat×List bB)):ax->Bool
 |.d1 _ l=>l.all fun a=>!(a.eG S)||nM keep a
 |.app id q _ _ own=>(own.all fun i=>!(dS i S))&&keep.any fun e=>Nat.beq e.1 id&&mH e.2 q
 |a=>nM keep a
def ef (S:List Nat) (keep:List (Nat×List bB)) (a:ax):ax:=bif a.eG S&&!(kD S keep a) then .dead else a
def e8 (S:List Nat) (keep:List (Nat×List bB)):ax->ax
 |.ei l=>.ei (l.map (ef S keep))
 |a=>ef S keep a
def kill (S:List Nat) (keep:List (Nat×List bB)) (g:List (Nat×ax)):List (Nat×ax):=g.map fun q=>(q.1,e8 S keep q.2)
def del (S:List Nat) (h:List (Nat×a6)):List (Nat×a6):=h.filter fun q=>!(dS q.1 S)
theorem NM (q:List bB):hd [] q=false:=by cases q<;>simp[hd,sS]
def Ei (l:List Nat):List (Nat×List bB):=l.map fun i=>(i,[])
theorem sN (S:List Nat) (keep:List (Nat×List bB)):∀(g:List (Nat×ax)) (k:Nat),gt (kill S keep g) k=e8 S keep (gt g k)
 |[],k=>by simp[kill,gt,aD,e8,ef,ax.eG,ax.ids]
 |(k0,a)::g,k=>by
  show gt ((k0,e8 S keep a)::kill S keep g) k=_;rw[jX,jX];split
  ·rfl
  ·exact sN S keep g k
theorem nP (S:List Nat):∀(h:List (Nat×a6)) (k:Nat),aD (del S h) k=if k∈S then none else aD h k
 |[],k=>by simp[del,aD]
 |(k0,t)::h,k=>by
  have aZ:=nP S h k;simp only[del] at aZ|-;rw[nj];cases ak:dS k0 S with
  |true=>
   have:k0∈S:=fd.1 ak;simp only[mw,Bool.false_eq_true,if_false];rw[aZ,dq];by_cases e:k0=k
   ·subst e;rw[if_pos this,if_pos this]
   ·rw[if_neg e]
  |false=>
   have:k0∉S:=fun h=>(by rw[fd.2 h] at ak;cases ak);simp only[oH,if_true];rw[dq,dq,aZ];by_cases e:k0=k
   ·subst e;rw[if_pos rfl,if_pos rfl,if_neg this]
   ·rw[if_neg e,if_neg e]
theorem VK {S:List Nat} {a:ax} (h:a.eG S=false):∀id∈a.ids,id∉S:=fun id bp bE=>by have:a.eG S=true:=(by simp only[ax.eG,tO];exact⟨id,bp,fd.2 bE⟩);rw[h] at this;cases this
structure qo (C:eb) (st:bj) (w w':World) (I I':Nat->Prop) (rt:Nat->List Value) (fp:Nat->List Nat) (S:List Nat) (Eh:List (Nat×List bB)) (new:List (Nat×a6)) (rtn:Nat->List Value) (fpn:Nat->List Nat):Prop where
 size:w.heap.size<=w'.heap.size
 os:w'.os=w.os
 tape:w'.tape=w.tape
 output:w'.output=w.output
 heap:∀b,b<w.heap.size->(∀id∈S,∀t,aD st.h id=some t->b∉fp id)->w'.heap[b]?=w.heap[b]?
 evo:∀b,b<w.heap.size->my w w' b
 i:∀b,I b->I' b
 i2:∀b,I' b->I b\/(b<w'.heap.size/\(w.heap.size<=b\/∃id∈S,∃t,aD st.h id=some t/\b∈fp id))
 tree:∀id t,aD new id=some t->(id∈S\/aD st.h id=none)/\br (bP I' C.B) w' t.1 (rtn id) t.2 (fpn id)/\(fpn id).Nodup/\∀b∈fpn id,¬I' b/\b<w'.heap.size/\(w.heap.size<=b\/∃gq∈S,∃t',aD st.h gq=some t'/\b∈fp gq)
 dis:∀i j t u,aD new i=some t->aD new j=some u->i≠j->∀b∈fpn i,b∉fpn j
 keep:∀e∈Eh,∀t,aD st.h e.1=some t->∃t',aD new e.1=some t'/\t'.1=t.1/\rtn e.1=rt e.1/\(∃n4,eD t.1 e.2=some n4)/\∀(q:List bB) (gV:au) (hF:Loc) (gQ:List Value),hd e.2 q=true->bv w t.1 none (rt e.1) q gV hF gQ->bv w' t.1 none (rt e.1) q gV hF gQ
 app:∀e∈Eh,∀t,aD st.h e.1=some t->∀(q:List bB) (τ:au) (xs:List τ.den) (loc:Loc) (ks:List Value) (f1:List Nat),mH e.2 q=true->τ.f5=true->bv w t.1 none (rt e.1) q (.osl τ) loc ks->dD t.1 t.2 q (.osl τ) xs->br (bP I C.B) w (.osl τ) ks xs f1->∃t',aD new e.1=some t'/\dD t'.1 t'.2 q (.osl τ) xs/\∀b∈f1,b∈fpn e.1/\df w w' b
theorem cx.fO {C:eb} {st:bj} {b3:Array Value} {w w':World} {I I':Nat->Prop} {rt rtn:Nat->List Value} {fp fpn:Nat->List Nat} {S:List Nat} {keep:List (Nat×List bB)} {new:List (Nat×a6)} (h:cx C st b3 w I rt fp) (u:qo C st w w' I I' rt fp S keep new rtn fpn):cx C ⟨kill S keep st.g,new++del S st.h⟩ b3 w' I' (en new rtn rt) (en new fpn fp):=by
 have bF:∀m b,bP I C.B m b->bP I' C.B m b/\df w w' b:=fun m b aa=>by
  refine⟨?_,.of_heap (u.heap b (h.ib b (qQ aa)) (fun id _ t ah aH=>h.notM ah b aH m aa))⟩;cases m
  ·exact u.i b aa
  ·exact aa.imp (u.i b) id
 have rF:∀id t,aD (new++del S st.h) id=some t->(aD new id=some t/\en new rtn rt id=rtn id/\en new fpn fp id=fpn id)\/(aD new id=none/\id∉S/\aD st.h id=some t/\en new rtn rt id=rt id/\en new fpn fp id=fp id):=fun id t ah=>by
  rw[lL,nP] at ah;cases ay:aD new id with
  |none=>
   rw[ay] at ah;simp only[Option.none_or] at ah;split at ah
   ·cases ah
   ·rename_i bE;exact .inr ⟨rfl,bE,ah,by simp[en,ay],by simp[en,ay]⟩
  |some u=>rw[ay] at ah;exact .inl ⟨by simpa using ah,by simp[en,ay],by simp[en,ay]⟩
 have DQ:∀id t,aD st.h id=some t->id∉S->∀b∈fp id,df w w' b:=fun id t ah bE b aa=>.of_heap (u.heap b ((h.tree id t ah).2.2 b aa).2.2.1 (fun gq mM t' bC cZ=>
  h.dis id gq t t' ah bC (fun e=>bE (by rw[e];exact mM)) b aa cZ))
 have aop:∀id t,aD st.h id=some t->id∉S->∀b∈fp id,¬I' b:=fun id t ah bE b aa hi=>by
  have q:=(h.tree id t ah).2.2 b aa;rcases u.i2 b hi with hi|⟨_,hi|⟨gq,mM,t',bC,cZ⟩⟩
  ·exact q.1 hi
  ·omega
  ·exact h.dis id gq t t' ah bC (fun e=>bE (by rw[e];exact mM)) b aa cZ
 refine{n:=h.n,i0:=fun b aa=>u.i b (h.i0 b aa),i1:=?_,ib:=?_,tree:=?_,dis:=?_,tmp:=?_,frame:=?_,evo:=fun b aa=>(h.evo b aa).trans (u.evo b (jn aa h.size)),size:=d8 h.size u.size,os:=u.os.trans h.os,tape:=u.tape.trans h.tape,output:=u.output.trans h.output,pin:=h.pin}
 ·intro b aa;rcases u.i2 b aa with aa|⟨_,aa|⟨gq,mM,t',bC,cZ⟩⟩
  ·exact h.i1 b aa
  ·exact .inr (.inl (d8 h.size aa))
  ·exact .inr ((h.tree gq t' bC).2.2 b cZ).2.2.2
 ·intro b aa;rcases aa with aa|aa
  ·rcases u.i2 b aa with aa|⟨aa,_⟩
   ·exact jn (h.ib b (.inl aa)) u.size
   ·exact aa
  ·exact jn (h.ib b (.inr aa)) u.size
 ·intro id t ah;rcases rF id t ah with⟨J,R,ac⟩|⟨aV,bE,J,R,ac⟩
  ·obtain⟨_,aN,aM,bb⟩:=u.tree id t J;rw[R,ac];refine⟨aN,aM,fun b aa=>?_⟩;obtain⟨b2,bo,a5⟩:=bb b aa;rcases a5 with a5|⟨gq,mM,t',bC,cZ⟩
   ·exact⟨b2,fun dZ=>by have:=h.ib b (.inr dZ);omega,bo,.inl (d8 h.size a5)⟩
   ·have q:=(h.tree gq t' bC).2.2 b cZ;exact⟨b2,q.2.1,bo,q.2.2.2⟩
  ·obtain⟨aN,aM,bb⟩:=h.tree id t J;rw[R,ac];refine⟨aN.mono bF (DQ id t J bE),aM,fun b aa=>?_⟩;obtain⟨b2,bo,a5,bw⟩:=bb b aa;exact⟨aop id t J bE b aa,bo,jn a5 u.size,bw⟩
 ·intro i j t v hi ao dJ b aa;rcases rF i t hi with⟨J,_,ac⟩|⟨aV,bE,J,_,ac⟩<;>rcases rF j v ao with⟨bk,_,cm⟩|⟨k0,aq7,bk,_,cm⟩<;>rw[ac] at aa<;>rw[cm]
  ·exact u.dis i j t v J bk dJ b aa
  ·intro cZ;rcases((u.tree i t J).2.2.2 b aa).2.2 with q|⟨gq,mM,t',bC,je⟩
   ·have:=((h.tree j v bk).2.2 b cZ).2.2.1;omega
   ·exact h.dis j gq v t' bk bC (fun e=>aq7 (by rw[e];exact mM)) b cZ je
  ·intro cZ;rcases((u.tree j v bk).2.2.2 b cZ).2.2 with q|⟨gq,mM,t',bC,je⟩
   ·have:=((h.tree i t J).2.2 b aa).2.2.1;omega
   ·exact h.dis i gq t t' J bC (fun e=>bE (by rw[e];exact mM)) b aa je
  ·exact h.dis i j t v J bk dJ b aa
 ·intro k;show cJ _ _ _ _ _ (gt (kill S keep st.g) k) _;rw[sN];have ae:=h.tmp k;generalize gt st.g k=av at ae;generalize b3.getD k undef=val at ae;suffices FSq:∀(av:ax) (val:Value),cJ (bP I C.B) w st.h rt fp av val->cJ (bP I' C.B) w' (new++del S st.h) (en new rtn rt) (en new fpn fp) (ef S keep av) val by
   cases av with
   |ei l=>
    cases ae with|ei ai ay=>
    refine .ei (by simp[ai]) (fun i a v J R=>?_);rw[gB] at J;obtain⟨a0,ac,rfl⟩:=e1.1 J;exact FSq a0 v (ay i a0 v ac R)
   |_=>exact FSq _ _ ae
  clear ae;have Ql:∀(av:ax) (val:Value),cJ (bP I C.B) w st.h rt fp av val->av.eG S=false\/nM keep av=true->cJ (bP I' C.B) w' (new++del S st.h) (en new rtn rt) (en new fpn fp) av val:=by
   intro av val ae apY;cases aR:av.eG S with
   |false=>
    refine ae.y1 bF (fun id bp t ah=>?_);have bE:=VK aR id bp;have wo:aD new id=none:=by
     cases ay:aD new id with
     |none=>rfl
     |some x=>
      rcases(u.tree id x ay).1 with q|q
      ·exact absurd q bE
      ·rw[ah] at q;cases q
    refine⟨by rw[lL,wo,nP,if_neg bE];simpa using ah,by simp[en,wo],by simp[en,wo],(h.tree id t ah).1,DQ id t ah bE⟩
   |true=>
    have hr:nM keep av=true:=apY.resolve_left (by rw[aR];exact fun h=>by cases h);have one:∀(id:Nat) (t:a6),aD st.h id=some t->∀e∈keep,e.1=id->∃t',aD (new++del S st.h) id=some t'/\t'.1=t.1/\en new rtn rt id=rt id/\(∃n4,eD t.1 e.2=some n4)/\
     ∀(q:List bB) (gV:au) (hF:Loc) (gQ:List Value),hd e.2 q=true->bv w t.1 none (rt id) q gV hF gQ->bv w' t.1 none (rt id) q gV hF gQ:=by
     intro id t ah e aE bp;subst bp;obtain⟨t',aN,aM,bb,B4,bH⟩:=u.keep e aE _ ah;exact⟨t',by rw[lL,aN];rfl,aM,by simp[en,aN,bb],B4,bH⟩
    have get:∀(id:Nat) (q:List bB),(keep.any fun e=>Nat.beq e.1 id&&hd e.2 q)=true->∃e∈keep,e.1=id/\hd e.2 q=true:=(by intro id q ay;obtain⟨e,aE,R⟩:=tO.1 ay;simp only[bW] at R;exact⟨e,aE,fi R.1,R.2⟩);cases av with
    |ref id p=>
     cases p with
     |nil=>
      obtain⟨e,aE,R⟩:=tO.1 (show(keep.any fun e=>Nat.beq e.1 id)=true from hr);have R:=fi R;cases ae with|ref ah ag=>
      obtain⟨rfl,rfl,rfl⟩:=bv.f6.1 ag;obtain⟨t',aN,aM,bb,_⟩:=one id _ ah e aE R;rw[<-aM];refine .ref (loc:=none) aN ?_;rw[bb];exact bv.here
     |cons s p=>
      obtain⟨e,aE,R,ac⟩:=get id (s::p) hr;cases ae with|ref ah ag=>
      obtain⟨t',aN,aM,bb,B4,bH⟩:=one id _ ah e aE R;have iU:=bH _ _ _ _ ac ag;rw[<-bb,<-aM] at iU;exact .ref aN iU
    |addr id p=>
     obtain⟨e,aE,R⟩:=tO.1 (show(keep.any fun e=>Nat.beq e.1 id&&Tf e.2 p)=true from hr);simp only[bW] at R;obtain⟨R,ac⟩:=R;have R:=fi R;cases ae with|addr ah ag=>
     obtain⟨t',aN,aM,bb,B4,bH⟩:=one id _ ah e aE R;rcases Bool.or_eq_true_iff.1 ac with ac|ac
     ·have iU:=bH _ _ _ _ ac ag;rw[<-bb,<-aM] at iU;exact .addr aN iU
     ·obtain⟨r,ow⟩:=Option.isSome_iff_exists.1 ac;obtain⟨_,B4⟩:=B4;obtain⟨gQ,iU⟩:=bv.upper B4 ow ag bH;rw[<-bb,<-aM] at iU;exact .addr aN iU
    |view id p lo hi=>
     obtain⟨e,aE,R,ac⟩:=get id p hr;cases ae with|oE=>(exact .oE _ _)|view ah ag dp l2 mZ=>
     obtain⟨t',aN,aM,bb,B4,bH⟩:=one id _ ah e aE R;have iU:=bH _ _ _ _ ac ag;rw[<-bb,<-aM] at iU;exact .view aN iU dp l2 mZ
    |_=>cases hr
  intro av val ae;unfold ef;cases aR:av.eG S with
  |false=>simp only[Bool.false_and,cond_false];exact Ql av val ae (.inl aR)
  |true=>
   cases hr:kD S keep av with
   |false=>simp only[oH,Bool.and_self,cond_true];exact .dead _
   |true=>
    simp only[mw,Bool.and_false,cond_false];cases av with
    |d1 f l=>
     cases ae with|d1 ai ay=>
     refine .d1 ai (fun i a v J R=>Ql a v (ay i a v J R) ?_);have:=fM.1 hr a (oP J);simpa using this
    |app id q τ aW own=>
     cases ae with|app ah fX ag aG J ky R nI fw eA=>
     have ow:((own.all fun i=>!(dS i S))&&keep.any fun e=>Nat.beq e.1 id&&mH e.2 q)=true:=hr;rw[bW] at ow;obtain⟨aJ,ow⟩:=ow;have aJ:∀i∈own,i∉S:=fun i hi ak=>(by have:=fM.1 aJ i hi;rw[fd.2 ak] at this;cases this);obtain⟨e,aE,ow⟩:=tO.1 ow;simp only[bW] at ow;obtain⟨ao4,aP⟩:=ow;obtain rfl:=fi ao4;obtain⟨t',aN,aM,bb⟩:=u.app e aE _ ah q τ _ _ _ _ aP fX ag aG J;obtain⟨aBN,b2,bo,a5,_,bV⟩:=u.keep e aE _ ah;rw[aN] at b2;obtain rfl:=fH b2;have wo:∀i∈own,aD new i=none:=fun i hi=>by
      cases ay:aD new i with
      |none=>rfl
      |some x=>
       obtain⟨_,i4,nK⟩:=nI i hi;rcases(u.tree i x ay).1 with q|q
       ·exact absurd q (aJ i hi)
       ·rw[nK] at q;cases q
     have ak:en new rtn rt e.1=rt e.1:=(by simp only[en,aN,a5]);have Nb:=bV q _ _ _ (Mh aP) ag;rw[<-bo,<-ak] at Nb;refine .app (t:=t') (by rw[lL,aN];rfl) fX Nb aM (J.mono bF (fun b aa=>(bb b aa).2)) (fun b aa=>by simp only[en,aN];exact(bb b aa).1) (R.mono bF (fun b aa=>?_)) (fun i hi=>?_) (fun b aa=>?_) eA
     ·rcases fw b aa with aa|⟨i,hi,aa⟩
      ·exact(bb b aa).2
      ·obtain⟨_,i4,nK⟩:=nI i hi;exact DQ i i4 nK (aJ i hi) b aa
     ·obtain⟨aY,i4,nK⟩:=nI i hi;exact⟨aY,i4,by rw[lL,wo i hi,nP,if_neg (aJ i hi)];simpa using nK⟩
     ·rcases fw b aa with aa|⟨i,hi,aa⟩
      ·exact .inl aa
      ·exact .inr ⟨i,hi,by simp only[en,wo i hi];exact aa⟩
    |_=>exact Ql _ val ae (.inr hr)
 ·intro b aa dn;rw[u.heap b (jn aa h.size)]
  ·exact h.frame b aa dn
  ·intro id _ t ah cZ;have:=((h.tree id t ah).2.2 b cZ).2.2.2;rcases this with q|q
   ·omega
   ·exact dn q
section
def lV (M:dE->Nat->Prop) (w:World) (t:au) (ad:Option Addr) (aW:List t.den) (dQ:List (List Nat)):Prop:=
 dQ.length=aW.length/\(aW=[]\/∃b o,ad=some ⟨b,o,none⟩/\∀(i:Nat) (y:t.den) (f:List Nat),aW[i]?=some y->dQ[i]?=some f->∃ds,ds.length=t.size/\eI w b (o+i*t.size) ds/\br M w t ds y f)
theorem lV.bM {M:dE->Nat->Prop} {w:World} {m:dE} {t:au} {ad:Option Addr} {aW:List t.den} {n cap:Nat} (h:br M w (.bM m t) [.slice ad n cap] aW []):n=aW.length/\lV M w t ad aW (List.replicate aW.length []):=by obtain⟨_,a,c,e,_,_,h⟩:=h;simp only[hL,Value.slice.injEq,and_true] at e;obtain⟨rfl,rfl,rfl⟩:=e;refine⟨rfl,by simp,h.imp id ?_⟩;rintro⟨b,o,aC,_,ab⟩;refine⟨b,o,aC,fun i y f aB aH=>?_⟩;have:i<aW.length:=(fu.1 aB).1;rw[qj,if_pos this] at aH;obtain rfl:=fH aH;exact ab i y aB
theorem lV.osl {M:dE->Nat->Prop} {w:World} {t:au} {ad:Option Addr} {aW:List t.den} {n cap:Nat} {f:List Nat} (h:br M w (.osl t) [.slice ad n cap] aW f):n=aW.length/\n<=cap/\∃dQ,lV M w t ad aW dQ/\(∀c∈dQ.flatten,c∈f)/\(f.Nodup->dQ.flatten.Nodup)/\((ad=none/\cap=0/\f=[])\/∃b o,ad=some ⟨b,o,none⟩/\f=b::dQ.flatten/\kq w b o (o+cap*t.size)):=by
 obtain⟨a,c,e,h⟩:=h;simp only[hL,Value.slice.injEq,and_true] at e;obtain⟨rfl,rfl,rfl⟩:=e;rcases h with⟨rfl,rfl,rfl,rfl⟩|⟨b,o,dR,rfl,rfl,aN,aM,bb,bH⟩
 ·exact⟨rfl,bU _,[],⟨rfl,.inl rfl⟩,by simp,by simp,.inl ⟨rfl,rfl,rfl⟩⟩
 ·refine⟨rfl,aM,dR,⟨aN,.inr ⟨b,o,rfl,bH⟩⟩,fun c hc=>gC _ hc,fun h=>(mB.1 h).2,.inr ⟨b,o,rfl,rfl,bb⟩⟩
theorem lV.cells {M:dE->Nat->Prop} {w:World} {t:au} {ad:Option Addr} {aW:List t.den} {dQ:List (List Nat)} (h:lV M w t ad aW dQ) (aw:0<t.size):∃news:List Value,news.length=aW.length*t.size/\(∀v∈news,v.oneCell'=true)/\(∀b,ad=some b->aW≠[]->∀(j:Nat) v,news[j]?=some v->w.cell? (b.add j)=some v)/\∀(i:Nat) (y:t.den) (f:List Nat),aW[i]?=some y->dQ[i]?=some f->br M w t ((news.drop (i*t.size)).take t.size) y f:=by
 obtain⟨ai,h⟩:=h;rcases h with rfl|⟨b,o,rfl,h⟩
 ·exact⟨[],by simp,by simp,fun _ _ h=>absurd rfl h,by simp⟩
 ·have pU:∀k,k<aW.length*t.size->∃v,w.cell? ⟨b,o+k,none⟩=some v/\v.oneCell'=true:=by
   intro k ae;have hi:k/t.size<aW.length:=(Nat.div_lt_iff_lt_mul aw).2 ae;obtain⟨ds,cK,cG,c9⟩:=h (k/t.size) aW[k/t.size] (dQ[k/t.size]'(by omega)) (by simp) (by simp)
   have ak:=Nat.mod_lt k aw;have:ds[k %t.size]?=some (ds[k %t.size]'(by omega)):=cr _
   refine⟨_,?_,c9.one _ (dy (by omega:k %t.size<ds.length))⟩;have:=cG _ _ this;rwa[show o+k/t.size*t.size+k %t.size=o+k by have:=vx k t.size;rw[pJ] at this;omega] at this
  have nG:∀k,((List.range (aW.length*t.size)).map fun k=>(w.cell? ⟨b,o+k,none⟩).getD undef)[k]?=if k<aW.length*t.size then w.cell? ⟨b,o+k,none⟩ else none:=by
   intro k;rw[gB];by_cases ae:k<aW.length*t.size
   ·rw[if_pos ae,vt ae];obtain⟨v,hv,_⟩:=pU k ae;simp[hv]
   ·rw[if_neg ae,gW (by simp;omega)];rfl
  refine⟨(List.range (aW.length*t.size)).map fun k=>(w.cell? ⟨b,o+k,none⟩).getD undef,by simp,?_,?_,?_⟩
  ·intro v hv;obtain⟨k,ae,rfl⟩:=dz.1 hv;obtain⟨u,aR,J⟩:=pU k (j9.1 ae);simpa[aR] using J
  ·intro c3 cZ _ j v ao;cases cZ;rw[nG] at ao;split at ao
   ·rw[Addr.add_lit];exact ao
   ·cases ao
  ·intro i y f aB aH;obtain⟨ds,cK,cG,c9⟩:=h i y f aB aH;have hi:i<aW.length:=(fu.1 aB).1;have:(((List.range (aW.length*t.size)).map fun k=>(w.cell? ⟨b,o+k,none⟩).getD undef).drop (i*t.size)).take t.size=ds:=by
    apply jN;intro j;rcases ct j t.size with ao|ao
    ·rw[pH ao,n6,nG];have J:(i+1)*t.size<=aW.length*t.size:=jQ _ hi;rw[ie,lx] at J;rw[if_pos (by omega)];have:ds[j]?=some (ds[j]'(by omega)):=cr _
     rw[this,<-CU];exact cG _ _ this
    ·rw[gW (by simp;omega),gW (by omega)]
   rw[this];exact c9
section
variable {P:Program}
theorem akj {w:World} {T ty S:TypeId} {t:au} {i:TypeInfo} (bm:P.underlying T=some (.slice S)) (bE:eB P t S) (hi:P.info? S=some i) (el:t.size<=1300) {ad yd:Option Addr} {n cap m c:Nat} {olds news:List Value} (aJ:olds.length=n*t.size) (apU:∀b,ad=some b->∀(j:Nat) (v:Value),olds[j]?=some v->w.cell? (b.add j)=some v) (aql:∀b,ad=some b->b.spot=none) (sT:n<=cap) (qF:ad=none->cap=0) (ag:news.length=m*t.size) (J:∀v∈news,v.oneCell'=true) (Sp:∀b,yd=some b->0<m->∀(j:Nat) (v:Value),news[j]?=some v->w.cell? (b.add j)=some v) (aaL:yd=none->m=0) (h0:∀b,ad=some b->kq w b.block b.off (b.off+cap*t.size)) (g9:n+m<=gS):∃ew w',(Builtin.append_ #[T,T] ty #[.slice ad n cap,.slice yd m c]).run P w=.ok ew w'/\((
   n+m<=cap/\ew=.slice ad (n+m) cap/\((ad=none/\w'=w)\/∃b,ad=some b/\w'=w.setCells b.block (b.off+n*t.size) news))\/
   ∃(fW:Nat) (cells:Array Value),cap<n+m/\n+m<=fW/\ew=.slice (some ⟨w.heap.size,0,none⟩) (n+m) fW/\it w w'/\w'.heap[w.heap.size]?=some (.cells cells S (0,0))/\w'.heap.size=w.heap.size+1/\fW*t.size<=cells.size/\∀(j:Nat) (v:Value),(olds++news)[j]?=some v->cells[j]?=some v):=by
 obtain⟨lf,_,dv,_⟩:=bE.info;have ek:=dv.info;rw[hi] at ek;cases ek;have mS:=bE.pos;by_cases Bn:n+m<=cap
 ·by_cases ak:m=0
  ·subst ak;obtain rfl:news=[]:=qi (by simpa using ag);have ZQ:(Builtin.firstCells t.size 0 (.slice yd 0 c)).run P w=.ok #[] w:=by
    cases yd with
    |none=>rfl
    |some b=>simp[Builtin.firstCells,loadCells,loadCellsFrom]
   refine⟨.slice ad n cap,w,?_,.inl ⟨Bn,rfl,?_⟩⟩
   ·cases ad with
    |none=>simp[Builtin.append_,run_underlying bm,sizeOf,typeInfo,hi,Builtin.lenOf,dv.size,sT,ZQ]
    |some b=>simp[Builtin.append_,run_underlying bm,sizeOf,typeInfo,hi,Builtin.lenOf,dv.size,sT,ZQ,storeCells]
   ·cases ad with
    |none=>exact .inl ⟨rfl,rfl⟩
    |some b=>exact .inr ⟨b,rfl,rfl⟩
  ·cases ad with
   |none=>have:=qF rfl;omega
   |some b=>
    cases yd with
    |none=>exact absurd (aaL rfl) ak
    |some y=>
     obtain⟨P0,akH,bs⟩:=b;obtain rfl:bs=none:=aql _ rfl;have DZ:(n+m)*t.size<=cap*t.size:=jQ _ Bn;rw[ie] at DZ;have hr:=run_append_room_cells (P:=P) w T ty S i bm hi P0 akH n cap y m c news (by rw[dv.size];exact ag) (Sp y rfl (by omega)) J Bn (fun j ao=>(h0 _ rfl _ (by rw[dv.size];simp only;omega) (by rw[dv.size];simp only;omega)).1) (fun j ao=>(h0 _ rfl _ (by rw[dv.size];simp only;omega) (by rw[dv.size];simp only;omega)).2);rw[dv.size] at hr;exact⟨_,_,hr,.inl ⟨Bn,rfl,.inr ⟨_,rfl,rfl⟩⟩⟩
 ·obtain⟨iN,aqL,a2⟩:=bE.RX;have a2:=a2 i hi;have ak:0<m:=(by omega);cases yd with
  |none=>have:=aaL rfl;omega
  |some y=>
   have Hc:(n+m)*i.bytes<=140737488355328:=(by have J:(n+m)*i.bytes<=gS*31200:=l1 g9 (by have:=dv.bytes;omega);unfold gS at J;omega);have Hp:((n+m:Nat):Int)<=9223372036854775807:=(by unfold gS at g9;omega);have gm:∀(Um:Nat),let fW:=grownCap w (n+m) Um S
    n+m<=fW/\it w (w.drew.alloc (.cells (olds.toArray++news.toArray++Builtin.zeroCells iN.cells (fW-(n+m))) S))/\
    (w.drew.alloc (.cells (olds.toArray++news.toArray++Builtin.zeroCells iN.cells (fW-(n+m))) S)).heap[w.heap.size]?=some (.cells (olds.toArray++news.toArray++Builtin.zeroCells iN.cells (fW-(n+m))) S (0,0))/\
    fW*t.size<=(olds.toArray++news.toArray++Builtin.zeroCells iN.cells (fW-(n+m))).size/\
    ∀(j:Nat) (v:Value),(olds++news)[j]?=some v->(olds.toArray++news.toArray++Builtin.zeroCells iN.cells (fW-(n+m)))[j]?=some v:=by
    intro Um fW;have kS:n+m<=fW:=grownCap_ge w (n+m) Um S;refine⟨kS,(it.refl w).drew.trans (it.alloc _ _),heap_alloc_new w.drew _,?_,?_⟩
    ·simp only[Array.size_append,xM,size_zeroCells,aqL,aJ,ag,<-ie];refine jQ _ ?_;omega
    ·intro j v ao;have ov:j<(olds++news).length:=(fu.1 ao).1;rw[Array.getElem?_append,if_pos (by simpa using ov)];simpa using ao
   cases ad with
   |some b=>
    have hr:=run_append_grow (P:=P) w T ty S i iN bm hi a2 b n cap olds (by rw[dv.size];exact aJ) (apU b rfl) y m c news (by rw[dv.size];exact ag) (Sp y rfl ak) (by omega) Hp (growslice_fits (by omega) Hc);obtain⟨f1,cE,g6,ny,v7⟩:=gm cap;exact⟨_,_,hr,.inr ⟨_,_,by omega,f1,rfl,cE,g6,by simp,ny,v7⟩⟩
   |none=>
    have o7:=qF rfl;have Sn:n=0:=(by omega);subst o7;subst Sn;obtain rfl:olds=[]:=qi (by simpa using aJ);simp only[kN] at Hp Hc gm;have hr:=run_append_nil (P:=P) w T ty S i iN bm hi a2 y m c news (by rw[dv.size];exact ag) (Sp y rfl ak) ak Hp (by omega);obtain⟨f1,cE,g6,ny,v7⟩:=gm 0;simp only[hk,Array.empty_append] at f1 cE g6 ny v7;refine⟨_,_,hr,.inr ⟨_,_,by omega,by rw[kN];exact f1,by rw[kN],cE,g6,by simp,ny,v7⟩⟩
end
end
theorem Jn (b:Nat):∀(vs:List Value) (o:Nat) (w:World) (k:Nat),k≠b->(w.setCells b o vs).heap[k]?=w.heap[k]?
 |[],_,_,_,_=>rfl
 |v::r,o,w,k,ae=>by rw[World.setCells,Jn b r _ _ k ae];simp only[World.setCell,xA];rw[if_neg (fun e=>ae e.symm)]
theorem E1 (b:Nat):∀(vs:List Value) (o:Nat) (w:World),(w.setCells b o vs).heap.size=w.heap.size
 |[],_,_=>rfl
 |v::r,o,w=>by rw[World.setCells,E1 b r];simp
theorem u5 (b:Nat):∀(vs:List Value) (o:Nat) (w:World),(w.setCells b o vs).os=w.os/\(w.setCells b o vs).tape=w.tape/\(w.setCells b o vs).output=w.output
 |[],_,_=>⟨rfl,rfl,rfl⟩
 |v::r,o,w=>by rw[World.setCells];exact u5 b r _ _
theorem Vf (b:Nat) (vs:List Value) (o:Nat) (w:World) (h:∀j,j<vs.length->(w.cell? ⟨b,o+j,none⟩).isSome=true) (c:Nat):((w.setCells b o vs).cell? ⟨b,c,none⟩).isSome=(w.cell? ⟨b,c,none⟩).isSome:=by
 by_cases hc:o<=c/\c<o+vs.length
 ·obtain⟨j,rfl⟩:∃j,c=o+j:=⟨c-o,by omega⟩;rw[World.cell?_setCells_in b vs o w h j (by omega),h j (by omega)];rfl
 ·rw[World.cell?_setCells_out b vs o w _ (fun _ _=>by simp only;omega)]
theorem asC (w:World) (a:Addr) (v:Value) (c:Nat):j0 (w.setCell a v) c=j0 w c:=by
 unfold j0 World.setCell;simp only[xA];by_cases e:a.block=c
 ·subst e;simp only[if_true];cases w.heap[a.block]? with
  |none=>rfl
  |some o=>cases o<;>rfl
 ·simp only[if_neg e]
theorem Iq (b:Nat):∀(vs:List Value) (o:Nat) (w:World) (c:Nat),j0 (w.setCells b o vs) c=j0 w c
 |[],_,_,_=>rfl
 |v::r,o,w,c=>by rw[World.setCells,Iq b r (o+1),asC]
theorem xe {b:Nat} {vs:List Value} {o:Nat} {w:World} {k:Nat} (ae:k≠b):df w (w.setCells b o vs) k:=.of_heap (Jn b vs o w k ae)
theorem W5 {P:Program} {M:dE->Nat->Prop} {w:World} {T ty S:TypeId} {t:au} {i:TypeInfo} (bm:P.underlying T=some (.slice S)) (bE:eB P t S) (hi:P.info? S=some i) (el:t.size<=1300) {ad yd:Option Addr} {n cap c:Nat} {xs aW:List t.den} {f1:List Nat} {dQ:List (List Nat)} (ab:br M w (.osl t) [.slice ad n cap] xs f1) (aB:lV M w t yd aW dQ) (eA:f1.Nodup) (bF:∀b∈f1,∀m,¬M m b) (apR:dQ.flatten.Nodup) (MX:∀b∈f1,b∉dQ.flatten) (aoy:∀m b,M m b->b<w.heap.size) (DT:∀b∈f1,b<w.heap.size) (g2:∀b∈dQ.flatten,b<w.heap.size) (g9:xs.length+aW.length<=gS):∃ew w' cE,(Builtin.append_ #[T,T] ty #[.slice ad n cap,.slice yd aW.length c]).run P w=.ok ew w'/\br M w' (.osl t) [ew] (xs++aW) cE/\br M w' (.osl t) [.slice ad n cap] xs f1/\cE.Nodup/\(∀b∈cE,b∈f1\/b∈dQ.flatten\/(w.heap.size<=b/\b<w'.heap.size))/\w.heap.size<=w'.heap.size/\w'.os=w.os/\w'.tape=w.tape/\w'.output=w.output/\(∀b,b<w.heap.size->b∉f1->w'.heap[b]?=w.heap[b]?)/\(∀m b,M m b->df w w' b)/\(∀b∈dQ.flatten,df w w' b)/\(∀b,b<w.heap.size->j0 w' b=j0 w b):=by
 obtain⟨rfl,sT,sJ,aaI,M0,api,Bt⟩:=lV.osl ab;have mS:=bE.pos;obtain⟨olds,hu,kZ,uQ,acn⟩:=aaI.cells mS;obtain⟨news,pn,mj,po,p2⟩:=aB.cells mS;have M9:=aaI.1;have aaa:=aB.1;obtain⟨ew,w',hr,rF⟩:=akj (P:=P) (w:=w) (ty:=ty) bm bE hi el (ad:=ad) (yd:=yd) (n:=xs.length) (cap:=cap) (m:=aW.length) (c:=c) (olds:=olds) (news:=news) hu (fun b aa j v ao=>uQ b aa (by rintro rfl;simp at hu;subst hu;simp at ao) j v ao) (fun b aa=>by rcases Bt with⟨aV,_⟩|⟨c3,bR,aV,_⟩<;>rw[aa] at aV<;>cases aV;rfl) sT (fun aV=>by rcases Bt with⟨_,h,_⟩|⟨c3,bR,h,_⟩;exact h;rw[aV] at h;cases h) pn mj (fun b aa ak j v ao=>po b aa (by rintro rfl;simp at ak) j v ao) (fun aV=>by rcases aB.2 with rfl|⟨b,o,h,_⟩;rfl;rw[aV] at h;cases h) (fun b aa=>by
   rcases Bt with⟨aV,_⟩|⟨c3,bR,aV,_,h0⟩
   ·rw[aa] at aV;cases aV
   ·rw[aa] at aV;cases aV;exact h0) g9
 have wi:(sJ++dQ).flatten=sJ.flatten++dQ.flatten:=(by simp);have qD:(sJ++dQ).flatten.Nodup:=(by rw[wi,kL];exact⟨api eA,apR,fun a aC b aa e=>MX a (M0 a aC) (e▸aa)⟩);have nD:∀(k:Nat) (y:t.den) (f:List Nat),(xs++aW)[k]?=some y->(sJ++dQ)[k]?=some f->br M w t (((olds++news).drop (k*t.size)).take t.size) y f/\∀b∈f,b∈sJ.flatten\/b∈dQ.flatten:=by
  intro k y f ae aH;rcases ct k xs.length with h|h
  ·rw[sk h] at ae;rw[sk (by omega)] at aH;have J:(k+1)*t.size<=xs.length*t.size:=jQ _ h;rw[ie,lx] at J;rw[vo (by omega),zY (by simp;omega)];exact⟨acn k y f ae aH,fun b aa=>.inl (lw.2 ⟨f,oP aH,aa⟩)⟩
  ·rw[tR h] at ae;rw[tR (by omega),M9] at aH;have J:xs.length*t.size<=k*t.size:=jQ _ h;rw[List.drop_append,vp (by omega),hk,hu,show k*t.size-xs.length*t.size=(k-xs.length)*t.size by rw[Nat.sub_mul]];exact⟨p2 _ y f ae aH,fun b aa=>.inr (lw.2 ⟨f,oP aH,aa⟩)⟩
 rcases rF with⟨Bn,rfl,hw⟩|⟨fW,cells,aBm,kS,rfl,aG,ay,aBo,sU,mO⟩
 ·rcases hw with⟨rfl,rfl⟩|⟨b,rfl,rfl⟩
  ·have o7:cap=0:=by rcases Bt with⟨_,h,_⟩|⟨c3,bR,h,_⟩;exact h;cases h
   obtain rfl:xs=[]:=qi (by omega);obtain rfl:aW=[]:=qi (by omega);exact⟨_,w',f1,hr,by simpa using ab,ab,eA,fun b aa=>.inl aa,bU _,rfl,rfl,rfl,fun _ _ _=>rfl,fun _ _ _=>df.refl _ _,fun _ _=>df.refl _ _,fun _ _=>rfl⟩
  ·rcases Bt with⟨aV,_⟩|⟨c3,bR,aV,rfl,h0⟩
   ·cases aV
   cases aV;have cZ:c3∉sJ.flatten:=(mB.1 eA).1;have R1:c3∉dQ.flatten:=MX c3 (by simp);have DZ:(xs.length+aW.length)*t.size<=cap*t.size:=jQ _ Bn;rw[ie] at DZ;have D7:∀j,j<news.length->(w.cell? ⟨c3,bR+xs.length*t.size+j,none⟩).isSome=true:=fun j ao=>(h0 _ (by omega) (by omega)).1;have o5:∀m k,M m k->M m k/\df w (w.setCells c3 (bR+xs.length*t.size) news) k:=fun m k ae=>⟨ae,xe (fun e=>bF c3 (by simp) m (e▸ae))⟩;have ZS:kq (w.setCells c3 (bR+xs.length*t.size) news) c3 bR (bR+cap*t.size):=fun j J R=>(by rw[Vf c3 news _ w D7,World.frozen?_setCells];exact h0 j J R);have kh:∀j v,(olds++news)[j]?=some v->(w.setCells c3 (bR+xs.length*t.size) news).cell? ⟨c3,bR+j,none⟩=some v:=by
    intro j v ao;rcases ct j olds.length with h|h
    ·rw[sk h] at ao;rw[World.cell?_setCells_out c3 news _ w _ (fun _ _=>by simp only;omega)];have:=uQ ⟨c3,bR,none⟩ rfl (by rintro rfl;simp at hu;subst hu;simp at h) j v ao;rwa[Addr.add_lit] at this
    ·rw[tR h] at ao;obtain⟨q,rfl⟩:∃q,j=olds.length+q:=⟨j-olds.length,by omega⟩;rw[sn] at ao;have aj:q<news.length:=(fu.1 ao).1;rw[hu,<-CU,World.cell?_setCells_in c3 news _ w D7 q aj];rw[cr aj] at ao;exact ao
   refine⟨_,_,c3::(sJ++dQ).flatten,hr,?_,?_,?_,?_,by rw[E1];exact bU _,(u5 _ _ _ _).1,(u5 _ _ _ _).2.1,(u5 _ _ _ _).2.2,?_,fun m k ae=>(o5 m k ae).2,fun k ae=>xe (fun e=>R1 (by have dI:k=c3:=e;rw[<-dI];exact ae)),fun k _=>Iq _ _ _ _ _⟩
   ·refine⟨some ⟨c3,bR,none⟩,cap,by simp,.inr ⟨c3,bR,sJ++dQ,rfl,rfl,by simp[M9,aaa],by simpa using Bn,ZS,fun k y f ae aH=>?_⟩⟩;obtain⟨J,R⟩:=nD k y f ae aH;refine⟨_,J.len,fun j v ao=>?_,J.mono o5 (fun q aj=>xe (fun e=>?_))⟩
    ·have ov:(olds++news)[k*t.size+j]?=some v:=by
      rw[zU] at ao;split at ao
      ·rwa[n6] at ao
      ·cases ao
     rw[CU];exact kh _ _ ov
    ·subst e;rcases R q aj with h|h
     ·exact cZ h
     ·exact R1 h
   ·refine⟨some ⟨c3,bR,none⟩,cap,rfl,.inr ⟨c3,bR,sJ,rfl,rfl,M9,sT,ZS,fun k y f ae aH=>?_⟩⟩;have qB:k<xs.length:=(fu.1 ae).1;obtain⟨J,R⟩:=nD k y f (by rw[sk qB];exact ae) (by rw[sk (by omega)];exact aH);refine⟨_,J.len,fun j v ao=>?_,J.mono o5 (fun q aj=>xe (fun e=>?_))⟩
    ·have ov:(olds++news)[k*t.size+j]?=some v:=by
      rw[zU] at ao;split at ao
      ·rwa[n6] at ao
      ·cases ao
     rw[CU];exact kh _ _ ov
    ·subst e;exact cZ (lw.2 ⟨f,oP aH,aj⟩)
   ·rw[mB,wi];exact⟨by simp[cZ,R1],wi▸qD⟩
   ·intro k ae;rcases d4.1 ae with rfl|ae
    ·exact .inl (by simp)
    ·rw[wi] at ae;rcases fg.1 ae with h|h
     ·exact .inl (gC _ h)
     ·exact .inr (.inl h)
   ·intro k _ ae;exact Jn c3 _ _ _ k (fun e=>ae (e▸by simp))
 ·have o5:∀m k,M m k->M m k/\df w w' k:=fun m k ae=>⟨ae,.of_heap (aG.heap k (aoy m k ae))⟩;have pa:∀j,w'.cell? ⟨w.heap.size,j,none⟩=cells[j]?/\w'.frozen? ⟨w.heap.size,j,none⟩=false:=fun j=>by
   simp[World.cell?,World.frozen?,ay]
  refine⟨_,w',w.heap.size::(sJ++dQ).flatten,hr,?_,ab.mono o5 (fun k ae=>.of_heap (aG.heap k (DT k ae))),?_,?_,aG.size,aG.os,aG.tape,aG.output,fun k ae _=>aG.heap k ae,fun m k ae=>(o5 m k ae).2,fun k ae=>.of_heap (aG.heap k (g2 k ae)),fun k ae=>(df.of_heap (aG.heap k ae)).2⟩
  ·refine⟨some ⟨w.heap.size,0,none⟩,fW,by simp,.inr ⟨w.heap.size,0,sJ++dQ,rfl,rfl,by simp[M9,aaa],by simpa using kS,fun j _ R=>?_,fun k y f ae aH=>?_⟩⟩
   ·rw[(pa j).1,(pa j).2];exact⟨by simp;omega,rfl⟩
   ·obtain⟨J,R⟩:=nD k y f ae aH;refine⟨_,J.len,fun j v ao=>?_,J.mono o5 (fun q aj=>.of_heap (aG.heap q ?_))⟩
    ·rw[(pa _).1];have ov:(olds++news)[k*t.size+j]?=some v:=by
      rw[zU] at ao;split at ao
      ·rwa[n6] at ao
      ·cases ao
     rw[kN];exact mO _ _ ov
    ·rcases R q aj with h|h
     ·exact DT q (M0 q h)
     ·exact g2 q h
  ·rw[mB];refine⟨fun h=>?_,qD⟩;rw[wi] at h;rcases fg.1 h with h|h
   ·have:=DT _ (M0 _ h);omega
   ·have:=g2 _ h;omega
  ·intro k ae;rcases d4.1 ae with rfl|ae
   ·exact .inr (.inr ⟨bU _,by omega⟩)
   ·rw[wi] at ae;rcases fg.1 ae with h|h
    ·exact .inl (M0 k h)
    ·exact .inr (.inl h)
section
theorem er.get:∀{p:List bB} {τ:au} {x hS:τ.den} {τ':au} {y:τ'.den},er τ x p τ' y hS->∃fP,dD τ x p τ' fP
 |[],τ,x,_,_,_,h=>by obtain⟨rfl,_⟩:=er.f6.1 h;exact⟨x,dD.f6.2 ⟨rfl,rfl⟩⟩
 |s::p,τ,_,_,_,_,h=>by
  cases τ<;>cases s<;>simp only[er] at h
  case osl.idx=>obtain⟨e,dI,aE,h,_⟩:=h;obtain⟨fP,aV⟩:=er.get (p:=p) h;exact⟨fP,e,aE,aV⟩
  case optr.deref=>exact er.get (p:=p) h
  case st.unst=>exact er.get (p:=p) h
  case pr.fst=>obtain⟨dI,h,_⟩:=h;exact er.get (p:=p) h
  case pr.snd=>obtain⟨dI,h,_⟩:=h;exact er.get (p:=p) h
theorem er.same:∀{p:List bB} {τ:au} {x:τ.den} {τ':au} {y:τ'.den},dD τ x p τ' y->er τ x p τ' y x
 |[],τ,x,_,_,h=>by obtain⟨rfl,rfl⟩:=dD.f6.1 h;exact er.f6.2 ⟨rfl,rfl⟩
 |s::p,τ,x,_,_,h=>by
  cases τ<;>cases s<;>simp only[dD] at h
  case osl.idx i=>
   obtain⟨e,aE,h⟩:=h;refine⟨e,e,aE,er.same (p:=p) h,?_⟩;obtain⟨hi,rfl⟩:=fu.1 aE;exact(List.set_getElem_self hi).symm
  case optr.deref=>exact er.same (p:=p) h
  case st.unst=>exact er.same (p:=p) h
  case pr.fst=>exact⟨x.1,er.same (p:=p) h,rfl⟩
  case pr.snd=>exact⟨x.2,er.same (p:=p) h,rfl⟩
theorem N2 {d:Nat} {t:a6} {α:Type} {a:α} {b:Nat->α}:en [(d,t)] (fun _=>a) b d=a:=by simp[en,dq]
section
variable {E:eV} {C:eb} {st:bj} {a:Act} {b3:Array Value} {w:World} {I:Nat->Prop} {rt:Nat->List Value} {fp:Nat->List Nat} {o:Oper}
theorem ayt {b bR n:Nat} {cs:List Value} (ai:cs.length=n) (h0:kq w b bR (bR+n)) (c:Nat):xC w (w.setCells b bR cs) (some (b,bR)) n c:=by
 have D7:∀j,j<cs.length->(w.cell? ⟨b,bR+j,none⟩).isSome=true:=fun j ao=>(h0 _ (by omega) (by omega)).1;refine⟨fun j ao=>World.cell?_setCells_out b cs bR w _ (fun e _=>?_),fun j=>World.frozen?_setCells _ _ _ _ _,fun j=>?_,Iq _ _ _ _ _⟩
 ·have e:c=b:=e;have:=ao bR (by rw[e]);simp only;omega
 ·by_cases e:c=b
  ·subst e;exact Vf c cs bR w D7 j
  ·rw[((xe (w:=w) (o:=bR) (vs:=cs) e).1 j).1]
theorem cx.ayT (aq:cx C st b3 w I rt fp) {id:Nat} {t:a6} (ah:aD st.h id=some t) {p:List bB} {τ':au} {b bR:Nat} {At:List Value} (ag:bv w t.1 none (rt id) p τ' (some (b,bR)) At) {y:τ'.den} {hS:t.1.den} (hs:er t.1 t.2 p τ' y hS) {cc:List Value} {sK S2:List Nat} (aB:br (bP I C.B) w τ' cc y sK) (eA:sK.Nodup) (ur:id∉S2) (sV:∀c∈sK,(∃f1,∃fP:τ'.den,τ'.f5=true/\br (bP I C.B) w τ' At fP f1/\c∈f1)\/∃i∈S2,∃u,aD st.h i=some u/\c∈fp i):kq w b bR (bR+τ'.size)/\∃rtn fpn,cx C ⟨kill (id::S2) [(id,p)] st.g,(id,⟨t.1,hS⟩)::del (id::S2) st.h⟩ b3 (w.setCells b bR cc) I rtn fpn/\rtn id=rt id/\bv (w.setCells b bR cc) t.1 none (rt id) p τ' (some (b,bR)) cc:=by
 obtain⟨hr,D0,MV⟩:=aq.tree id t ah;obtain⟨fP,aG⟩:=hs.get;obtain⟨dN,Qp,ij,dT,bS,bt,cY,c7,g0,kx,oi⟩:=G3 p (loc:=none) hr (fun _ _ h=>by cases h) D0 (fun _ _ h=>by cases h) (aq.notM ah) aG;obtain⟨_,aA,aX⟩:=ag.ku bS;subst aA;subst aX;obtain⟨_,h0⟩:=cY b bR rfl;have ZI:b∈dT:=by
  rcases g0 b bR rfl with⟨q,h,_⟩|h
  ·cases h
  ·exact h
 have ZF:b∈fp id:=c7.mem_iff.2 (by simp[ZI]);have qD:=c7.nodup_iff.1 D0;rw[kL] at qD;obtain⟨lI,h1,o9⟩:=qD;have mO:∀c∈sK,c∈ij\/∃i∈S2,∃u,aD st.h i=some u/\c∈fp i:=fun c hc=>by
  rcases sV c hc with⟨f1,JJ,aa,kB,h⟩|h
  ·rw[<-br.uniq aa bt kB] at h;exact .inl h
  ·exact .inr h
 have ap0:∀i∈S2,∀u,aD st.h i=some u->∀c∈fp i,c∉fp id:=fun i hi u aR c hc rE=>aq.dis i id u t aR ah (fun e=>ur (e▸hi)) c hc rE;have ZV:∀c∈sK,c∉dT:=fun c hc rE=>by
  rcases mO c hc with h|⟨i,hi,u,aR,h⟩
  ·exact o9 c h c rE rfl
  ·exact ap0 i hi u aR c h (c7.mem_iff.2 (by simp[rE]))
 have o4:∀m c,bP I C.B m c->c≠b:=fun m c hc e=>aq.notM ah b ZF m (e▸hc);have aoS:=ayt (w:=w) aB.len h0;have aqJ:br (bP I C.B) (w.setCells b bR cc) τ' cc y sK:=aB.mono (fun m c hc=>⟨hc,xe (o4 m c hc)⟩) (fun c hc=>xe (fun e=>ZV c hc (by rw[e];exact ZI)));have D7:∀j,j<cc.length->(w.cell? ⟨b,bR+j,none⟩).isSome=true:=fun j ao=>(h0 _ (by omega) (by have:=aB.len;omega)).1;have kh:eI (w.setCells b bR cc) b bR cc:=fun j v ao=>(by have ov:j<cc.length:=(fu.1 ao).1;rw[World.cell?_setCells_in b cc bR w D7 j ov];rw[cr ov] at ao;exact ao);obtain⟨fD,g6,bk,_,bD,_,cm,aq6,iG⟩:=kx (w.setCells b bR cc) (bP I C.B) cc y sK hS (fun _ _ h=>h) (fun c _=>aoS c) aqJ (fun h=>by cases h) (fun dg hu e=>by simp only[cS,gX] at e;obtain⟨rfl,rfl⟩:=e;exact kh) hs;obtain rfl:=bD rfl (.inl (by simp));have rG:∀c∈g6,c∈fp id\/∃i∈S2,∃u,aD st.h i=some u/\c∈fp i:=fun c hc=>by
  rcases fg.1 (cm.mem_iff.1 hc) with h|h
  ·rcases mO c h with h|h
   ·exact .inl (c7.mem_iff.2 (by simp[h]))
   ·exact .inr h
  ·exact .inl (c7.mem_iff.2 (by simp[h]))
 have us:=aq.fO (S:=id::S2) (keep:=[(id,p)]) (new:=[(id,⟨t.1,hS⟩)]) (rtn:=fun _=>rt id) (fpn:=fun _=>g6) (w':=w.setCells b bR cc) (I':=I) ⟨?_,(u5 _ _ _ _).1,(u5 _ _ _ _).2.1,(u5 _ _ _ _).2.2,?_,fun c _=>.of_eq (Iq _ _ _ _ _),fun _ h=>h,fun _ h=>.inl h,?_,?_,?_,?_⟩
 ·exact⟨h0,_,_,us,by rw[N2],aq6⟩
 ·rw[E1];exact bU _
 ·intro c _ hc;exact Jn b _ _ _ c (fun e=>hc id (by simp) t ah (e▸ZF))
 ·intro i u aR;rw[dq] at aR;split at aR
  ·rename_i e;subst e;cases aR;refine⟨.inl (by simp),bk,?_,fun c hc=>?_⟩
   ·rw[cm.nodup_iff,kL];exact⟨eA,h1,fun x ab z a2 e=>ZV x ab (e▸a2)⟩
   ·rcases rG c hc with h|⟨i,hi,u,aR,h⟩
    ·obtain⟨aN,aM,bb,bH⟩:=MV c h;exact⟨aN,by rw[E1];exact bb,.inr ⟨id,by simp,t,ah,h⟩⟩
    ·obtain⟨aN,aM,bb,bH⟩:=(aq.tree i u aR).2.2 c h;exact⟨aN,by rw[E1];exact bb,.inr ⟨i,by simp[hi],u,aR,h⟩⟩
  ·cases aR
 ·intro i j u v hi ao dJ;rw[dq] at hi ao;split at hi
  ·split at ao
   ·rename_i aA aX;exact absurd (aA.symm.trans aX) dJ
   ·cases ao
  ·cases hi
 ·intro i hi u aR;simp only[fh] at hi;subst hi;rw[ah] at aR;obtain rfl:=fH aR;refine⟨⟨t.1,hS⟩,?_,rfl,rfl,⟨_,ag.ty⟩,iG⟩;rw[dq,if_pos rfl]
 ·intro i hi u aR q gA VO l2 cw cE aP fX h1 iE fm;simp only[fh] at hi;subst hi;rw[ah] at aR;obtain rfl:=fH aR;refine⟨⟨t.1,hS⟩,by rw[dq,if_pos rfl],AO aP hs iE,fun c hc=>?_⟩;obtain⟨aN,aM⟩:=oi q _ _ _ _ _ aP (by exact fX) iE h1 fm c hc;exact⟨cm.mem_iff.2 (pI _ aN),xe (aM _ _ rfl)⟩
theorem cx.store (aq:cx C st b3 w I rt fp) {id:Nat} {t:a6} (ah:aD st.h id=some t) {p:List bB} {τ':au} {b bR:Nat} {At:List Value} (ag:bv w t.1 none (rt id) p τ' (some (b,bR)) At) {y:τ'.den} {hS:t.1.den} (hs:er t.1 t.2 p τ' y hS) {cc:List Value} {sK S2:List Nat} (aB:br (bP I C.B) w τ' cc y sK) (eA:sK.Nodup) (ur:id∉S2) (sV:∀c∈sK,(∃f1,∃fP:τ'.den,τ'.f5=true/\br (bP I C.B) w τ' At fP f1/\c∈f1)\/∃i∈S2,∃u,aD st.h i=some u/\c∈fp i):kq w b bR (bR+τ'.size)/\∃rtn fpn,cx C ⟨kill (id::S2) [(id,p)] st.g,(id,⟨t.1,hS⟩)::del (id::S2) st.h⟩ b3 (w.setCells b bR cc) I rtn fpn:=by obtain⟨J,rtn,fpn,R,_⟩:=aq.ayT ah ag hs aB eA ur sV;exact⟨J,rtn,fpn,R⟩
inductive CY where
 |eh (s:bj)
 |part (α:Type) (jk:α->Prop) (f:α->bj)
 |bad
def CY.K (r:CY) (Q:bj->Prop):Prop:=
 match r with
 |.eh s=>Q s
 |.part α jk f=>∃y:α,jk y/\Q (f y)
 |.bad=>False
def d9 (E:eV) (C:eb) (o:Oper) (st:bj) (Q:bj->Prop):Prop:=
 ∀(a:Act) (w:World),gD C st a.tmps w->∀(next:Act->World->Prop) (X:Exit->Act->World->Prop),(∀cz b9 w',Q cz->b9.defers=a.defers->gD C cz b9.tmps w'->next b9 w')->o.wp E.P a w next X
variable {Q:bj->Prop}
theorem d9.eval {an:List (Nat×au)} {d:Nat} (aP:o.dst=some d) (dc:C.ok d) (h:(gR E.tt an st.h (bu st.g) d o.op).K (fun av new=>Q ⟨(d,av)::st.g,new++st.h⟩)):d9 E C o st Q:=by
 rintro a w ⟨I,rt,fp,aq⟩ next X ag
 exact(amY aq h).wp aq aP dc (fun av new b9 w' aj ki hr=>ag _ b9 w' aj ki hr)
def w4 (h:List (Nat×a6)) (x:ax):Option (Nat×List bB):=
 match x with
 |.addr id p=>some (id,p)
 |.ref id p=>match aD h id with
  |some ⟨τ,_⟩=>match eD τ p with
   |some (.optr _)=>some (id,p++[.deref])
   |_=>none
  |none=>none
 |_=>none
def OZ (
 tt:List (TypeId×au)) (st:bj) (T:TypeId) (x v:ax):CY:=
 match w4 st.h x with
 |none=>.bad
 |some (id,p)=>match aD st.h id,aD tt T with
  |some ⟨τ,z⟩,some u=>match eD τ p with
   |none=>.bad
   |some τ'=>bif bI u τ' then match v with
    |.ref c2 eu=>match aD st.h c2 with
     |some ⟨gA,y⟩=>bif Nat.beq id c2 then .bad else
      .part (τ'.den×τ.den) (fun q=>dD gA y eu τ' q.1/\er τ z p τ' q.1 q.2) (fun q=>⟨kill [id,c2] [(id,p)] st.g,(id,⟨τ,q.2⟩)::del [id,c2] st.h⟩)
     |none=>.bad
    |.app c2 eu σ aW own=>if _e:τ'=.osl σ then
     .part (List σ.den×τ.den) (fun q=>c2=id/\eu=p/\dD τ z p (.osl σ) q.1/\er τ z p (.osl σ) (q.1++aW) q.2) (fun q=>⟨kill (id::own) [(id,p)] st.g,(id,⟨τ,q.2⟩)::del (id::own) st.h⟩) else .bad
    |v=>match coe τ' v with
     |some y=>.part τ.den (fun h8=>er τ z p τ' y h8) (fun h8=>⟨kill [id] [(id,p)] st.g,(id,⟨τ,h8⟩)::del [id] st.h⟩)
     |none=>.bad
   else .bad
  |_,_=>.bad
theorem awk (aq:cx C st a.tmps w I rt fp) {x:Operand} {id:Nat} {p:List bB} (h:w4 st.h (bu st.g x)=some (id,p)) {t:a6} (ah:aD st.h id=some t) {τ':au} (fZ:eD t.1 p=some τ'):∃b bR cs,a.eval x=.pointer (some ⟨b,bR,none⟩)/\bv w t.1 none (rt id) p τ' (some (b,bR)) cs:=by
 have ab:=aq.bu x;unfold w4 at h;generalize hv:a.eval x=v at ab;split at h
 ·rename_i gq w1 ex;cases h;rw[ex] at ab;cases ab with|addr bC ag=>
  rw[ah] at bC;cases bC;have:=ag.ty;rw[fZ] at this;cases this;exact⟨_,_,_,rfl,ag⟩
 ·rename_i gq w1 ex;split at h
  case h_2=>cases h
  rename_i τ y HA;split at h
  case h_2=>cases h
  rename_i t0 aqr;cases h;rw[ah] at HA;cases HA;rw[ex] at ab;cases ab with|ref bC ag=>
  rw[ah] at bC;cases bC;have:=ag.ty;rw[aqr] at this;cases this;obtain⟨b,off,ds,rfl,cK,cG⟩:=th (aq.tree id _ ah).1 ag;have h1:=ag.append (bv.QG cK cG);have:=h1.ty;rw[fZ] at this;cases this;exact⟨b,off,ds,rfl,h1⟩
 ·cases h
theorem ayS {T:TypeId} {u τ':au} (bm:aD E.tt T=some u) (ai:bI u τ'=true) {x v:Operand} (aJ:o.op=.store T x v) {b bR:Nat} (ab:a.eval x=.pointer (some ⟨b,bR,none⟩)) {cs:List Value} (hv:(a.eval v).cells=cs.toArray) (hc:cs.length=τ'.size) (J:∀v∈cs,v.oneCell'=true) (aH:kq w b bR (bR+τ'.size)):(execOp a.eval o).run E.P w=.ok .skip (w.setCells b bR cs):=by have fZ:=(E.ok T u bm).lay ai;have wt:=run_storeCells_cells (P:=E.P) b bR cs 0 w (fun j ao=>by simpa using(aH (bR+j) (by omega) (by omega)).1) (fun j ao=>by simpa using(aH (bR+j) (by omega) (by omega)).2) J;simp only[ql] at wt;have:(storeVar T ⟨b,bR,none⟩ (a.eval v)).run E.P w=.ok () (w.setCells b bR cs):=(by simp only[storeVar,hv,Sem.run_bind,fZ.sizeOf,Result.andThen_ok];simpa[hc] using wt);simp[execOp,aJ,ab,Instr.storeAt,Instr.sureAddr,this]
theorem ayR {T:TypeId} {x v:Operand} (aJ:o.op=.store T x v) (qA:o.dst=none) (h:(OZ E.tt st T (bu st.g x) (bu st.g v)).K Q):d9 E C o st Q:=by
 rintro a w ⟨I,rt,fp,aq⟩ next X et
 have hv:=aq.bu v;unfold OZ at h;split at h
 ·exact h.elim
 rename_i id p nJ;split at h
 case h_2=>exact h.elim
 rename_i τ z u ah bm;split at h
 ·exact h.elim
 rename_i τ' fZ;cases ai:bI u τ' with
 |false=>rw[ai] at h;exact h.elim
 |true=>
 rw[ai] at h;simp only[cond_true] at h;obtain⟨b,bR,At,ab,ag⟩:=awk aq nJ ah fZ;have RR:=(E.ok T u bm).lay ai;have gm:∀(cc:List Value) (cz:bj) (rtn:Nat->List Value) (fpn:Nat->List Nat),(a.eval v).cells=cc.toArray->cc.length=τ'.size->(∀v∈cc,v.oneCell'=true)->kq w b bR (bR+τ'.size)->cx C cz a.tmps (w.setCells b bR cc) I rtn fpn->Q cz->o.wp E.P a w next X:=by
  intro cc cz rtn fpn aA aX bY e7 hr aj;unfold Oper.wp;rw[ayS bm ai aJ ab aA aX bY e7];show next (a.put o.dst undef) _
  rw[qA];exact et _ _ _ aj rfl ⟨I,rtn,fpn,hr⟩
 split at h
 ·rename_i c2 eu iB;split at h
  case h_2=>exact h.elim
  rename_i gA dU lc;cases aa:Nat.beq id c2 with
  |true=>rw[aa] at h;exact h.elim
  |false=>
   rw[aa] at h;obtain⟨⟨y,h8⟩,⟨k8,hs⟩,h⟩:=h;have cX:id≠c2:=fun e=>(by rw[e,xN] at aa;cases aa);rw[iB] at hv;generalize s3:a.eval v=Cs at hv;cases hv with|ref bC iU=>
   rw[lc] at bC;cases bC;obtain⟨b2,bo,a5⟩:=aq.tree c2 _ lc;obtain⟨aBG,iR,cE,UW,bk,bD,_,fx,_⟩:=Mz eu (τ':=τ') (y:=y) b2 (loc:=none) (fun _ _ h=>by cases h) bo (fun _ _ h=>by cases h) (aq.notM lc) k8;obtain⟨rfl,rfl,rfl⟩:=iU.ku bk;have qD:cE.Nodup:=(kL.1 (fx.nodup_iff.1 bo)).1;obtain⟨h0,rtn,fpn,eK⟩:=aq.store ah ag hs bD qD (S2:=[c2]) (by simpa using cX) (fun c hc=>.inr ⟨c2,by simp,_,lc,fx.mem_iff.2 (by simp[hc])⟩);exact gm _ _ rtn fpn (by rw[s3];exact tr RR bD.len bD.one) bD.len bD.one h0 eK h
 ·rename_i c2 eu σ aW own iB;split at h
  case isFalse=>exact h.elim
  rename_i e;subst e;obtain⟨⟨xs,h8⟩,⟨rfl,rfl,aG,hs⟩,h⟩:=h;rw[iB] at hv;generalize s3:a.eval v=Cs at hv;cases hv with|app bC fX iU kz J ky R nI fw eA=>
  rw[ah] at bC;cases bC;obtain rfl:=dD.uniq aG kz;obtain⟨_,aA,aX⟩:=ag.ku iU;subst aA;subst aX;have apQ:(au.osl σ).f5=true:=fX;obtain⟨h0,rtn,fpn,eK⟩:=aq.store ah ag hs R eA (S2:=own) (fun ak=>(nI _ ak).1 rfl) (fun c hc=>by
   rcases fw c hc with q|⟨i,hi,q⟩
   ·exact .inl ⟨_,xs,apQ,J,q⟩
   ·obtain⟨_,i4,aR⟩:=nI i hi;exact .inr ⟨i,hi,i4,aR,q⟩)
  exact gm _ _ rtn fpn (by rw[s3];have:=tr RR R.len R.one;exact this) R.len R.one h0 eK h
 ·split at h
  case h_2=>exact h.elim
  rename_i y aB;obtain⟨h8,hs,h⟩:=h;have b2:=Qj RR hv aB;obtain⟨h0,rtn,fpn,eK⟩:=aq.store ah ag hs b2 (by simp) (S2:=[]) (by simp) (by simp);exact gm _ _ rtn fpn (by simp) b2.len b2.one h0 eK h
end
end
section
theorem Mx {α:Type} (l:List (List α)) (lo hi:Nat):((l.take hi).drop lo).flatten.Sublist l.flatten:=by have h:l.flatten=((l.take hi).take lo).flatten++((l.take hi).drop lo).flatten++(l.drop hi).flatten:=(by rw[<-vq,oQ,<-vq,oQ]);rw[h];exact(List.sublist_append_right _ _).trans (List.sublist_append_left _ _)
section
variable {E:eV} {C:eb} {st:bj} {a:Act} {b3:Array Value} {w:World} {I:Nat->Prop} {rt:Nat->List Value} {fp:Nat->List Nat} {o:Oper} {Q:bj->Prop}
def Ku (an:List (Nat×au)) (st:bj) (d:Nat) (v:ax):CY:=
 match v with
 |.ref id []=>match aD st.h id with
  |some t=>.eh ⟨(d,.ref d [])::kill [id,d] [] st.g,(d,t)::del [id,d] st.h⟩
  |none=>.bad
 |.ref id p=>bif Nat.beq id d then .bad else .eh ⟨(d,.ref id p)::kill [d] [] st.g,del [d] st.h⟩
 |.view id [] lo hi=>match aD st.h id with
  |some ⟨.osl t,xs⟩=>.eh ⟨(d,.ref d [])::kill [id,d] [] st.g,(d,⟨.osl t,(xs.take hi).drop lo⟩)::del [id,d] st.h⟩
  |_=>.bad
 |.dh (.slice none 0 0)=>match aD an d with
  |some (.osl t)=>.eh ⟨(d,.ref d [])::kill [d] [] st.g,(d,⟨.osl t,[]⟩)::del [d] st.h⟩
  |_=>.bad
 |_=>.bad
theorem qo.one {w':World} {I':Nat->Prop} {S:List Nat} {d:Nat} {t:a6} {cs:List Value} {f:List Nat} (aP:d∈S\/aD st.h d=none) (J:w.heap.size<=w'.heap.size) (R:w'.os=w.os) (ac:w'.tape=w.tape) (aL:w'.output=w.output) (aY:∀b,b<w.heap.size->(∀id∈S,∀t,aD st.h id=some t->b∉fp id)->w'.heap[b]?=w.heap[b]?) (R7:∀b,b<w.heap.size->j0 w' b=j0 w b) (bG:∀b,I b->I' b) (eF:∀b,I' b->I b\/(b<w'.heap.size/\(w.heap.size<=b\/∃id∈S,∃t,aD st.h id=some t/\b∈fp id))) (hr:br (bP I' C.B) w' t.1 cs t.2 f) (aH:f.Nodup) (aa:∀b∈f,¬I' b/\b<w'.heap.size/\(w.heap.size<=b\/∃gq∈S,∃t',aD st.h gq=some t'/\b∈fp gq)):qo C st w w' I I' rt fp S [] [(d,t)] (fun _=>cs) (fun _=>f):=by
 refine⟨J,R,ac,aL,aY,fun b aa=>.of_eq (R7 b aa),bG,eF,?_,?_,(fun id bp=>by cases bp),(fun id bp=>by cases bp)⟩
 ·intro i u aR;rw[dq] at aR;split at aR
  ·rename_i e;subst e;obtain rfl:=fH aR;exact⟨aP,hr,aH,aa⟩
  ·cases aR
 ·intro i j u v hi ao dJ;rw[dq] at hi ao;split at hi
  ·split at ao
   ·rename_i aA aX;exact absurd (aA.symm.trans aX) dJ
   ·cases ao
  ·cases hi
theorem d9.akn {an:List (Nat×au)} {x:Operand} {d:Nat} (aJ:o.op=.assign x) (aP:o.dst=some d) (dc:C.ok d) (h:(Ku an st d (bu st.g x)).K Q):d9 E C o st Q:=by
 rintro a w ⟨I,rt,fp,aq⟩ next X et
 have ab:=aq.bu x;have eP:(execOp a.eval o).run E.P w=.ok (.value (a.eval x)) w:=(by simp[execOp,aJ]);have gm:∀(cz:bj) (rtn:Nat->List Value) (fpn:Nat->List Nat),cx C cz (a.tmps.setIfInBounds d (a.eval x)) w I rtn fpn->Q cz->o.wp E.P a w next X:=by
  intro cz rtn fpn hr aj;unfold Oper.wp;rw[eP];show next (a.put o.dst (a.eval x)) w
  rw[aP];exact et _ _ _ aj rfl ⟨I,rtn,fpn,hr⟩
 have one:∀(S:List Nat) (t:a6) (cs:List Value) (f:List Nat),d∈S->br (bP I C.B) w t.1 cs t.2 f->f.Nodup->(∀b∈f,∃gq∈S,∃t',aD st.h gq=some t'/\b∈fp gq)->a.eval x=cQ t.1 cs->Q ⟨(d,.ref d [])::kill S [] st.g,(d,t)::del S st.h⟩->o.wp E.P a w next X:=by
  intro S t cs f Hg hr aH aa hv aj;have aR:=aq.fO (qo.one (st:=st) (C:=C) (rt:=rt) (w':=w) (I':=I) (S:=S) (d:=d) (t:=t) (cs:=cs) (f:=f) (.inl Hg) (bU _) rfl rfl rfl (fun _ _ _=>rfl) (fun _ _=>rfl) (fun _ h=>h) (fun _ h=>.inl h) hr aH (fun b cZ=>by
   obtain⟨i,hi,u,aR,hZ⟩:=aa b cZ;obtain⟨aN,aM,bb,bH⟩:=(aq.tree i u aR).2.2 b hZ;exact⟨aN,bb,.inr ⟨i,hi,u,aR,hZ⟩⟩))
  refine gm _ _ _ (aR.put dc (av:=.ref d []) ?_) aj;rw[hv];refine .ref (t:=t) (loc:=none) (by rw[lL,dq,if_pos rfl];rfl) ?_;rw[N2];exact bv.here
 unfold Ku at h;split at h
 ·rename_i id ex;split at h
  case h_2=>exact h.elim
  rename_i t ah;rw[ex] at ab;obtain⟨b2,bo,a5⟩:=aq.tree id t ah;refine one [id,d] t (rt id) (fp id) (by simp) b2 bo (fun b aa=>⟨id,by simp,t,ah,aa⟩) ?_ h;generalize s3:a.eval x=Cs at ab;cases ab with|ref bC ag=>
  rw[ah] at bC;cases bC;obtain⟨rfl,rfl,rfl⟩:=bv.f6.1 ag;rfl
 ·rename_i id p _ ex;cases aa:Nat.beq id d with
  |true=>rw[aa] at h;exact h.elim
  |false=>
   rw[aa] at h;have cX:id≠d:=fun e=>(by rw[e,xN] at aa;cases aa);have aR:=aq.fO (S:=[d]) (keep:=[]) (new:=[]) (rtn:=rt) (fpn:=fp) (w':=w) (I':=I) ⟨bU _,rfl,rfl,rfl,fun _ _ _=>rfl,fun _ _=>.refl _ _,fun _ h=>h,fun _ h=>.inl h,(fun _ _ h=>by cases h),(fun _ _ _ _ h=>by cases h),(fun _ h=>by cases h),(fun _ h=>by cases h)⟩;refine gm _ _ _ (aR.put dc (av:=.ref id p) ?_) h;have:=aR.bu (a:=a) x;have aX:bu (kill [d] [] st.g) x=.ref id p:=by
    cases x with
    |tmp t=>
     show gt (kill [d] [] st.g) t=_;rw[sN,show gt st.g t=.ref id p from ex];have:dS id [d]=false:=by
      cases ak:dS id [d]
      ·rfl
      ·exact absurd (by simpa using fd.1 ak) cX
     simp[e8,ef,ax.eG,ax.ids,this]
    |const v=>exact absurd ex (by cases v<;>simp[bu])
    |global g=>cases ex
    |func f=>cases ex
   rw[<-aX];exact this
 ·rename_i id lo hi ex;split at h
  case h_2=>exact h.elim
  rename_i t xs ah;rw[ex] at ab;obtain⟨b2,bo,a5⟩:=aq.tree id _ ah;generalize s3:a.eval x=Cs at ab one gm eP;cases ab with|oE=>(exact one [id,d] ⟨.osl t,[]⟩ [.slice none 0 0] [] (by simp) ⟨none,0,rfl,.inl ⟨rfl,rfl,rfl,rfl⟩⟩ (by simp) (by simp) rfl h)|view bC ag dp l2 mZ=>
  rename_i b off len cap;rw[ah] at bC;cases bC;obtain⟨aA,_,bY⟩:=bv.f6.1 ag;cases aA;obtain⟨ad,fW,ay,hr⟩:=b2;rw[bY] at ay;simp only[hL,Value.slice.injEq,and_true] at ay;obtain⟨rfl,rfl,rfl⟩:=ay;rcases hr with⟨aV,_⟩|⟨c3,T5,dR,aV,ou,aN,aM,bb,bH⟩
  ·cases aV
  cases aV;have d2:((xs.take hi).drop lo).length=hi-lo:=(by simp;omega);refine one [id,d] ⟨.osl t,(xs.take hi).drop lo⟩ [.slice (some ⟨b,if cap=lo then off else off+lo*t.size,none⟩) (hi-lo) (cap-lo)] (b::((dR.take hi).drop lo).flatten) (by simp) ?_ ?_ ?_ rfl h
  ·refine⟨some ⟨b,if cap=lo then off else off+lo*t.size,none⟩,cap-lo,by rw[d2],.inr ⟨b,_,(dR.take hi).drop lo,rfl,rfl,by simp[aN],by simp only[d2];omega,?_,?_⟩⟩
   ·intro j J R;by_cases hc:cap=lo
    ·subst hc;simp at J R;omega
    ·rw[if_neg hc] at J R;have:lo*t.size+(cap-lo)*t.size=cap*t.size:=(by rw[<-ie];congr 1;omega);exact bb j (by omega) (by omega)
   ·intro i y f aB aH;have kT:i<hi-lo:=(by rw[<-d2];exact(fu.1 aB).1);rw[n6,pH (by omega)] at aB aH;obtain⟨ds,cK,cG,c9⟩:=bH (lo+i) y f aB aH;refine⟨ds,cK,?_,c9⟩;rw[if_neg (by omega)];rwa[show off+lo*t.size+i*t.size=off+(lo+i)*t.size by rw[ie];omega]
  ·rw[ou] at bo;have fw:((dR.take hi).drop lo).flatten.Sublist dR.flatten:=Mx _ _ _;rw[mB] at bo|-;exact⟨fun ak=>bo.1 (fw.subset ak),bo.2.sublist fw⟩
  ·intro c hc;refine⟨id,by simp,_,ah,?_⟩;rw[ou];rcases d4.1 hc with rfl|hc
   ·simp
   ·have fw:((dR.take hi).drop lo).flatten.Sublist dR.flatten:=Mx _ _ _;exact gC _ (fw.subset hc)
 ·rename_i ex;split at h
  case h_2=>exact h.elim
  rename_i t oo;rw[ex] at ab;refine one [d] ⟨.osl t,[]⟩ [.slice none 0 0] [] (by simp) ⟨none,0,rfl,.inl ⟨rfl,rfl,rfl,rfl⟩⟩ (by simp) (by simp) ?_ h;generalize s3:a.eval x=Cs at ab;cases ab;rfl
 ·exact h.elim
end
end
section
inductive oa (σ:au) where
 |eh (aW:List σ.den)
 |part (α:Type) (jk:α->Prop) (f:α->List σ.den)
 |bad
def xx (h:List (Nat×a6)) (σ:au) (y:ax):oa σ:=
 match y with
 |.val (.bM _ t) aW=>if e:t=σ then .eh (e▸aW) else .bad
 |.dh (.slice none 0 0)=>.eh []
 |.ref id p=>match aD h id with
  |some ⟨τ,x⟩=>bif σ.pure then .part (List σ.den) (fun aW=>dD τ x p (.osl σ) aW) (fun aW=>aW) else .bad
  |none=>.bad
 |.view id p lo hi=>match aD h id with
  |some ⟨τ,x⟩=>bif σ.pure then .part (List σ.den) (fun aW=>dD τ x p (.osl σ) aW) (fun aW=>(aW.take hi).drop lo) else .bad
  |none=>.bad
 |_=>.bad
def oa.to {σ:au} (r:oa σ) (g:Nat->Prop) (f:List σ.den->bj):CY:=
 match r with
 |.eh aW=>.part Unit (fun _=>g aW.length) (fun _=>f aW)
 |.part α jk h=>.part α (fun q=>jk q/\g (h q).length) (fun q=>f (h q))
 |.bad=>.bad
def Ks (
 tt:List (TypeId×au)) (an:List (Nat×au)) (st:bj) (d:Nat) (T:TypeId) (x y:ax):CY:=
 match gr tt T with
 |none=>.bad
 |some u=>match x with
  |.ref id []=>match aD st.h id with
   |some ⟨.osl σ,xs⟩=>bif bI u σ&&Nat.ble σ.size 1300 then
     match σ.pure,y with
     |false,.ref c2 []=>match aD st.h c2 with
      |some ⟨.osl Pt,aW⟩=>if e:Pt=σ then bif Nat.beq id c2 then .bad else .part Unit (fun _=>xs.length+aW.length<=gS) (fun _=>⟨(d,.ref d [])::kill [id,c2,d] [] st.g,(d,⟨.osl σ,xs++(e▸aW)⟩)::del [id,c2,d] st.h⟩) else .bad
      |_=>.bad
     |_,y=>(xx st.h σ y).to (fun n=>xs.length+n<=gS) (fun aW=>⟨(d,.ref d [])::kill [id,d] [] st.g,(d,⟨.osl σ,xs++aW⟩)::del [id,d] st.h⟩)
    else .bad
   |_=>.bad
  |.ref id p=>match aD st.h id,aD st.h d with
   |some ⟨τ,x⟩,none=>match eD τ p with
    |some (.osl σ)=>bif bI u σ&&Nat.ble σ.size 1300&&σ.f5 then
      match xx st.h σ y with
      |.eh aW=>.part (List σ.den) (fun xs=>dD τ x p (.osl σ) xs/\xs.length+aW.length<=gS) (fun _=>⟨(d,.app id p σ aW [d])::kill [id] [(id,p),(id,[])] st.g,(d,⟨.dG,()⟩)::(id,⟨τ,x⟩)::del [id] st.h⟩)
      |.part α jk f=>.part (List σ.den×α) (fun q=>dD τ x p (.osl σ) q.1/\jk q.2/\q.1.length+(f q.2).length<=gS) (fun q=>⟨(d,.app id p σ (f q.2) [d])::kill [id] [(id,p),(id,[])] st.g,(d,⟨.dG,()⟩)::(id,⟨τ,x⟩)::del [id] st.h⟩)
      |.bad=>.bad
     else .bad
    |_=>.bad
   |_,_=>.bad
  |.view id [] lo hi=>match aD st.h id with
   |some ⟨.osl σ,xs⟩=>bif bI u σ&&Nat.ble σ.size 1300 then
     (xx st.h σ y).to (fun n=>((xs.take hi).drop lo).length+n<=gS) (fun aW=>⟨(d,.ref d [])::kill [id,d] [] st.g,(d,⟨.osl σ,(xs.take hi).drop lo++aW⟩)::del [id,d] st.h⟩)
    else .bad
   |_=>.bad
  |.dh (.slice none 0 0)=>match aD an d with
   |some (.osl σ)=>bif bI u σ&&Nat.ble σ.size 1300 then
     (xx st.h σ y).to (fun n=>n<=gS) (fun aW=>⟨(d,.ref d [])::kill [d] [] st.g,(d,⟨.osl σ,aW⟩)::del [d] st.h⟩)
    else .bad
   |_=>.bad
  |_=>.bad
section
variable {E:eV} {C:eb} {st:bj} {a:Act} {b3:Array Value} {w:World} {I:Nat->Prop} {rt:Nat->List Value} {fp:Nat->List Nat} {o:Oper} {Q:bj->Prop}
def FG (I:Nat->Prop) (B:Nat->Prop) (w:World) (σ:au) (v:Value) (aW:List σ.den):Prop:=
 ∃yd c dQ,v=.slice yd aW.length c/\lV (bP I B) w σ yd aW dQ/\dQ.flatten=[]
theorem Ri {l:List (List Nat)} (h:∀f∈l,f=[]):l.flatten=[]:=by
 induction l with
 |nil=>rfl
 |cons x r aZ=>rw[lu,h x (by simp),aZ (fun f aH=>h f (gC _ aH))];rfl
theorem lV.pure {M:dE->Nat->Prop} {σ:au} {ad:Option Addr} {aW:List σ.den} {dQ:List (List Nat)} (aw:σ.pure=true) (h:lV M w σ ad aW dQ):dQ.flatten=[]:=by
 refine Ri (fun f aH=>?_);obtain⟨ai,h⟩:=h;obtain⟨i,hi,rfl⟩:=jO.1 aH;rcases h with rfl|⟨b,o,_,h⟩
 ·simp only[vu] at ai;omega
 ·have d0:i<aW.length:=(by omega);obtain⟨ds,_,_,hr⟩:=h i aW[i] dQ[i] (by simp) (by simp);exact hr.pure aw
def oa.holds {σ:au} (r:oa σ) (aW:List σ.den):Prop:=
 match r with
 |.eh zs=>aW=zs
 |.part α jk f=>∃q:α,jk q/\aW=f q
 |.bad=>False
theorem oa.O4 {σ:au} {r:oa σ} {g:Nat->Prop} {f:List σ.den->bj} (h:(r.to g f).K Q):∃aW,r.holds aW/\g aW.length/\Q (f aW):=by
 unfold oa.to at h;cases r with
 |eh aW=>obtain⟨_,J,R⟩:=h;exact⟨aW,rfl,J,R⟩
 |part α jk k=>obtain⟨q,⟨J,R⟩,ac⟩:=h;exact⟨k q,⟨q,J,rfl⟩,R,ac⟩
 |bad=>exact h.elim
theorem Cy (aq:cx C st a.tmps w I rt fp) {σ:au} {y:Operand} {aW:List σ.den} (h:(xx st.h σ (bu st.g y)).holds aW):FG I C.B w σ (a.eval y) aW:=by
 have aB:=aq.bu y;unfold xx at h;generalize hv:a.eval y=v at aB;split at h
 ·rename_i m t zs jw;split at h
  case isFalse=>exact h.elim
  rename_i e;subst e;obtain rfl:aW=zs:=h;rw[jw] at aB;cases aB with|val r=>
  have B6:=r;obtain⟨_,ad,cap,rfl,_⟩:=B6;obtain⟨_,aE⟩:=lV.bM r;exact⟨ad,cap,_,rfl,aE,by simp⟩
 ·rename_i jw;obtain rfl:aW=[]:=h;rw[jw] at aB;cases aB;exact⟨none,0,[],rfl,⟨rfl,.inl rfl⟩,rfl⟩
 ·rename_i id p jw;split at h
  case h_2=>exact h.elim
  rename_i τ x ah;cases aw:σ.pure with
  |false=>rw[aw] at h;exact h.elim
  |true=>
   rw[aw] at h;obtain⟨zs,aG,rfl⟩:=h;rw[jw] at aB;cases aB with|ref bC ag=>
   rw[ah] at bC;cases bC;obtain⟨rfl,f,hr,_⟩:=aq.mL ah aG ag;have md:=hr;obtain⟨ad,cap,rfl,_⟩:=md;obtain⟨_,_,dQ,aE,_⟩:=lV.osl hr;exact⟨ad,cap,dQ,rfl,aE,aE.pure aw⟩
 ·rename_i id p lo hi jw;split at h
  case h_2=>exact h.elim
  rename_i τ x ah;cases aw:σ.pure with
  |false=>rw[aw] at h;exact h.elim
  |true=>
   rw[aw] at h;obtain⟨zs,aG,rfl⟩:=h;rw[jw] at aB;cases aB with|oE=>(exact⟨none,0,[],rfl,⟨rfl,.inl rfl⟩,rfl⟩)|view bC ag dp l2 mZ=>
   rename_i b off len cap;rw[ah] at bC;cases bC;obtain⟨e,f,hr,_⟩:=aq.mL ah aG ag;cases e;obtain⟨aA,_,dQ,aE,_⟩:=lV.osl hr;have d2:((zs.take hi).drop lo).length=hi-lo:=(by simp;omega);show FG I C.B w σ _ ((zs.take hi).drop lo);refine⟨_,cap-lo,(dQ.take hi).drop lo,by rw[d2],⟨by simp[aE.1],?_⟩,?_⟩
   ·obtain⟨ai,aE⟩:=aE;by_cases Hn:hi=lo
    ·left;apply qi;omega
    ·right;rcases aE with rfl|⟨c3,bR,e,aE⟩
     ·simp at d2;omega
     ·cases e;refine⟨b,_,rfl,fun i y f aB aH=>?_⟩;have kT:i<hi-lo:=(by rw[<-d2];exact(fu.1 aB).1);rw[n6,pH (by omega)] at aB aH;obtain⟨ds,cK,cG,c9⟩:=aE (lo+i) y f aB aH;refine⟨ds,cK,?_,c9⟩;rw[if_neg (by omega)];rwa[show off+lo*σ.size+i*σ.size=off+(lo+i)*σ.size by rw[ie];omega]
   ·have:=aE.pure aw;have hs:=Mx dQ lo hi;rw[this] at hs;exact List.sublist_nil.1 hs
 ·exact h.elim
theorem azT {M:dE->Nat->Prop} {t:au} {b off len cap lo hi:Nat} {xs:List t.den} {f:List Nat} (h:br M w (.osl t) [.slice (some ⟨b,off,none⟩) len cap] xs f) (eA:f.Nodup) (dp:lo<=hi) (l2:hi<=len) (mZ:len<=cap):∃f1,br M w (.osl t) [.slice (some ⟨b,if cap=lo then off else off+lo*t.size,none⟩) (hi-lo) (cap-lo)] ((xs.take hi).drop lo) f1/\f1.Nodup/\∀c∈f1,c∈f:=by
 obtain⟨ad,fW,ay,hr⟩:=h;simp only[hL,Value.slice.injEq,and_true] at ay;obtain⟨rfl,rfl,rfl⟩:=ay;rcases hr with⟨aV,_⟩|⟨c3,T5,dR,aV,rfl,aN,aM,bb,bH⟩
 ·cases aV
 cases aV;have d2:((xs.take hi).drop lo).length=hi-lo:=(by simp;omega);have fw:((dR.take hi).drop lo).flatten.Sublist dR.flatten:=Mx _ _ _;refine⟨b::((dR.take hi).drop lo).flatten,⟨some ⟨b,if cap=lo then off else off+lo*t.size,none⟩,cap-lo,by rw[d2],.inr ⟨b,_,(dR.take hi).drop lo,rfl,rfl,by simp[aN],by rw[d2];omega,?_,?_⟩⟩,?_,?_⟩
 ·intro j J R;by_cases hc:cap=lo
  ·subst hc;simp at J R;omega
  ·rw[if_neg hc] at J R;have:lo*t.size+(cap-lo)*t.size=cap*t.size:=(by rw[<-ie];congr 1;omega);exact bb j (by omega) (by omega)
 ·intro i y f aB aH;have kT:i<hi-lo:=(by rw[<-d2];exact(fu.1 aB).1);rw[n6,pH (by omega)] at aB aH;obtain⟨ds,cK,cG,c9⟩:=bH (lo+i) y f aB aH;refine⟨ds,cK,?_,c9⟩;rw[if_neg (by omega)];rwa[show off+lo*t.size+i*t.size=off+(lo+i)*t.size by rw[ie];omega]
 ·rw[mB] at eA|-;exact⟨fun ak=>eA.1 (fw.subset ak),eA.2.sublist fw⟩
 ·intro c hc;rcases d4.1 hc with rfl|hc
  ·simp
  ·exact gC _ (fw.subset hc)
theorem W4 {T:TypeId} {x y:Operand} (aJ:o.op=.call {callee:=.builtin .append,args:=#[x,y],argTypes:=#[T,T]}) {ew:Value} {w':World} (hr:(Builtin.append_ #[T,T] o.type #[a.eval x,a.eval y]).run E.P w=.ok ew w'):(execOp a.eval o).run E.P w=.ok (.value ew) w':=by simp only[execOp,aJ,resolve,invoke,builtin,Sem.run_bind,Sem.run_pure,Result.andThen_ok,FA,ff,xL,hr]
theorem d9.FK {T:TypeId} {x y:Operand} {d:Nat} (aJ:o.op=.call {callee:=.builtin .append,args:=#[x,y],argTypes:=#[T,T]}) (aP:o.dst=some d) (dc:C.ok d) (aq:cx C st a.tmps w I rt fp) {next:Act->World->Prop} {X:Exit->Act->World->Prop} (et:∀cz b9 w',Q cz->b9.defers=a.defers->gD C cz b9.tmps w'->next b9 w') {u σ:au} (bm:gr E.tt T=some u) (ai:bI u σ=true) (el:σ.size<=1300) {S:List Nat} (Hg:d∈S) {ad:Option Addr} {n cap:Nat} {xs aW:List σ.den} {f1:List Nat} {dQ:List (List Nat)} {yd:Option Addr} {c:Nat} (ab:a.eval x=.slice ad n cap) (aqf:br (bP I C.B) w (.osl σ) [.slice ad n cap] xs f1) (ky:f1.Nodup) (MY:∀b∈f1,∃i∈S,∃t,aD st.h i=some t/\b∈fp i) (aB:a.eval y=.slice yd aW.length c) (wh:lV (bP I C.B) w σ yd aW dQ) (sV:dQ.flatten.Nodup) (ZU:∀b∈dQ.flatten,∃i∈S,∃t,aD st.h i=some t/\b∈fp i) (MX:∀b∈f1,b∉dQ.flatten) (g9:xs.length+aW.length<=gS) (aj:Q ⟨(d,.ref d [])::kill S [] st.g,(d,⟨.osl σ,xs++aW⟩)::del S st.h⟩):o.wp E.P a w next X:=by
 obtain⟨i,Kf,J,aY,bG⟩:=gr.ok bm;have jd:=bG.lay ai;obtain⟨aaU,_,dv,_⟩:=jd.info;have ca:∀i t,aD st.h i=some t->∀b∈fp i,b<w.heap.size/\∀m,¬bP I C.B m b:=fun i t ah b aa=>⟨((aq.tree i t ah).2.2 b aa).2.2.1,aq.notM ah b aa⟩;obtain⟨ew,w',cE,b2,bo,_,bw,bV,cq,cV,ev,eQ,gx,f8,_,axC⟩:=W5 (P:=E.P) (ty:=o.type) aY jd dv.info el aqf (c:=c) wh ky (fun b aa=>by obtain⟨i,_,t,ah,hZ⟩:=MY b aa;exact(ca i t ah b hZ).2) sV MX (fun m b ak=>aq.ib b (qQ ak)) (fun b aa=>by obtain⟨i,_,t,ah,hZ⟩:=MY b aa;exact(ca i t ah b hZ).1) (fun b aa=>by obtain⟨i,_,t,ah,hZ⟩:=ZU b aa;exact(ca i t ah b hZ).1) g9;have eP:(execOp a.eval o).run E.P w=.ok (.value ew) w':=W4 (E:=E) aJ (by rw[ab,aB];exact b2);have aoW:∀b∈cE,(∃i∈S,∃t,aD st.h i=some t/\b∈fp i)\/(w.heap.size<=b/\b<w'.heap.size):=fun b aa=>by
  rcases bV b aa with h|h|h
  ·exact .inl (MY b h)
  ·exact .inl (ZU b h)
  ·exact .inr h
 have aR:=aq.fO (qo.one (st:=st) (C:=C) (rt:=rt) (w':=w') (I':=I) (S:=S) (d:=d) (t:=⟨.osl σ,xs++aW⟩) (cs:=[ew]) (f:=cE) (.inl Hg) cq cV ev eQ (fun b aa bE=>gx b aa (fun aH=>by obtain⟨i,hi,t,ah,hZ⟩:=MY b aH;exact bE i hi t ah hZ)) axC (fun _ h=>h) (fun _ h=>.inl h) bo bw (fun b aa=>by
   rcases aoW b aa with⟨i,hi,t,ah,hZ⟩|⟨bS,bt⟩
   ·obtain⟨aN,aM,bb,bH⟩:=(aq.tree i t ah).2.2 b hZ;exact⟨aN,by omega,.inr ⟨i,hi,t,ah,hZ⟩⟩
   ·exact⟨fun cU=>by have:=aq.ib b (.inl cU);omega,bt,.inl bS⟩))
 unfold Oper.wp;rw[eP];show next (a.put o.dst ew) w'
 rw[aP];refine et _ _ _ aj rfl ⟨I,_,_,aR.put dc (av:=.ref d []) ?_⟩;have:ew=cQ (.osl σ) [ew]:=rfl;rw[this];refine .ref (t:=⟨.osl σ,xs++aW⟩) (loc:=none) (by rw[lL,dq,if_pos rfl];rfl) ?_;rw[N2];exact bv.here
end
end
section
section
variable {E:eV} {C:eb} {st:bj} {a:Act} {b3:Array Value} {w:World} {I:Nat->Prop} {rt:Nat->List Value} {fp:Nat->List Nat} {o:Oper} {Q:bj->Prop}
theorem W7 {T:TypeId} {x y:Operand} {d:Nat} (aJ:o.op=.call {callee:=.builtin .append,args:=#[x,y],argTypes:=#[T,T]}) (aP:o.dst=some d) (dc:C.ok d) (aq:cx C st a.tmps w I rt fp) {next:Act->World->Prop} {X:Exit->Act->World->Prop} (et:∀cz b9 w',Q cz->b9.defers=a.defers->gD C cz b9.tmps w'->next b9 w') {u σ:au} (bm:gr E.tt T=some u) (ai:bI u σ=true) (el:σ.size<=1300) (fX:σ.f5=true) {id:Nat} {p:List bB} (nE:bu st.g x=.ref id p) {τ:au} {z:τ.den} (ah:aD st.h id=some ⟨τ,z⟩) (ki:aD st.h d=none) {xs aW:List σ.den} (aG:dD τ z p (.osl σ) xs) {S2:List Nat} (aB:∃yd c dQ,a.eval y=.slice yd aW.length c/\lV (bP I C.B) w σ yd aW dQ/\dQ.flatten.Nodup/\∀b∈dQ.flatten,∃i∈S2,∃t,aD st.h i=some t/\b∈fp i) (ur:∀i∈S2,i≠id/\∃u,aD st.h i=some u) (g9:xs.length+aW.length<=gS) (aj:Q ⟨(d,.app id p σ aW (d::S2))::kill [id] [(id,p),(id,[])] st.g,(d,⟨.dG,()⟩)::(id,⟨τ,z⟩)::del [id] st.h⟩):o.wp E.P a w next X:=by
 obtain⟨i,Kf,J,aY,bG⟩:=gr.ok bm;have jd:=bG.lay ai;obtain⟨aaU,_,dv,_⟩:=jd.info;have ab:=aq.bu x;rw[nE] at ab;generalize uF:a.eval x=VL at ab;cases ab with|ref bC ag=>
 rename_i τ' loc cs;rw[ah] at bC;cases bC;simp only at ag;obtain⟨b2,bo,a5⟩:=aq.tree id _ ah;obtain⟨dN,Qp,ij,dT,bS,bt,cY,c7,g0,kx,oi⟩:=G3 p (loc:=none) b2 (fun _ _ h=>by cases h) bo (fun _ _ h=>by cases h) (aq.notM ah) aG;obtain⟨ek,aA,aX⟩:=ag.ku bS;subst ek;subst aA;subst aX;have qD:=c7.nodup_iff.1 bo;rw[kL] at qD;obtain⟨lI,h1,o9⟩:=qD;obtain⟨ad,cap,rfl,_⟩:=(show br (bP I C.B) w (.osl σ) cs xs ij from bt);obtain⟨yd,c,dQ,Nt,wh,apc,sV⟩:=aB;have D8:∀b∈ij,b∈fp id:=fun b aa=>c7.mem_iff.2 (by simp[aa]);have ca:∀b∈fp id,b<w.heap.size/\∀m,¬bP I C.B m b:=fun b aa=>⟨(a5 b aa).2.2.1,aq.notM ah b aa⟩;have aaK:∀b∈dQ.flatten,b<w.heap.size:=fun b aa=>(by obtain⟨i,hi,t,D9,hZ⟩:=sV b aa;exact((aq.tree i t D9).2.2 b hZ).2.2.1);obtain⟨ew,w',cE,fA,hx,lm,r1,zo,Ji,U7,ayb,ayc,aeu,aya,_,Vi⟩:=W5 (P:=E.P) (ty:=o.type) aY jd dv.info el bt (c:=c) wh lI (fun b aa=>(ca b (D8 b aa)).2) apc (fun b aa je=>by
  obtain⟨i,hi,t,D9,hZ⟩:=sV b je;exact aq.dis id i _ t ah D9 (ur i hi).1.symm b (D8 b aa) hZ)
  (fun m b ak=>aq.ib b (qQ ak)) (fun b aa=>(ca b (D8 b aa)).1) aaK g9
 have eP:(execOp a.eval o).run E.P w=.ok (.value ew) w':=W4 (E:=E) aJ (by rw[uF,Nt];exact fA);have lJ:∀b∈dT,b<w.heap.size/\b∉ij:=fun b aa=>⟨(ca b (c7.mem_iff.2 (by simp[aa]))).1,fun h=>o9 b h b aa rfl⟩;have D6:∀b,(∃m,bP I C.B m b)\/b∈dT->df w w' b:=fun b aa=>by
  rcases aa with⟨m,ak⟩|aa
  ·exact aya m b ak
  ·exact .of_heap (aeu b (lJ b aa).1 (lJ b aa).2)
 have aoN:∀b bR,loc=some (b,bR)->eI w' b bR [.slice ad xs.length cap]:=fun b bR e=>by
  have aa:b∈dT:=by
   rcases g0 b bR e with⟨q,h,_⟩|h
   ·cases h
   ·exact h
  exact(cY b bR e).1.eR (D6 b (.inr aa))
 obtain⟨fD,g6,bk,_,bD,_,cm,kW⟩:=kx w' (bP I C.B) [.slice ad xs.length cap] xs ij z (fun _ _ h=>h) (fun b aa=>by
  have hs:df w w' b:=D6 b (by
   rcases aa with h|h|⟨bR,h⟩
   ·exact .inl h
   ·exact .inr h
   ·cases h)
  exact⟨fun j _=>(hs.1 j).1,fun j=>(hs.1 j).2,fun j=>by rw[(hs.1 j).1],hs.2⟩) lm (fun _ _=>rfl) aoN (er.same aG)
 obtain rfl:=bD rfl (.inr rfl);have rG:g6.Perm (fp id):=cm.trans c7.symm;have cX:d≠id:=fun e=>(by rw[e,ah] at ki;cases ki);have ZT:∀b∈cE,b∈ij\/b∈dQ.flatten\/(w.heap.size<=b/\b<w'.heap.size):=fun b aa=>zo b aa
 let G0:=cE.filter fun b=>decide (w.heap.size<=b)
 have R9:∀b∈G0,w.heap.size<=b/\b<w'.heap.size:=fun b aa=>by
  have cZ:=iv.1 aa;have J:w.heap.size<=b:=(by simpa using cZ.2);rcases ZT b cZ.1 with h|h|h
  ·have:=(ca b (D8 b h)).1;omega
  ·have:=aaK b h;omega
  ·exact h
 have aR:=aq.fO (S:=[id]) (keep:=[(id,p),(id,[])]) (new:=[(d,⟨.dG,()⟩),(id,⟨τ,z⟩)]) (rtn:=fun i=>if i=d then[] else rt id) (fpn:=fun i=>if i=d then G0 else g6) (w':=w') (I':=I) ⟨Ji,U7,ayb,ayc,fun b aa bE=>aeu b aa (fun h=>bE id (by simp) _ ah (D8 b h)),fun b aa=>.of_eq (Vi b aa),fun _ h=>h,fun _ h=>.inl h,(by
   intro i t' hi;rw[dq] at hi;split at hi
   ·rename_i e;subst e;cases hi;refine⟨.inr ki,(by simp only[if_true];exact rfl),(by simp only[if_true];exact r1.filter _),fun b aa=>?_⟩;simp only[if_true] at aa;obtain⟨aN,aM⟩:=R9 b aa;exact⟨fun cU=>by have:=aq.ib b (.inl cU);omega,aM,.inl aN⟩
   ·rw[dq] at hi;split at hi
    ·rename_i _ e;subst e;cases hi;have qE:¬(id=d):=fun e=>cX e.symm;refine⟨.inl (by simp),(by simp only[if_neg qE];exact bk),(by simp only[if_neg qE];rw[rG.nodup_iff];exact bo),fun b aa=>?_⟩;simp only[if_neg qE] at aa;rw[rG.mem_iff] at aa;exact⟨(a5 b aa).1,by have:=(a5 b aa).2.2.1;omega,.inr ⟨id,by simp,_,ah,aa⟩⟩
    ·cases hi),(by
   intro i j t1 t2 hi ao dJ b aa;have rF:∀k t',aD [(d,(⟨.dG,()⟩:a6)),(id,⟨τ,z⟩)] k=some t'->k=d\/k=id:=fun k t' ae=>by
    rw[dq] at ae;split at ae
    ·rename_i e;exact .inl e.symm
    ·rw[dq] at ae;split at ae
     ·rename_i _ e;exact .inr e.symm
     ·cases ae
   have qE:¬(id=d):=fun e=>cX e.symm;rcases rF i t1 hi with rfl|rfl<;>rcases rF j t2 ao with rfl|rfl
   ·exact absurd rfl dJ
   ·simp only[if_true] at aa;simp only[if_neg qE];rw[rG.mem_iff];intro h;have:=(ca b h).1;have:=(R9 b aa).1;omega
   ·simp only[if_neg qE] at aa;simp only[if_true];rw[rG.mem_iff] at aa;intro h;have:=(ca b aa).1;have:=(R9 b h).1;omega
   ·exact absurd rfl dJ),(by
   intro i hi t' bC;have d0:i=(id,p)\/i=(id,[]):=(by simpa using hi);have J:i.1=id:=by rcases d0 with rfl|rfl<;>rfl
   have bC:aD st.h id=some t':=(by rw[<-J];exact bC);rw[ah] at bC;obtain rfl:=fH bC;have qE:¬(id=d):=fun e=>cX e.symm;refine⟨⟨τ,z⟩,by rw[J,dq,if_neg cX,dq,if_pos rfl],rfl,by rw[J];simp only[if_neg qE],(by rcases d0 with rfl|rfl;exact⟨_,ag.ty⟩;exact⟨τ,by cases τ<;>rfl⟩),fun q _ _ _ ae aj=>?_⟩;rcases d0 with rfl|rfl
   ·exact kW.2 q _ _ _ ae aj
   ·rw[NM] at ae;cases ae),(by
   intro i hi t' bC q gA VO l2 cw anr aP fX h1 iE fm;have d0:i=(id,p)\/i=(id,[]):=(by simpa using hi);rcases d0 with rfl|rfl
   ·rw[ah] at bC;obtain rfl:=fH bC;have qE:¬(id=d):=fun e=>cX e.symm;refine⟨⟨τ,z⟩,by rw[dq,if_neg cX,dq,if_pos rfl],iE,fun c hc=>?_⟩;obtain⟨aN,aM⟩:=oi q _ _ _ _ _ aP (by exact fX) iE h1 fm c hc;exact⟨by simp only[if_neg qE];exact rG.mem_iff.2 (c7.mem_iff.2 (pI _ aN)),D6 c (.inr aN)⟩
   ·rw[AN] at aP;cases aP)⟩
 unfold Oper.wp;rw[eP];show next (a.put o.dst ew) w'
 rw[aP];refine et _ _ _ aj rfl ⟨I,_,_,aR.put dc (av:=.app id p σ aW (d::S2)) ?_⟩;have qE:¬(id=d):=fun e=>cX e.symm;have dp:aD ([(d,(⟨.dG,()⟩:a6)),(id,⟨τ,z⟩)]++del [id] st.h) id=some ⟨τ,z⟩:=(by rw[lL,dq,if_neg cX,dq,if_pos rfl];rfl);have l2:aD ([(d,(⟨.dG,()⟩:a6)),(id,⟨τ,z⟩)]++del [id] st.h) d=some ⟨.dG,()⟩:=(by rw[lL,dq,if_pos rfl];rfl);have iH:aD [(d,(⟨.dG,()⟩:a6)),(id,⟨τ,z⟩)] id=some ⟨τ,z⟩:=(by rw[dq,if_neg cX,dq,if_pos rfl]);have fE:aD [(d,(⟨.dG,()⟩:a6)),(id,⟨τ,z⟩)] d=some ⟨.dG,()⟩:=(by rw[dq,if_pos rfl]);have anM:en [(d,(⟨.dG,()⟩:a6)),(id,⟨τ,z⟩)] (fun i=>if i=d then G0 else g6) fp id=g6:=(by simp only[en,iH,if_neg qE]);have anL:en [(d,(⟨.dG,()⟩:a6)),(id,⟨τ,z⟩)] (fun i=>if i=d then G0 else g6) fp d=G0:=(by simp only[en,fE,if_true]);have ax0:en [(d,(⟨.dG,()⟩:a6)),(id,⟨τ,z⟩)] (fun i=>if i=d then[] else rt id) rt id=rt id:=(by simp only[en,iH,if_neg qE]);have Nb:bv w' τ none (rt id) p (.osl σ) loc [.slice ad xs.length cap]:=kW.1;refine .app (t:=⟨τ,z⟩) dp fX (by rw[ax0];exact Nb) aG lm (fun b aa=>by rw[anM,rG.mem_iff];exact D8 b aa) hx ?_ ?_ r1
 ·intro i hi;rcases d4.1 hi with rfl|hi
  ·exact⟨cX,_,l2⟩
  ·obtain⟨aN,i4,aM⟩:=ur i hi;have yt:¬(d=i):=fun e=>(by rw[<-e,ki] at aM;cases aM);refine⟨aN,i4,?_⟩;rw[lL,dq,if_neg yt,dq,if_neg (fun e=>aN e.symm),nP,if_neg (by simpa using aN),aM];rfl
 ·intro b aa;rcases ZT b aa with h|h|h
  ·exact .inl h
  ·obtain⟨i,hi,t,D9,hZ⟩:=sV b h;obtain⟨aN,_⟩:=ur i hi;have yt:¬(d=i):=fun e=>(by rw[<-e,ki] at D9;cases D9);have jg:aD [(d,(⟨.dG,()⟩:a6)),(id,⟨τ,z⟩)] i=none:=(by rw[dq,if_neg yt,dq,if_neg (fun e=>aN e.symm)];rfl);exact .inr ⟨i,gC _ hi,by simp only[en,jg];exact hZ⟩
  ·exact .inr ⟨d,by simp,by rw[anL];exact iv.2 ⟨aa,by simpa using h.1⟩⟩
theorem W6 {T:TypeId} {x y:Operand} {d:Nat} (aJ:o.op=.call {callee:=.builtin .append,args:=#[x,y],argTypes:=#[T,T]}) (aP:o.dst=some d) (dc:C.ok d) (aq:cx C st a.tmps w I rt fp) {next:Act->World->Prop} {X:Exit->Act->World->Prop} (et:∀cz b9 w',Q cz->b9.defers=a.defers->gD C cz b9.tmps w'->next b9 w') {u σ:au} (bm:gr E.tt T=some u) (ai:bI u σ=true) (el:σ.size<=1300) (fX:σ.f5=true) {id:Nat} {p:List bB} (nE:bu st.g x=.ref id p) {τ:au} {z:τ.den} (ah:aD st.h id=some ⟨τ,z⟩) (ki:aD st.h d=none) {xs aW:List σ.den} (aG:dD τ z p (.osl σ) xs) (aB:FG I C.B w σ (a.eval y) aW) (g9:xs.length+aW.length<=gS) (aj:Q ⟨(d,.app id p σ aW [d])::kill [id] [(id,p),(id,[])] st.g,(d,⟨.dG,()⟩)::(id,⟨τ,z⟩)::del [id] st.h⟩):o.wp E.P a w next X:=by obtain⟨yd,c,dQ,J,R,ac⟩:=aB;exact W7 (S2:=[]) aJ aP dc aq et bm ai el fX nE ah ki aG ⟨yd,c,dQ,J,R,by rw[ac];exact .nil,by rw[ac];simp⟩ (by simp) g9 aj
end
end
section
section
variable {E:eV} {C:eb} {st:bj} {o:Oper} {Q:bj->Prop}
theorem d9.app {an:List (Nat×au)} {T:TypeId} {x y:Operand} {d:Nat} (aJ:o.op=.call {callee:=.builtin .append,args:=#[x,y],argTypes:=#[T,T]}) (aP:o.dst=some d) (dc:C.ok d) (h:(Ks E.tt an st d T (bu st.g x) (bu st.g y)).K Q):d9 E C o st Q:=by
 rintro a w ⟨I,rt,fp,aq⟩ next X et
 have ab:=aq.bu x;unfold Ks at h;split at h
 ·exact h.elim
 rename_i u bm;split at h
 ·rename_i id ex;split at h
  case h_2=>exact h.elim
  rename_i σ xs ah;cases aa:(bI u σ&&Nat.ble σ.size 1300) with
  |false=>rw[aa] at h;exact h.elim
  |true=>
  rw[aa] at h;simp only[bW] at aa;obtain⟨ai,el⟩:=aa;have el:=fQ el;simp only[cond_true] at h;rw[ex] at ab;generalize uF:a.eval x=VL at ab;cases ab with|ref bC ag=>
  rw[ah] at bC;cases bC;obtain⟨aA,_,bY⟩:=bv.f6.1 ag;subst aA;subst bY;obtain⟨b2,bo,a5⟩:=aq.tree id _ ah;obtain⟨ad,cap,sU,_⟩:=(show br (bP I C.B) w (.osl σ) (rt id) xs (fp id) from b2);have aaB:a.eval x=.slice ad xs.length cap:=(by rw[uF];show(rt id).headD undef=_;rw[sU];rfl);have EO:br (bP I C.B) w (.osl σ) [.slice ad xs.length cap] xs (fp id):=(by rw[<-sU];exact b2);split at h
  ·rename_i c2 aw jw;split at h
   case h_2=>exact h.elim
   rename_i Pt aW lc;split at h
   case isFalse=>exact h.elim
   rename_i e;subst e;cases mN:Nat.beq id c2 with
   |true=>rw[mN] at h;exact h.elim
   |false=>
   rw[mN] at h;have cX:id≠c2:=fun e=>(by rw[e,xN] at mN;cases mN);obtain⟨_,g9,h⟩:=h;have aB:=aq.bu y;rw[jw] at aB;generalize wv:a.eval y=aBQ at aB;cases aB with|ref aar h1=>
   rw[lc] at aar;cases aar;obtain⟨aA,_,bY⟩:=bv.f6.1 h1;subst aA;subst bY;obtain⟨fA,hx,lm⟩:=aq.tree c2 _ lc;obtain⟨WL,Qb,ZM,_⟩:=(show br (bP I C.B) w (.osl Pt) (rt c2) aW (fp c2) from fA);have aqy:a.eval y=.slice WL aW.length Qb:=(by rw[wv];show(rt c2).headD undef=_;rw[ZM];rfl);have ax9:br (bP I C.B) w (.osl Pt) [.slice WL aW.length Qb] aW (fp c2):=(by rw[<-ZM];exact fA);obtain⟨_,_,dQ,aE,ky,mb,_⟩:=lV.osl ax9;exact d9.FK aJ aP dc aq et bm ai el (S:=[id,c2,d]) (by simp) aaB EO bo (fun b aa=>⟨id,by simp,_,ah,aa⟩) aqy aE (mb hx) (fun b aa=>⟨c2,by simp,_,lc,ky b aa⟩) (fun b aa cZ=>aq.dis id c2 _ _ ah lc cX b aa (ky b cZ)) g9 h
  ·obtain⟨aW,g2,g9,h⟩:=oa.O4 h;obtain⟨yd,c,dQ,wv,aE,aH⟩:=Cy aq g2;exact d9.FK aJ aP dc aq et bm ai el (S:=[id,d]) (by simp) aaB EO bo (fun b aa=>⟨id,by simp,_,ah,aa⟩) wv aE (by rw[aH];simp) (by rw[aH];simp) (by rw[aH];simp) g9 h
 ·rename_i id p yD ex;split at h
  case h_2=>exact h.elim
  rename_i τ z ah ki;split at h
  case h_2=>exact h.elim
  rename_i σ fZ;cases aa:(bI u σ&&Nat.ble σ.size 1300&&σ.f5) with
  |false=>rw[aa] at h;exact h.elim
  |true=>
  rw[aa] at h;simp only[bW] at aa;obtain⟨⟨ai,el⟩,fX⟩:=aa;have el:=fQ el;simp only[cond_true] at h;split at h
  ·rename_i aW g2;obtain⟨xs,⟨aG,g9⟩,h⟩:=h;exact W6 aJ aP dc aq et bm ai el fX ex ah ki aG (Cy aq (by rw[g2];exact rfl)) g9 h
  ·rename_i α jk f g2;obtain⟨⟨xs,q⟩,⟨aG,aqM,g9⟩,h⟩:=h;exact W6 aJ aP dc aq et bm ai el fX ex ah ki aG (Cy aq (by rw[g2];exact⟨q,aqM,rfl⟩)) g9 h
  ·exact h.elim
 ·rename_i id lo hi ex;split at h
  case h_2=>exact h.elim
  rename_i σ xs ah;cases aa:(bI u σ&&Nat.ble σ.size 1300) with
  |false=>rw[aa] at h;exact h.elim
  |true=>
  rw[aa] at h;simp only[bW] at aa;obtain⟨ai,el⟩:=aa;have el:=fQ el;simp only[cond_true] at h;rw[ex] at ab;obtain⟨b2,bo,a5⟩:=aq.tree id _ ah;generalize uF:a.eval x=VL at ab;cases ab with|oE=>(obtain⟨aW,g2,g9,h⟩:=oa.O4 h;obtain⟨yd,c,dQ,wv,aE,aH⟩:=Cy aq g2;exact d9.FK aJ aP dc aq et bm ai el (S:=[id,d]) (by simp) (xs:=[]) (f1:=[]) uF ⟨none,0,rfl,.inl ⟨rfl,rfl,rfl,rfl⟩⟩ (by simp) (by simp) wv aE (by rw[aH];simp) (by rw[aH];simp) (by simp) (by simpa using g9) (by simpa using h))|view bC ag dp l2 mZ=>
  rename_i b off len cap;rw[ah] at bC;cases bC;obtain⟨aA,_,bY⟩:=bv.f6.1 ag;cases aA;obtain⟨aW,g2,g9,h⟩:=oa.O4 h;obtain⟨yd,c,dQ,wv,aE,aH⟩:=Cy aq g2;rw[bY] at b2;obtain⟨f1,aN,aM,bb⟩:=azT (show br (bP I C.B) w (.osl σ) _ xs (fp id) from b2) bo dp l2 mZ;have d2:((xs.take hi).drop lo).length=hi-lo:=(by obtain⟨ay,_⟩:=lV.osl (show br (bP I C.B) w (.osl σ) _ xs (fp id) from b2);simp;omega);exact d9.FK aJ aP dc aq et bm ai el (S:=[id,d]) (by simp) uF aN aM (fun b aa=>⟨id,by simp,_,ah,bb b aa⟩) wv aE (by rw[aH];simp) (by rw[aH];simp) (by rw[aH];simp) g9 h
 ·rename_i ex;split at h
  case h_2=>exact h.elim
  rename_i σ oo;cases aa:(bI u σ&&Nat.ble σ.size 1300) with
  |false=>rw[aa] at h;exact h.elim
  |true=>
  rw[aa] at h;simp only[bW] at aa;obtain⟨ai,el⟩:=aa;have el:=fQ el;simp only[cond_true] at h;rw[ex] at ab;generalize uF:a.eval x=VL at ab;cases ab;obtain⟨aW,g2,g9,h⟩:=oa.O4 h;obtain⟨yd,c,dQ,wv,aE,aH⟩:=Cy aq g2;exact d9.FK aJ aP dc aq et bm ai el (S:=[d]) (by simp) (xs:=[]) (f1:=[]) uF ⟨none,0,rfl,.inl ⟨rfl,rfl,rfl,rfl⟩⟩ (by simp) (by simp) wv aE (by rw[aH];simp) (by rw[aH];simp) (by simp) (by simpa using g9) (by simpa using h)
 ·exact h.elim
end
end
section
def i9 (E:eV) (C:eb) (bA:Array Oper) (l:List Nat) (st:bj) (Q:bj->Prop):Prop:=
 ∀(a:Act) (w:World),gD C st a.tmps w->∀so:Exit->Act->World->Prop,(∀cz b9 w',Q cz->b9.defers=a.defers->gD C cz b9.tmps w'->so .normal b9 w')->wpOps E.P bA so l a w
def mu (bA:Array Oper) (st:bj) (o:Oper) (b:Bool):Prop:=
 match o.guard with
 |none=>b=true
 |some (j,kn)=>match(bA[j]?).bind (·.dst) with
  |some gk=>match gt st.g gk with
   |.val .bool x=>(x==kn)=b
   |.dh (.tuple _)=>b=false
   |_=>False
  |none=>False
section
variable {E:eV} {C:eb} {st:bj} {bA:Array Oper} {Q:bj->Prop}
theorem mu.ok {a:Act} {w:World} {I:Nat->Prop} {rt:Nat->List Value} {fp:Nat->List Nat} (aq:cx C st a.tmps w I rt fp) {o:Oper} {b:Bool} (h:mu bA st o b):Region.wanted o (yielded bA a.tmps)=b:=by
 unfold mu at h;unfold Region.wanted;split at h
 ·rename_i aG;rw[aG];exact h.symm
 ·rename_i j kn aG;rw[aG];split at h
  ·rename_i gk uv;split at h
   ·rename_i x ab;have:=aq.tmp gk;rw[ab] at this;generalize hv:a.tmps.getD gk undef=v at this;cases this with|val r=>
    obtain⟨_,rfl⟩:=r;have nG:a.tmps[gk]?=some (.bool x):=by
     rw[JZ] at hv;cases ay:a.tmps[gk]? with
     |none=>rw[ay] at hv;cases hv
     |some u=>rw[ay] at hv;simp only[xO] at hv;rw[hv];rfl
    simp only[yielded,uv,bq,nG];rw[<-h];cases x<;>cases kn<;>rfl
   ·rename_i l ab;have:=aq.tmp gk;rw[ab] at this;generalize hv:a.tmps.getD gk undef=v at this;cases this;subst h;simp only[yielded,uv,bq];rw[JZ] at hv;cases ay:a.tmps[gk]? with
    |none=>rfl
    |some u=>rw[ay] at hv;simp only[xO] at hv;rw[hv];rfl
   ·exact h.elim
  ·exact h.elim
theorem i9.nil (h:Q st):i9 E C bA [] st Q:=fun a w aq _ aj=>aj st a w h rfl aq
theorem i9.op {i:Nat} {l:List Nat} {o:Oper} (aJ:bA[i]?=some o) (hw:mu bA st o true) (h:d9 E C o st (fun cz=>i9 E C bA l cz Q)):i9 E C bA (i::l) st Q:=by intro a w aq so aj;obtain⟨I,rt,fp,eK⟩:=id aq;simp only[wpOps,aJ];rw[hw.ok eK,if_pos rfl];exact .inl (h a w aq _ _ (fun cz b9 w' ao aP hr=>ao b9 w' hr so (fun Vn c8 fe R k7 fm=>aj Vn c8 fe R (k7.trans aP) fm)))
theorem i9.skip {i d:Nat} {l:List Nat} {o:Oper} (aJ:bA[i]?=some o) (aP:o.dst=some d) (dc:C.ok d) (hw:mu bA st o false) (h:i9 E C bA l ⟨(d,.dh undef)::st.g,st.h⟩ Q):i9 E C bA (i::l) st Q:=by intro a w aq so aj;obtain⟨I,rt,fp,eK⟩:=id aq;simp only[wpOps,aJ];rw[hw.ok eK,if_neg (by simp),aP];exact h _ w ⟨I,rt,fp,eK.put dc (.dh undef)⟩ so (fun Vn c8 fe R k7 fm=>aj Vn c8 fe R k7 fm)
theorem gD.FT {b3:Array Value} {w:World} {st cz:bj} (h:gD C st b3 w) (aG:sx cz.g st) (ay:sy cz.h st) (hi:pg cz.g cz.h=true):gD C cz b3 w:=by obtain⟨I,rt,fp,aq⟩:=h;exact⟨I,rt,fp,aq.FT aG ay (pg.get hi)⟩
def de (E:eV) (C:eb) (c:Code) (st:bj) (Q:Exit->bj->Prop):Prop:=
 ∀(a:Act) (w:World),gD C st a.tmps w->a.defers=[]->c.wp E.P (fun e b9 w'=>∃cz,Q e cz/\gD C cz b9.tmps w'/\b9.defers=[]) a w
variable {cd:Exit->bj->Prop}
theorem de.azW {c:Code} {cz:bj} (aG:sx cz.g st) (ay:sy cz.h st) (hi:pg cz.g cz.h=true) (h:de E C c cz cd):de E C c st cd:=fun a w aq aP=>h a w (aq.FT aG ay hi) aP
theorem de.region {id:Nat} (h:i9 E C bA (List.range bA.size) st (fun cz=>cd .normal cz)):de E C (.region id bA false) st cd:=
 fun a w aq aP=>wp_region (h a w aq _ (fun cz _a' _w' aj qz hr=>⟨cz,aj,hr,qz.trans aP⟩))
theorem de.skip (h:cd .normal st):de E C .skip st cd:=fun _ _ aq aP=>wp_skip ⟨st,h,aq,aP⟩
theorem de.exit {id:Nat} (h:cd (.exit id) st):de E C (.exit id) st cd:=fun _ _ aq aP=>wp_exit ⟨st,h,aq,aP⟩
theorem de.ret (h:cd .ret st):de E C .ret st cd:=fun _ _ aq aP=>wp_ret ⟨st,h,aq,aP⟩
def ays (E:eV) (C:eb) (y:Code) (cd:Exit->bj->Prop):Exit->bj->Prop
 |.normal,s=>de E C y s cd
 |e,s=>cd e s
theorem de.seq {x y:Code} (h:de E C x st (ays E C y cd)):de E C (.seq x y) st cd:=fun a w aq aP=>by
 refine wp_seq (wp_mono (h a w aq aP) ?_);rintro e b9 w' ⟨cz,J,R,ac⟩;cases e with
 |normal=>exact J b9 w' R ac
 |_=>exact⟨cz,J,R,ac⟩
theorem de.cond {c:Operand} {x y:Code} {b:Bool} (hc:bu st.g c=.val .bool b) (ah:b=true->de E C x st cd) (aH:b=false->de E C y st cd):de E C (.cond c x y) st cd:=by
 rintro a w ⟨I,rt,fp,aq⟩ aP;have:=aq.bu c;rw[hc] at this;generalize hv:a.eval c=v at this;cases this with|val r=>
 obtain⟨_,rfl⟩:=r;exact wp_cond_split hv (fun h=>ah h a w ⟨I,rt,fp,aq⟩ aP) (fun h=>aH h a w ⟨I,rt,fp,aq⟩ aP)
def P4 (id:Nat) (cd:Exit->bj->Prop):Exit->bj->Prop
 |.exit j,s=>match Nat.beq j id with
  |true=>cd .normal s
  |false=>cd (.exit j) s
 |e,s=>cd e s
theorem de.block {id:Nat} {c:Code} (h:de E C c st (P4 id cd)):de E C (.block id c) st cd:=fun a w aq aP=>by
 refine wp_block (wp_mono (h a w aq aP) ?_);rintro e b9 w' ⟨cz,J,R,ac⟩;cases e with
 |exit j=>
  simp only[Exit.inBlock];simp only[P4] at J;by_cases ao:j=id
  ·subst ao;rw[xN] at J;rw[if_pos rfl];exact⟨cz,J,R,ac⟩
  ·have:Nat.beq j id=false:=by
    cases aa:Nat.beq j id
    ·rfl
    ·exact absurd (fi aa) ao
   rw[this] at J;rw[if_neg ao];exact⟨cz,J,R,ac⟩
 |_=>exact⟨cz,J,R,ac⟩
def kX {σ ρ:Type} (f:σ->Option (σ⊕ρ)):Nat->σ->Option ρ
 |0,_=>none
 |n+1,s=>match f s with
  |none=>none
  |some (.inl s')=>kX f n s'
  |some (.inr r)=>some r
open Classical in
def loop {σ ρ:Type} (f:σ->Option (σ⊕ρ)) (s:σ):Option ρ:=
 if h:∃r,∃n,kX f n s=some r then some h.choose else none
theorem Tx {σ ρ:Type} {f:σ->Option (σ⊕ρ)}:∀{n m:Nat} {s:σ} {r:ρ},n<=m->kX f n s=some r->kX f m s=some r
 |0,_,_,_,_,h=>by cases h
 |n+1,0,_,_,h,_=>by omega
 |n+1,m+1,s,r,ai,h=>by
  simp only[kX] at h|-;split at h
  ·cases h
  ·exact Tx (by omega) h
  ·exact h
theorem Ii {σ ρ:Type} {f:σ->Option (σ⊕ρ)} {s:σ} {r:ρ}:loop f s=some r↔∃n,kX f n s=some r:=by
 unfold loop;constructor
 ·intro h;split at h
  ·rename_i ay;obtain⟨n,ag⟩:=ay.choose_spec;exact⟨n,by rw[ag];exact h⟩
  ·cases h
 ·rintro⟨n,ag⟩;have ay:∃r,∃n,kX f n s=some r:=⟨r,n,ag⟩;rw[dif_pos ay];obtain⟨m,ak⟩:=ay.choose_spec;have J:=Tx (Nat.le_max_left n m) ag;have R:=Tx (Nat.le_max_right n m) ak;rw[J] at R;exact R.symm
theorem arU {σ ρ:Type} (f:σ->Option (σ⊕ρ)) (s:σ):loop f s=match f s with
 |none=>none
 |some (.inl s')=>loop f s'
 |some (.inr r)=>some r:=by
 apply Option.ext;intro r;rw[Ii];cases aH:f s with
 |none=>
  simp only[reduceCtorEq,iff_false];rintro⟨n,ag⟩;cases n with
  |zero=>cases ag
  |succ n=>simp only[kX,aH] at ag;cases ag
 |some o=>
  cases o with
  |inl s'=>
   simp only;rw[Ii];constructor
   ·rintro⟨n,ag⟩;cases n with
    |zero=>cases ag
    |succ n=>simp only[kX,aH] at ag;exact⟨n,ag⟩
   ·rintro⟨n,ag⟩;exact⟨n+1,by simp only[kX,aH];exact ag⟩
  |inr r'=>
   simp only;constructor
   ·rintro⟨n,ag⟩;cases n with
    |zero=>cases ag
    |succ n=>simp only[kX,aH] at ag;exact ag
   ·intro h;exact⟨1,by simp only[kX,aH];exact h⟩
theorem de.loop {σ ρ aT:Type} {c:Code} (mI:σ->bj) {f:σ->Option (σ⊕ρ)} {kG:σ} {k:ρ->Option aT} {res:aT} (h:(loop f kG).bind k=some res) (aG:sx (mI kG).g st) (ay:sy (mI kG).h st) (hi:pg (mI kG).g (mI kG).h=true) (aoQ:∀s o,f s=some o->(match o with|.inl _=>True|.inr r=>k r=some res)->de E C c (mI s) (fun e cz=>match o with
  |.inl s'=>e=.normal/\sx (mI s').g cz/\sy (mI s').h cz/\pg (mI s').g (mI s').h=true
  |.inr _=>(e=.normal->False)/\cd e cz)):de E C (.loop c) st cd:=by
 obtain⟨r,hr,ae⟩:=dA.1 h;obtain⟨n,ag⟩:=Ii.1 hr;have key:∀(n:Nat) (s:σ) (a:Act) (w:World),kX f n s=some r->gD C (mI s) a.tmps w->a.defers=[]->∀(b:Frame) (k:List Item) (cs:List Frame),
  ∃e b9 w',(∃cz,cd e cz/\gD C cz b9.tmps w'/\b9.defers=[])/\Arrives E.P (lone (b.at a (.code c::.inLoop c::k)) cs w) b k cs e b9 w':=by
  intro n
  induction n with
  |zero=>intro s a w ag;cases ag
  |succ n aZ=>
   intro s a w ag aq aP b c0 cs;simp only[kX] at ag;cases aH:f s with
   |none=>rw[aH] at ag;cases ag
   |some o=>
    rw[aH] at ag;have aa:=aoQ s o aH (by
     cases o with
     |inl s'=>trivial
     |inr r'=>simp only at ag;cases ag;exact ae)
    obtain⟨e,C3,Fa,⟨Ju,aj,kB,mP⟩,yq⟩:=aa a w aq aP b (.inLoop c::c0) cs;cases o with
    |inl s'=>
     simp only at ag aj;obtain⟨rfl,aN,aM,bb⟩:=aj;obtain⟨anq,akr,az2,ap7,aoM⟩:=aZ s' C3 Fa ag (kB.FT aN aM bb) mP b c0 cs;exact⟨anq,akr,az2,ap7,.of_steps (Steps.trans yq (.one step_inLoop)) aoM⟩
    |inr r'=>
     obtain⟨cX,aj⟩:=aj;cases e with
     |normal=>exact(cX rfl).elim
     |exit id=>exact⟨_,C3,Fa,⟨Ju,aj,kB,mP⟩,.pass (x:=.inLoop c) rfl (fun _ _=>.inl (by simp)) yq⟩
     |goto l=>exact⟨_,C3,Fa,⟨Ju,aj,kB,mP⟩,.pass (x:=.inLoop c) rfl (fun _ _=>.inl (by simp)) yq⟩
     |ret=>exact⟨_,C3,Fa,⟨Ju,aj,kB,mP⟩,.pass (x:=.inLoop c) rfl (fun _ _=>.inl (by simp)) yq⟩
     |panic aA2=>exact⟨_,C3,Fa,⟨Ju,aj,kB,mP⟩,.pass (x:=.inLoop c) rfl (fun _ _=>.inl (by simp)) yq⟩
     |outgrown=>exact⟨_,C3,Fa,⟨Ju,aj,kB,mP⟩,.pass (x:=.inLoop c) rfl (fun _ _=>.inl (by simp)) yq⟩
 refine de.azW aG ay hi (fun a w aq aP b c0 cs=>?_);obtain⟨e,b9,w',aj,yq⟩:=key n kG a w ag aq aP b c0 cs;exact⟨e,b9,w',aj,.of_steps (.one step_loop) yq⟩
end
end
end Go.mz
end

import Derived.Test.YthfgmmmeplanbaaGreatDoorPB
import Derived.Test.YthfgmmmeplanbaaGreatDoorGA
import Derived.Test.YthfgmmmeplanbaaGreatDoorGB
import Derived.Test.YthfgmmmeplanbaaGreatDoorGC
namespace Go.Proofs.YthfgmmmeplanbaaGreatDoor
open Go.RowKit
set_option linter.unusedVariables false
set_option linter.unusedSimpArgs false
theorem sz_Int64S(x)(h0:0≤x.2.1)(h1:x.2.1≤1048576)(h:x.1.length≤maxLen):l_szInt64S x=some ((if x.2.1-(x.1.length:Int)<0 then(-1:Int)else x.2.1-(x.1.length:Int)),()):=
 sz_ok (g:=l_szInt64S) (fun _ _=>by kernel_rfl) x.1 x.2.1 h0 h1 h
theorem sz_SlotInfoS(x)(h0:0≤x.2.1)(h1:x.2.1≤1048576)(h:x.1.length≤maxLen):l_szSlotInfoS x=some ((if x.2.1-(x.1.length:Int)<0 then(-1:Int)else x.2.1-(x.1.length:Int)),()):=
 sz_ok (g:=l_szSlotInfoS) (fun _ _=>by kernel_rfl) x.1 x.2.1 h0 h1 h
theorem sz_FaultS(x)(h0:0≤x.2.1)(h1:x.2.1≤1048576)(h:x.1.length≤maxLen):l_szFaultS x=some ((if x.2.1-(x.1.length:Int)<0 then(-1:Int)else x.2.1-(x.1.length:Int)),()):=
 sz_ok (g:=l_szFaultS) (fun _ _=>by kernel_rfl) x.1 x.2.1 h0 h1 h
theorem to_NodeInfo(x):l_toNodeInfo x=some (x.1,()):=rfl
theorem to_NodeInfoS(x)(hl:x.1.length≤1099511627776):l_toNodeInfoS x=some (x.1,()):=
 toS_ok (g:=l_toNodeInfoS) (B:=b_l_toNodeInfoS_3) (z:=(((0:Int),([],((0:Int),(false,())))):Ty.T TNodeInfo)) (fun _=>by kernel_rfl) x.1 hl (fun s=>by simp only[b_l_toNodeInfoS_3,lt_n]) (fun s i h h'=>by
  simp only[b_l_toNodeInfoS_3,lt_i h,lt_n,next_i h hl,idx_nat h,onSome,idx_nat h',to_NodeInfo,Int.toNat_natCast,List.getElem?_eq_getElem h'])
theorem to_Int64S(x)(hl:x.1.length≤1099511627776):l_toInt64S x=some (x.1,()):=
 toS_ok (g:=l_toInt64S) (B:=b_l_toInt64S_3) (z:=((0:Int):Ty.T (.int .i64))) (fun _=>by kernel_rfl) x.1 hl (fun s=>by simp only[b_l_toInt64S_3,lt_n]) (fun s i h h'=>by
  simp only[b_l_toInt64S_3,lt_i h,lt_n,next_i h hl,idx_nat h,onSome,idx_nat h',Int.toNat_natCast,List.getElem?_eq_getElem h'])
theorem to_Descriptor(x):l_toDescriptor x=some (x.1,()):=rfl
theorem to_SlotInfo(x):l_toSlotInfo x=some (x.1,()):=rfl
theorem to_SlotInfoS(x)(hl:x.1.length≤1099511627776):l_toSlotInfoS x=some (x.1,()):=
 toS_ok (g:=l_toSlotInfoS) (B:=b_l_toSlotInfoS_3) (z:=(((0:Int),((0:Int),((0:Int),(((0:Int),((0:Int),((0:Int),((0:Int),(false,()))))),())))):Ty.T TSlotInfo)) (fun _=>by kernel_rfl) x.1 hl (fun s=>by simp only[b_l_toSlotInfoS_3,lt_n]) (fun s i h h'=>by
  simp only[b_l_toSlotInfoS_3,lt_i h,lt_n,next_i h hl,idx_nat h,onSome,idx_nat h',to_SlotInfo,Int.toNat_natCast,List.getElem?_eq_getElem h'])
theorem to_State(x):l_toState x=some (x.1,()):=rfl
theorem to_Fault(x):l_toFault x=some (x.1,()):=rfl
theorem to_FaultS(x)(hl:x.1.length≤1099511627776):l_toFaultS x=some (x.1,()):=
 toS_ok (g:=l_toFaultS) (B:=b_l_toFaultS_3) (z:=(((0:Int),((0:Int),((0:Int),((0:Int),())))):Ty.T TFault)) (fun _=>by kernel_rfl) x.1 hl (fun s=>by simp only[b_l_toFaultS_3,lt_n]) (fun s i h h'=>by
  simp only[b_l_toFaultS_3,lt_i h,lt_n,next_i h hl,idx_nat h,onSome,idx_nat h',to_Fault,Int.toNat_natCast,List.getElem?_eq_getElem h'])
theorem index_SlotInfo(l:List (Ty.T TSlotInfo))(hl:l.length≤1099511627776)(p:(Ty.pair TSlotInfo .unit).T→Option (Ty.pair .bool .unit).T)(q:Ty.T TSlotInfo→Bool)(hq:∀i (h:i<l.length),p (l[i],())=some (q l[i],())):
 slices_IndexFunc_SlotInfo (l,p,())=some ((match firstI q 0 l with|none=>(-1:Int)|some i=>(i:Int)),()):=by
 have e:=first_ok (B:=b_slices_IndexFunc_SlotInfo_2) l (fun i=>(l,p,(l.length:Int),(i:Int),())) q (.inl ()) (fun i=>.inr ((i:Int),())) (by simp only[b_slices_IndexFunc_SlotInfo_2,lt_n]) (fun i h=>by
  simp only[b_slices_IndexFunc_SlotInfo_2,lt_i h,next_i h hl,idx_nat h,onSome,hq i h]
  cases q l[i]<;>simp)
 have e0:slices_IndexFunc_SlotInfo (l,p,())=match loopL b_slices_IndexFunc_SlotInfo_2 (l,p,(l.length:Int),((0:Nat):Int),())with
  |none=>none
  |some (.inl _)=>some ((-1:Int),())
  |some (.inr v4)=>some (v4.1,()):=rfl
 rw[e0,e]
 cases firstI q 0 l<;>rfl
theorem index_NodeInfo(l:List (Ty.T TNodeInfo))(hl:l.length≤1099511627776)(p:(Ty.pair TNodeInfo .unit).T→Option (Ty.pair .bool .unit).T)(q:Ty.T TNodeInfo→Bool)(hq:∀i (h:i<l.length),p (l[i],())=some (q l[i],())):
 slices_IndexFunc_NodeInfo (l,p,())=some ((match firstI q 0 l with|none=>(-1:Int)|some i=>(i:Int)),()):=by
 have e:=first_ok (B:=b_slices_IndexFunc_NodeInfo_2) l (fun i=>(l,p,(l.length:Int),(i:Int),())) q (.inl ()) (fun i=>.inr ((i:Int),())) (by simp only[b_slices_IndexFunc_NodeInfo_2,lt_n]) (fun i h=>by
  simp only[b_slices_IndexFunc_NodeInfo_2,lt_i h,next_i h hl,idx_nat h,onSome,hq i h]
  cases q l[i]<;>simp)
 have e0:slices_IndexFunc_NodeInfo (l,p,())=match loopL b_slices_IndexFunc_NodeInfo_2 (l,p,(l.length:Int),((0:Nat):Int),())with
  |none=>none
  |some (.inl _)=>some ((-1:Int),())
  |some (.inr v4)=>some (v4.1,()):=rfl
 rw[e0,e]
 cases firstI q 0 l<;>rfl
theorem contains_NodeInfo(l:List (Ty.T TNodeInfo))(hl:l.length≤1099511627776)(p:(Ty.pair TNodeInfo .unit).T→Option (Ty.pair .bool .unit).T)(q:Ty.T TNodeInfo→Bool)(hq:∀i (h:i<l.length),p (l[i],())=some (q l[i],())):
 slices_ContainsFunc_NodeInfo (l,p,())=some (l.any q,()):=by
 have e0:slices_ContainsFunc_NodeInfo (l,p,())=match slices_IndexFunc_NodeInfo (l,p,())with
  |none=>none
  |some v1=>some ((decide (v1.1≥(0:Int))),()):=rfl
 rw[e0,index_NodeInfo l hl p q hq,←firstI_any q 0 l]
 cases firstI q 0 l<;>simp
theorem contains_SlotInfo(l:List (Ty.T TSlotInfo))(hl:l.length≤1099511627776)(p:(Ty.pair TSlotInfo .unit).T→Option (Ty.pair .bool .unit).T)(q:Ty.T TSlotInfo→Bool)(hq:∀i (h:i<l.length),p (l[i],())=some (q l[i],())):
 slices_ContainsFunc_SlotInfo (l,p,())=some (l.any q,()):=by
 have e0:slices_ContainsFunc_SlotInfo (l,p,())=match slices_IndexFunc_SlotInfo (l,p,())with
  |none=>none
  |some v1=>some ((decide (v1.1≥(0:Int))),()):=rfl
 rw[e0,index_SlotInfo l hl p q hq,←firstI_any q 0 l]
 cases firstI q 0 l<;>simp
theorem index_Fault(l:List (Ty.T TFault))(hl:l.length≤1099511627776)(p:(Ty.pair TFault .unit).T→Option (Ty.pair .bool .unit).T)(q:Ty.T TFault→Bool)(hq:∀i (h:i<l.length),p (l[i],())=some (q l[i],())):
 slices_IndexFunc_Fault (l,p,())=some ((match firstI q 0 l with|none=>(-1:Int)|some i=>(i:Int)),()):=by
 have e:=first_ok (B:=b_slices_IndexFunc_Fault_2) l (fun i=>(l,p,(l.length:Int),(i:Int),())) q (.inl ()) (fun i=>.inr ((i:Int),())) (by simp only[b_slices_IndexFunc_Fault_2,lt_n]) (fun i h=>by
  simp only[b_slices_IndexFunc_Fault_2,lt_i h,next_i h hl,idx_nat h,onSome,hq i h]
  cases q l[i]<;>simp)
 have e0:slices_IndexFunc_Fault (l,p,())=match loopL b_slices_IndexFunc_Fault_2 (l,p,(l.length:Int),((0:Nat):Int),())with
  |none=>none
  |some (.inl _)=>some ((-1:Int),())
  |some (.inr v4)=>some (v4.1,()):=rfl
 rw[e0,e]
 cases firstI q 0 l<;>rfl
theorem contains_Fault(l:List (Ty.T TFault))(hl:l.length≤1099511627776)(p:(Ty.pair TFault .unit).T→Option (Ty.pair .bool .unit).T)(q:Ty.T TFault→Bool)(hq:∀i (h:i<l.length),p (l[i],())=some (q l[i],())):
 slices_ContainsFunc_Fault (l,p,())=some (l.any q,()):=by
 have e0:slices_ContainsFunc_Fault (l,p,())=match slices_IndexFunc_Fault (l,p,())with
  |none=>none
  |some v1=>some ((decide (v1.1≥(0:Int))),()):=rfl
 rw[e0,index_Fault l hl p q hq,←firstI_any q 0 l]
 cases firstI q 0 l<;>simp
theorem eq_State(x)(h:x.2.1=x.1):l_eqState x=some (true,()):=by
 unfold l_eqState
 rw[h]
 simp
theorem eq_Int64S(x)(h:x.2.1=x.1)(hl:x.1.length≤1099511627776):l_eqInt64S x=some (true,()):=by
 obtain⟨l,m,u⟩:=x
 obtain rfl:m=l:=h
 have hl:m.length≤1099511627776:=hl
 exact eqS_ok (g:=l_eqInt64S) (B:=b_l_eqInt64S_4) (fun _=>by kernel_rfl) m (by simp only[b_l_eqInt64S_4,lt_n]) (fun i h=>by
  simp only[b_l_eqInt64S_4,lt_i h,lt_n,next_i h hl,idx_nat h,onSome]
  simp)
theorem eq_NodeInfo(x)(h:x.2.1=x.1):l_eqNodeInfo x=some (true,()):=by
 unfold l_eqNodeInfo
 rw[h]
 simp
theorem eq_NodeInfoS(x)(h:x.2.1=x.1)(hl:x.1.length≤1099511627776):l_eqNodeInfoS x=some (true,()):=by
 obtain⟨l,m,u⟩:=x
 obtain rfl:m=l:=h
 have hl:m.length≤1099511627776:=hl
 exact eqS_ok (g:=l_eqNodeInfoS) (B:=b_l_eqNodeInfoS_4) (fun _=>by kernel_rfl) m (by simp only[b_l_eqNodeInfoS_4,lt_n]) (fun i h=>by
  simp only[b_l_eqNodeInfoS_4,lt_i h,lt_n,next_i h hl,idx_nat h,onSome]
  rw[eq_NodeInfo _ rfl]
  simp)
theorem eq_Descriptor(x)(h:x.2.1=x.1):l_eqDescriptor x=some (true,()):=by
 unfold l_eqDescriptor
 rw[h]
 simp
theorem eq_SlotInfo(x)(h:x.2.1=x.1):l_eqSlotInfo x=some (true,()):=by
 unfold l_eqSlotInfo
 rw[h]
 simp[eq_Descriptor]
theorem eq_SlotInfoS(x)(h:x.2.1=x.1)(hl:x.1.length≤1099511627776):l_eqSlotInfoS x=some (true,()):=by
 obtain⟨l,m,u⟩:=x
 obtain rfl:m=l:=h
 have hl:m.length≤1099511627776:=hl
 exact eqS_ok (g:=l_eqSlotInfoS) (B:=b_l_eqSlotInfoS_4) (fun _=>by kernel_rfl) m (by simp only[b_l_eqSlotInfoS_4,lt_n]) (fun i h=>by
  simp only[b_l_eqSlotInfoS_4,lt_i h,lt_n,next_i h hl,idx_nat h,onSome]
  rw[eq_SlotInfo _ rfl]
  simp)
theorem eq_Fault(x)(h:x.2.1=x.1):l_eqFault x=some (true,()):=by
 unfold l_eqFault
 rw[h]
 simp
theorem eq_FaultS(x)(h:x.2.1=x.1)(hl:x.1.length≤1099511627776):l_eqFaultS x=some (true,()):=by
 obtain⟨l,m,u⟩:=x
 obtain rfl:m=l:=h
 have hl:m.length≤1099511627776:=hl
 exact eqS_ok (g:=l_eqFaultS) (B:=b_l_eqFaultS_4) (fun _=>by kernel_rfl) m (by simp only[b_l_eqFaultS_4,lt_n]) (fun i h=>by
  simp only[b_l_eqFaultS_4,lt_i h,lt_n,next_i h hl,idx_nat h,onSome]
  rw[eq_Fault _ rfl]
  simp)
def f_Int64(_:Ty.T (.int .i64))(q:Int):Ty.T (.int .i64)×Int:=(q,(IntKind.i64.wrap (q+(1:Int))))
theorem n_Int64(v:Ty.T (.int .i64))(q:Int)(h0:0≤q)(h1:q≤2305843009213693952):(f_Int64 v q).2=q+(1:Nat):=by
 simp only[f_Int64]
 repeat' first|omega|rw[next_w]
theorem mark_Int64S(x)(hl:x.1.length≤1099511627776):l_markInt64S x=some ((marks f_Int64 x.1 x.2.1).2,(marks f_Int64 x.1 x.2.1).1,()):=
 mark_ok (g:=l_markInt64S) (B:=b_l_markInt64S_2) (fun _ _=>by kernel_rfl) x.1 x.2.1 (fun s q hs=>by simp only[b_l_markInt64S_2,←hs,lt_n]) (fun s q i h h' hs _=>by
  have hl':s.length≤1099511627776:=hs▸hl
  have hs':(s.length:Int)=x.1.length:=by rw[hs]
  simp only[b_l_markInt64S_2,hs',lt_i h,next_i h hl,idx_nat h',onSome,Int.toNat_natCast,List.getElem?_eq_getElem h',List.length_set,idx,List.getElem?_set,List.set_set,List.getElem?_set_self,Int.natCast_nonneg,if_true,h',f_Int64])
theorem q_Int64S(l:List (Ty.T (.int .i64)))(hl:l.length≤1099511627776)(q:Int)(h0:0≤q)(h1:q≤1152921504606846976):(marks f_Int64 l q).2=q+(l.length:Int)*(1:Nat):=
 marks_flat (by decide) (fun v q h0 h1=>n_Int64 v q h0 h1) l q h0 (by omega)
def f_Fault(_:Ty.T TFault)(q:Int):Ty.T TFault×Int:=((q,((IntKind.i64.wrap (q+(1:Int))),((IntKind.i64.wrap ((IntKind.i64.wrap (q+(1:Int)))+(1:Int))),((IntKind.i64.wrap ((IntKind.i64.wrap ((IntKind.i64.wrap (q+(1:Int)))+(1:Int)))+(1:Int))),())))),(IntKind.i64.wrap ((IntKind.i64.wrap ((IntKind.i64.wrap ((IntKind.i64.wrap (q+(1:Int)))+(1:Int)))+(1:Int)))+(1:Int))))
theorem n_Fault(v:Ty.T TFault)(q:Int)(h0:0≤q)(h1:q≤2305843009213693952):(f_Fault v q).2=q+(4:Nat):=by
 simp only[f_Fault]
 repeat' first|omega|rw[next_w]
theorem mark_FaultS(x)(hl:x.1.length≤1099511627776):l_markFaultS x=some ((marks f_Fault x.1 x.2.1).2,(marks f_Fault x.1 x.2.1).1,()):=
 mark_ok (g:=l_markFaultS) (B:=b_l_markFaultS_2) (fun _ _=>by kernel_rfl) x.1 x.2.1 (fun s q hs=>by simp only[b_l_markFaultS_2,←hs,lt_n]) (fun s q i h h' hs _=>by
  have hl':s.length≤1099511627776:=hs▸hl
  have hs':(s.length:Int)=x.1.length:=by rw[hs]
  simp only[b_l_markFaultS_2,hs',lt_i h,next_i h hl,idx_nat h',onSome,Int.toNat_natCast,List.getElem?_eq_getElem h',List.length_set,idx,List.getElem?_set,List.set_set,List.getElem?_set_self,Int.natCast_nonneg,if_true,h',f_Fault])
theorem q_FaultS(l:List (Ty.T TFault))(hl:l.length≤1099511627776)(q:Int)(h0:0≤q)(h1:q≤1152921504606846976):(marks f_Fault l q).2=q+(l.length:Int)*(4:Nat):=
 marks_flat (by decide) (fun v q h0 h1=>n_Fault v q h0 h1) l q h0 (by omega)
theorem held_Int64S(l:List (Ty.T (.int .i64)))(hl:l.length≤1099511627776)(x)(h0:x.1=(marks f_Int64 l x.2.1).1):l_heldInt64S x=some ((marks f_Int64 l x.2.1).2,()):=
 held_ok (g:=l_heldInt64S) (B:=b_l_heldInt64S_2) (fun _ _=>by kernel_rfl) l x.1 x.2.1 h0 (fun q=>by simp only[b_l_heldInt64S_2,lt_n]) (fun q v i h hi _=>by
  have hl':x.1.length≤1099511627776:=by rw[h0,marks_length];exact hl
  simp only[b_l_heldInt64S_2,lt_i h,next_i h hl',idx_nat h,onSome]
  rw[hi]
  simp[f_Int64])
end Go.Proofs.YthfgmmmeplanbaaGreatDoor
